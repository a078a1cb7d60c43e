/- The reference's graph in memory; find, Has, ready. -/
import Derived.Test.YtccpblefebjadaaC3
import Derived.Test.YtccpblefebjadaaA17
import Derived.Laws.OwnMore
namespace Go.Proofs.Ytccpblefebjadaa
open Go.RowKit Go.Maps Go.WideMaps Go.Sort Go.Shelf
open Go.Proofs (encStr)
open M (Rising keys get Graph Stands Searched)

theorem vint {a b : Int} (h : a = b) : Value.int .i64 a = Value.int .i64 b := by rw [h]
structure RN where
  id : Bs
  pv : Value
  ps : List Bs
  inn : Bool
instance : Inhabited RN := ⟨⟨[], undef, [], false⟩⟩
def RN.cells (n : RN) : List Value := [encStr n.id, n.pv, .bool n.inn]
def rcells (D : List RN) : List Value := D.flatMap RN.cells
theorem rcells_len (D : List RN) : (rcells D).length = D.length * 3 := by
  induction D with
  | nil => rfl
  | cons n r ih => simp [rcells, RN.cells] at ih ⊢; omega
theorem rcells_at : ∀ (D : List RN) (j i : Nat), j < D.length → i < 3 → (rcells D)[j * 3 + i]? = (D.getD j default).cells[i]?
  | n :: D, 0, i, _, hi => by
    have : i < (RN.cells n).length := by simp [RN.cells]; omega
    show ((RN.cells n) ++ rcells D)[0 * 3 + i]? = _
    rw [List.getElem?_append_left (by omega)]; simp
  | n :: D, j + 1, i, hj, hi => by
    have ih := rcells_at D j i (by simpa using hj) hi
    show ((RN.cells n) ++ rcells D)[(j + 1) * 3 + i]? = _
    rw [List.getElem?_append_right (by simp [RN.cells]; omega), show (j + 1) * 3 + i - (RN.cells n).length = j * 3 + i by simp [RN.cells]; omega, ih]
    simp
  | [], _, _, hj, _ => by simp at hj

/-- The reference's graph: its list in a row of its own, the parents' slices elsewhere. R: all its blocks. -/
structure RefAt (w : World) (R : Nat → Prop) (r : Nat) (v : Value) (D : List RN) : Prop where
  cell : w.cell? ⟨r, 0, none⟩ = some v
  row : w.ownsRow 0 42 3 v D.length (rcells D)
  own : ∀ g, v.ownBlock = some g → R g ∧ g ≠ r
  pr : R r
  fz : w.frozen? ⟨r, 0, none⟩ = false
  par : ∀ n ∈ D, Strs w (fun b => R b ∧ b ≠ r ∧ v.ownBlock ≠ some b) n.pv n.ps
  lt : ∀ i, R i → i < w.heap.size
  ids : ∀ n ∈ D, n.id.length ≤ 1000
  len : D.length ≤ 100
  six : ∀ n ∈ D, n.ps.length ≤ 6
  up : D.Pairwise fun a b => a.id < b.id

theorem RefAt.same {w w' : World} {R : Nat → Prop} {r : Nat} {v : Value} {D : List RN} (h : RefAt w R r v D) (hs : w.heap.size ≤ w'.heap.size) (hb : ∀ i, i < w.heap.size → R i → w'.heap[i]? = w.heap[i]?) : RefAt w' R r v D where
  cell := by rw [← h.cell]; exact World.cell?_of_block (w := w) (hb r (h.lt r h.pr) h.pr)
  row := by
    rcases h.row.2 with ⟨hv, h0⟩ | ⟨g, cap, cur, hv, hg, hc, rest⟩
    · exact ⟨h.row.1, .inl ⟨hv, h0⟩⟩
    · have hR := (h.own g (by rw [hv]; rfl)).1
      exact ⟨h.row.1, .inr ⟨g, cap, cur, hv, hg, by rw [hb g (h.lt g hR) hR]; exact hc, rest⟩⟩
  own := h.own
  pr := h.pr
  fz := by rw [← h.fz]; exact World.frozen?_of_block (w := w) (hb r (h.lt r h.pr) h.pr)
  par n hn := (h.par n hn).same hs (fun i hi hS => hb i hi hS.1)
  lt i hi := Nat.lt_of_lt_of_le (h.lt i hi) hs
  ids := h.ids
  len := h.len
  six := h.six
  up := h.up
theorem RefAt.below {w w' : World} {R : Nat → Prop} {r : Nat} {v : Value} {D : List RN} (h : RefAt w R r v D) (hb : Below w.heap.size w w') : RefAt w' R r v D := h.same hb.size (fun i hi _ => hb.block i hi)

/-- The three cells of a node. -/
theorem RefAt.node {w : World} {R : Nat → Prop} {r : Nat} {v : Value} {D : List RN} (h : RefAt w R r v D) {j : Nat} (hj : j < D.length) :
    ∃ g cap, v = .slice (some ⟨g, 0, none⟩) D.length cap ∧ w.cell? ⟨g, j * 3, none⟩ = some (encStr (D.getD j default).id) ∧ w.cell? ⟨g, j * 3 + 1, none⟩ = some (D.getD j default).pv ∧ w.cell? ⟨g, j * 3 + 2, none⟩ = some (.bool (D.getD j default).inn) := by
  rcases h.row.2 with ⟨hv, h0⟩ | ⟨g, cap, cur, hv, hg, hc, hrest⟩
  · omega
  · have hrow := h.row
    rw [hv] at hrow
    refine ⟨g, cap, hv, ?_, ?_, ?_⟩
    · have := hrow.cellAt (j * 3 + 0) (by omega)
      rw [rcells_at D j 0 hj (by omega)] at this
      simpa [RN.cells] using this
    · have := hrow.cellAt (j * 3 + 1) (by omega)
      rw [rcells_at D j 1 hj (by omega)] at this
      simpa [RN.cells] using this
    · have := hrow.cellAt (j * 3 + 2) (by omega)
      rw [rcells_at D j 2 hj (by omega)] at this
      simpa [RN.cells] using this
theorem RefAt.form {w : World} {R : Nat → Prop} {r : Nat} {v : Value} {D : List RN} (h : RefAt w R r v D) : ∃ A cap, v = .slice A D.length cap := by
  rcases h.row.2 with ⟨hv, h0⟩ | ⟨g, cap, cur, hv, _⟩
  · exact ⟨none, 0, by rw [hv, h0]⟩
  · exact ⟨_, cap, hv⟩
theorem rmem {D : List RN} {j : Nat} (hj : j < D.length) : D.getD j default ∈ D := by simp [List.getD_eq_getElem?_getD, hj]
theorem rgetD {D : List RN} {j : Nat} (hj : j < D.length) : D.getD j default = D[j] := by simp [List.getD_eq_getElem?_getD, hj]

/-- the place of an id -/
def place (D : List RN) (x : Bs) : Option Nat := D.findIdx? (fun n => decide (n.id = x))
def placeI (D : List RN) (x : Bs) : Int := match place D x with | some i => i | none => -1
theorem place_at {D : List RN} {x : Bs} {i : Nat} (h : place D x = some i) : i < D.length ∧ (D.getD i default).id = x := by
  unfold place at h
  rw [List.findIdx?_eq_some_iff_getElem] at h
  obtain ⟨hi, h1, _⟩ := h
  refine ⟨hi, ?_⟩
  rw [rgetD hi]
  simpa using h1
theorem place_first {D : List RN} {x : Bs} {i : Nat} (hi : i < D.length) (h1 : (D.getD i default).id = x) (h2 : ∀ j, j < i → (D.getD j default).id ≠ x) : place D x = some i := by
  unfold place
  rw [List.findIdx?_eq_some_iff_getElem]
  refine ⟨hi, ?_, fun j hj => ?_⟩
  · rw [rgetD hi] at h1; simpa using h1
  · have := h2 j hj
    rw [rgetD (by omega)] at this
    simpa using this
theorem place_none {D : List RN} {x : Bs} (h : ∀ j, j < D.length → (D.getD j default).id ≠ x) : place D x = none := by
  unfold place
  rw [List.findIdx?_eq_none_iff]
  intro n hn
  obtain ⟨j, hj, rfl⟩ := List.getElem_of_mem hn
  have := h j hj
  rw [rgetD hj] at this
  simpa using this

set_option maxRecDepth 100000 in
set_option maxHeartbeats 1000000 in
theorem find_walk (w : World) {R : Nat → Prop} {r : Nat} {v : Value} {D : List RN} (h : RefAt w R r v D) (x : Bs) : Calls Try.prog 41 #[.pointer (some ⟨r, 0, none⟩), encStr x] w (RetSame (.int .i64 (placeI D x)) w) := by
  have hc := h.cell
  obtain ⟨A, cap, rfl⟩ := h.form
  have hlen := h.len
  have H := Lib.hid h
  clear h
  simp only [encStr_eq]
  go_enter Try.func41, Try.ntmps41
  go_wp2
  go_loopg [5] D.length (fun d s5 wr => ∃ k : Nat, k + d = D.length ∧ s5 = .int .i64 k ∧ w = wr ∧ Aside (∀ j, j < k → (D.getD j default).id ≠ x))
  case atStart => exact ⟨0, by omega, rfl, rfl, fun j hj => by omega⟩
  case round =>
    obtain ⟨k, hk, rfl, rfl, HR⟩ := hrel
    cases gk with
    | zero =>
      obtain rfl : k = D.length := by omega
      have hf : ¬ ((D.length : Int) < (D.length : Int)) := by omega
      have HF : Hid (placeI D x = -1) := Lib.hid (by unfold placeI; rw [place_none HR.out])
      go_wp2
      go_ret
      exact RetSame.mk (vint HF.out.symm)
    | succ d =>
      have hf : ((k : Int) < (D.length : Int)) := by omega
      have hkl : k < D.length := by omega
      obtain ⟨g, cap', hv, c0, _, _⟩ := H.out.node hkl
      cases hv
      have HN : Hid ((D.getD k default).id = x → placeI D x = k) := Lib.hid (fun e => by unfold placeI; rw [place_first hkl e HR.out])
      have HS : Hid ((D.getD k default).id ≠ x → ∀ j, j < k + 1 → (D.getD j default).id ≠ x) := Lib.hid (fun e j hj => by
        by_cases hjk : j = k
        · subst hjk; exact e
        · exact HR.out j (by omega))
      generalize (D.getD k default).id = y at *
      simp only [encStr_eq] at c0
      by_cases e : y = x
      · have he : (y == x) = true := by simp [e]
        have HE := Lib.hid e
        clear e
        go_wp2
        go_ret
        exact RetSame.mk (vint (HN.out HE.out).symm)
      · have he : (y == x) = false := by simp [e]
        have HE := Lib.hid e
        clear e
        go_wp2
        go_roundg d
        case measure => omega
        case rel => exact ⟨k + 1, by omega, by go_num, rfl, HS.out HE.out⟩

def rhas (D : List RN) (x : Bs) : Bool := match place D x with | some i => (D.getD i default).inn | none => false
def rready (D : List RN) (l : List Bs) : Bool := l.all (rhas D)

set_option maxRecDepth 100000 in
set_option maxHeartbeats 1000000 in
theorem rhas_walk (w : World) {R : Nat → Prop} {r : Nat} {v : Value} {D : List RN} (h : RefAt w R r v D) (x : Bs) : Calls Try.prog 25 #[.pointer (some ⟨r, 0, none⟩), encStr x] w (RetSame (.bool (rhas D x)) w) := by
  have hc := h.cell
  have hf := find_walk w h x
  cases hp : place D x with
  | none =>
    have e1 : placeI D x = -1 := by unfold placeI; rw [hp]
    have e2 : rhas D x = false := by unfold rhas; rw [hp]
    rw [e1] at hf
    rw [e2]
    simp only [encStr_eq] at hf ⊢
    have HF := Lib.hid hf
    clear hf h e1 e2 hp
    go_enter Try.func25, Try.ntmps25
    go_wp2_with fail
    refine HF.out.mono ?_
    rintro e w' ⟨rfl, rfl⟩
    go_wp2
    go_ret
    exact RetSame.mk rfl
  | some i =>
    obtain ⟨hi, _⟩ := place_at hp
    have e1 : placeI D x = i := by unfold placeI; rw [hp]
    have e2 : rhas D x = (D.getD i default).inn := by unfold rhas; rw [hp]
    rw [e1] at hf
    rw [e2]
    obtain ⟨g, cap, rfl, _, _, c2⟩ := h.node hi
    have hlen := h.len
    simp only [encStr_eq] at hf ⊢
    have HF := Lib.hid hf
    clear hf h e1 e2 hp
    generalize (D.getD i default).inn = b at *
    go_enter Try.func25, Try.ntmps25
    go_wp2_with fail
    refine HF.out.mono ?_
    rintro e w' ⟨rfl, rfl⟩
    go_wp2
    go_ret
    exact RetSame.mk rfl

set_option maxRecDepth 100000 in
set_option maxHeartbeats 1000000 in
theorem rready_walk (w : World) {R : Nat → Prop} {r : Nat} {v : Value} {D : List RN} (h : RefAt w R r v D) {S : Nat → Prop} {u : Value} {l : List Bs} (hv : Strs w S u l) : Calls Try.prog 43 #[.pointer (some ⟨r, 0, none⟩), u] w (RetSame (.bool (rready D l)) w) := by
  obtain ⟨A, c, rfl, hA, hax, hln⟩ := hv
  have H := Lib.hid h
  clear h
  go_enter Try.func43, Try.ntmps43
  go_wp2
  go_loopg [5, 6] l.length (fun d s5 s6 wr => ∃ k : Nat, k + d = l.length ∧ s5 = .int .i64 k ∧ w = wr ∧ Aside ((l.take k).all (rhas D) = true))
  case atStart => exact ⟨0, by omega, rfl, rfl, by show _ = _; simp⟩
  case round =>
    obtain ⟨k, hk, rfl, rfl, HR⟩ := hrel
    cases gk with
    | zero =>
      obtain rfl : k = l.length := by omega
      have hf : ¬ ((l.length : Int) < (l.length : Int)) := by omega
      have HF : Hid (rready D l = true) := Lib.hid (by have := HR.out; rwa [List.take_length] at this)
      go_wp2
      go_ret
      exact RetSame.mk (vbool HF.out.symm)
    | succ d =>
      have hf : ((k : Int) < (l.length : Int)) := by omega
      have hkl : k < l.length := by omega
      obtain ⟨b, off, rfl, _, hbl, hc⟩ := hA (by omega)
      have g := hc k hkl
      have hs : (l.take (k + 1)).all (rhas D) = rhas D (l.getD k []) := all_take_succ [] (rhas D) l k hkl HR.out
      have hno : rhas D (l.getD k []) = false → rready D l = false := fun h => all_false_at [] (rhas D) l k hkl h
      have HS := Lib.hid (And.intro hs hno)
      have hw := rhas_walk w H.out (l.getD k [])
      clear hs hno hc
      generalize l.getD k [] = x at *
      simp only [encStr_eq] at g hw
      cases hb : rhas D x with
      | true =>
        rw [hb] at hw
        have HW := Lib.hid hw
        have HB := Lib.hid hb
        clear hw hb
        go_wp2_with fail
        refine HW.out.mono ?_
        rintro e w' ⟨rfl, rfl⟩
        go_wp2
        go_roundg d
        case measure => omega
        case rel => exact ⟨k + 1, by omega, by go_num, rfl, by show _ = _; rw [HS.out.1, HB.out]⟩
      | false =>
        rw [hb] at hw
        have HW := Lib.hid hw
        have HB := Lib.hid hb
        clear hw hb
        go_wp2_with fail
        refine HW.out.mono ?_
        rintro e w' ⟨rfl, rfl⟩
        go_wp2
        go_ret
        exact RetSame.mk (vbool (HS.out.2 HB.out).symm)
end Go.Proofs.Ytccpblefebjadaa
