/- The graph in memory; what New, Has, ready, Ids, Waiting, Many, Parents, Level hand back. -/
import Derived.Test.YtccpblefebjadaaA5
namespace Go.Proofs.Ytccpblefebjadaa
open Go.RowKit Go.Maps Go.WideMaps Go.Sort Go.Shelf
open Go.Proofs (encStr)
open M (Rising keys get Graph)

/-- THE BLOCK g HOLDS THE GRAPH G; all of it lies in the blocks of F. -/
structure DagIn (w : World) (F : Nat → Prop) (g : Nat) (G : Graph) (bi bw bl : Nat) (fi fw fl : Bs → Option Value) : Prop where
  cells : w.heap[g]? = some (.cells #[.map (some bi), .map (some bw), .map (some bl)] 52 (0, 0))
  pg : F g
  pi : F bi
  pw : F bw
  pl : F bl
  lt : ∀ i, F i → i < w.heap.size
  il : bi ≠ bl
  iw : bi ≠ bw
  lw : bl ≠ bw
  mi : MapAt w Try.prog 30 okS bi G.inn.length fi
  mw : MapAt w Try.prog 30 okS bw G.wai.length fw
  ml : MapAt w Try.prog 30 okI bl G.inn.length fl
  vi : ∀ x p, get G.inn x = some p → ∃ v, fi x = some v ∧ Strs w F v p.1 ∧ fl x = some (.int .i64 p.2)
  ni : ∀ x, get G.inn x = none → fi x = none ∧ fl x = none
  vw : ∀ x l, get G.wai x = some l → ∃ v, fw x = some v ∧ Strs w F v l
  nw : ∀ x, get G.wai x = none → fw x = none
  ok : G.Ok
  cnt : G.inn.length + G.wai.length ≤ 500

def DagAt (w : World) (F : Nat → Prop) (g : Nat) (G : Graph) : Prop := ∃ bi bw bl fi fw fl, DagIn w F g G bi bw bl fi fw fl

section
variable {w : World} {F : Nat → Prop} {g : Nat} {G : Graph} {bi bw bl : Nat} {fi fw fl : Bs → Option Value}

theorem DagIn.c0 (h : DagIn w F g G bi bw bl fi fw fl) : w.cell? ⟨g, 0, none⟩ = some (.map (some bi)) := by simp [World.cell?, h.cells]
theorem DagIn.c1 (h : DagIn w F g G bi bw bl fi fw fl) : w.cell? ⟨g, 1, none⟩ = some (.map (some bw)) := by simp [World.cell?, h.cells]
theorem DagIn.c2 (h : DagIn w F g G bi bw bl fi fw fl) : w.cell? ⟨g, 2, none⟩ = some (.map (some bl)) := by simp [World.cell?, h.cells]
theorem DagIn.isSome (h : DagIn w F g G bi bw bl fi fw fl) (x : Bs) : (fi x).isSome = G.has x := by
  unfold Graph.has
  cases hx : get G.inn x with
  | none => rw [(h.ni x hx).1]; rfl
  | some p => obtain ⟨v, hv, _⟩ := h.vi x p hx; rw [hv]; rfl
theorem DagIn.isSomeW (h : DagIn w F g G bi bw bl fi fw fl) (x : Bs) : (fw x).isSome = (get G.wai x).isSome := by
  cases hx : get G.wai x with
  | none => rw [h.nw x hx]; rfl
  | some p => obtain ⟨v, hv, _⟩ := h.vw x p hx; rw [hv]; rfl
theorem DagIn.lev (h : DagIn w F g G bi bw bl fi fw fl) (x : Bs) : (fl x).getD (.int .i64 0) = .int .i64 (G.lev x) := by
  unfold Graph.lev
  cases hx : get G.inn x with
  | none => rw [(h.ni x hx).2]; rfl
  | some p => obtain ⟨v, _, _, hv⟩ := h.vi x p hx; rw [hv]; rfl
/-- It hangs on the blocks of F alone. -/
theorem DagIn.same {w' : World} (h : DagIn w F g G bi bw bl fi fw fl) (hs : w.heap.size ≤ w'.heap.size) (hb : ∀ i, i < w.heap.size → F i → w'.heap[i]? = w.heap[i]?) : DagIn w' F g G bi bw bl fi fw fl where
  cells := (hb g (h.lt g h.pg) h.pg).trans h.cells
  pg := h.pg
  pi := h.pi
  pw := h.pw
  pl := h.pl
  lt i hi := Nat.lt_of_lt_of_le (h.lt i hi) hs
  il := h.il
  iw := h.iw
  lw := h.lw
  mi := h.mi.same (hb bi h.mi.lt h.pi)
  mw := h.mw.same (hb bw h.mw.lt h.pw)
  ml := h.ml.same (hb bl h.ml.lt h.pl)
  vi x p hx := by obtain ⟨v, e, hv, hl⟩ := h.vi x p hx; exact ⟨v, e, hv.same hs hb, hl⟩
  ni := h.ni
  vw x l hx := by obtain ⟨v, e, hv⟩ := h.vw x l hx; exact ⟨v, e, hv.same hs hb⟩
  nw := h.nw
  ok := h.ok
  cnt := h.cnt
theorem DagAt.same {w' : World} (h : DagAt w F g G) (hs : w.heap.size ≤ w'.heap.size) (hb : ∀ i, i < w.heap.size → F i → w'.heap[i]? = w.heap[i]?) : DagAt w' F g G := by
  obtain ⟨bi, bw, bl, fi, fw, fl, h⟩ := h
  exact ⟨bi, bw, bl, fi, fw, fl, h.same hs hb⟩
theorem DagAt.below {w' : World} (h : DagAt w F g G) (hb : Below w.heap.size w w') : DagAt w' F g G := h.same hb.size (fun i hi _ => hb.block i hi)
theorem DagAt.ok (h : DagAt w F g G) : G.Ok := let ⟨_, _, _, _, _, _, h⟩ := h; h.ok
theorem DagAt.cnt (h : DagAt w F g G) : G.inn.length + G.wai.length ≤ 500 := let ⟨_, _, _, _, _, _, h⟩ := h; h.cnt
theorem DagAt.lt (h : DagAt w F g G) : ∀ i, F i → i < w.heap.size := let ⟨_, _, _, _, _, _, h⟩ := h; h.lt
end

/-- Has. -/
theorem has_dag {w : World} {F : Nat → Prop} {g : Nat} {G : Graph} (h : DagAt w F g G) (x : Bs) (hx : x.length ≤ 1000) :
    Calls Try.prog 24 #[.pointer (some ⟨g, 0, none⟩), encStr x] w (RetSame (.bool (G.has x)) w) := by
  obtain ⟨bi, bw, bl, fi, fw, fl, h⟩ := h
  rw [← h.isSome]
  exact has_any g bi _ fi x hx w h.c0 h.mi
/-- ready. -/
theorem ready_dag {w : World} {F : Nat → Prop} {g : Nat} {G : Graph} (h : DagAt w F g G) {S : Nat → Prop} {v : Value} {ps : List Bs} (hv : Strs w S v ps) :
    Calls Try.prog 38 #[.pointer (some ⟨g, 0, none⟩), v] w (RetSame (.bool (G.ready ps)) w) := by
  obtain ⟨bi, bw, bl, fi, fw, fl, h⟩ := h
  have e : G.ready ps = ps.all fun p => (fi p).isSome := by unfold Graph.ready; congr 1; funext p; exact (h.isSome p).symm
  rw [e]
  exact ready_any g bi _ fi S v ps w h.c0 h.mi hv

set_option maxRecDepth 100000 in
/-- Ids. -/
theorem ids_dag {w : World} {F : Nat → Prop} {g : Nat} {G : Graph} (h : DagAt w F g G) : Calls Try.prog 11 #[.pointer (some ⟨g, 0, none⟩)] w (NewStrs w G.ids) := by
  obtain ⟨bi, bw, bl, fi, fw, fl, h⟩ := h
  have hc := h.c0
  have hS := sorted49 bi _ okS fi G.inn h.ok.ri (fun x => by rw [h.isSome, Graph.has, M.isSome_get]) h.ok.ki (by have := h.cnt; omega) w h.mi
  have HS := Lib.hid hS
  clear hS h
  go_enter Try.func11, Try.ntmps11
  go_wp2_with (go_at_call 31; refine HS.out.mono ?_; rintro e w' ⟨v, rfl, hv, hb⟩)
  go_ret
  exact ⟨v, rfl, hv, hb⟩

set_option maxRecDepth 100000 in
/-- Waiting. -/
theorem waiting_dag {w : World} {F : Nat → Prop} {g : Nat} {G : Graph} (h : DagAt w F g G) : Calls Try.prog 17 #[.pointer (some ⟨g, 0, none⟩)] w (NewStrs w G.waiting) := by
  obtain ⟨bi, bw, bl, fi, fw, fl, h⟩ := h
  have hc := h.c1
  have hS := sorted49 bw _ okS fw G.wai h.ok.rw (fun x => by rw [h.isSomeW, M.isSome_get]) h.ok.kw (by have := h.cnt; omega) w h.mw
  have HS := Lib.hid hS
  clear hS h
  go_enter Try.func17, Try.ntmps17
  go_wp2_with (go_at_call 31; refine HS.out.mono ?_; rintro e w' ⟨v, rfl, hv, hb⟩)
  go_ret
  exact ⟨v, rfl, hv, hb⟩

/-- 'len' of such a map. -/
theorem MapAt.len {P : Program} {k t e : TypeId} {ok : Value → Bool} {w : World} {b n : Nat} {f : Bs → Option Value} {α : Type} {l : M.AL α} (h : MapAt w P k ok b n f) (hk : P.underlying k = some .string) (ht : P.underlying t = some (.map k e)) (ty : TypeId)
    (hR : Rising l) (hm : ∀ x, (f x).isSome = true ↔ x ∈ M.keys l) : (Builtin.len_ #[t] ty #[.map (some b)]).run P w = .ok (.int .i64 l.length) w := by
  obtain ⟨D, hown, _, hnd, hmem, hsz, _⟩ := h.keys hk
  have : Maps.size D = l.length := by
    rw [← hsz]
    have := ((List.perm_ext_iff_of_nodup hnd (M.nodup_keys hR)).2 (fun x => (hmem x).trans (hm x))).length_eq
    simpa [M.keys] using this
  rw [hown.len ht ty, this]

set_option maxRecDepth 100000 in
/-- Many. -/
theorem many_dag {w : World} {F : Nat → Prop} {g : Nat} {G : Graph} (h : DagAt w F g G) : Calls Try.prog 16 #[.pointer (some ⟨g, 0, none⟩)] w (RetSame (.int .i64 G.ids.length) w) := by
  obtain ⟨bi, bw, bl, fi, fw, fl, h⟩ := h
  have hc := h.c0
  have e : G.ids.length = G.inn.length := by simp [Graph.ids, keys]
  have hl := h.mi.len Try.underlying30 Try.underlying49 3 h.ok.ri (fun x => by rw [h.isSome, Graph.has, M.isSome_get])
  rw [e]
  clear h e
  go_enter Try.func16, Try.ntmps16
  go_wp2
  go_ret
  exact RetSame.mk rfl

set_option maxRecDepth 100000 in
/-- Level. -/
theorem level_dag {w : World} {F : Nat → Prop} {g : Nat} {G : Graph} (h : DagAt w F g G) (x : Bs) (hx : x.length ≤ 1000) : Calls Try.prog 20 #[.pointer (some ⟨g, 0, none⟩), encStr x] w (RetSame (.int .i64 (G.level x)) w) := by
  have hh := has_dag h x hx
  obtain ⟨bi, bw, bl, fi, fw, fl, h⟩ := h
  have hc := h.c2
  have hl := h.ml.look Try.underlying30 Try.underlying50 (zeroI w) rfl ⟨x.toArray⟩ (size_ok hx)
  simp only at hl
  rw [h.lev] at hl
  unfold Graph.level
  clear h
  generalize G.lev x = L at hl ⊢
  cases hb : G.has x <;> rw [hb] at hh <;> simp only [if_true, if_false, Bool.false_eq_true]
  all_goals
    have HH := Lib.hid hh
    clear hh hb
    simp only [encStr_eq] at HH ⊢
    go_enter Try.func20, Try.ntmps20
    go_wp2_with (go_at_call 24; refine HH.out.mono ?_; rintro e w' ⟨rfl, rfl⟩)
    go_ret
    exact RetSame.mk rfl
end Go.Proofs.Ytccpblefebjadaa
