/- The reference's Lacks. -/
import Derived.Test.YtccpblefebjadaaC5
namespace Go.Proofs.Ytccpblefebjadaa
open Go.RowKit Go.Maps Go.WideMaps Go.Sort Go.Shelf
open Go.Proofs (encStr)
open M (Rising keys get Graph Stands Searched)

def lk1 (D : List RN) (o : List Bs) (p : Bs) : List Bs := if (place D p).isNone = true then M.insU p o else o
def lks (D : List RN) (o : List Bs) (ps : List Bs) : List Bs := ps.foldl (lk1 D) o
def lkn (D : List RN) (o : List Bs) (n : RN) : List Bs := if n.inn = true then o else lks D o n.ps
def rlacks (D : List RN) : List Bs := D.foldl (lkn D) []
theorem lks_snoc (D : List RN) (o ps : List Bs) (p : Bs) : lks D o (ps ++ [p]) = lk1 D (lks D o ps) p := by simp [lks]

structure LkOk (o : List Bs) (n : Nat) : Prop where
  up : o.Pairwise (· < ·)
  sz : ∀ x ∈ o, x.length ≤ 1000
  len : o.length ≤ n
theorem LkOk.lk1 {D : List RN} {o : List Bs} {n : Nat} (h : LkOk o n) {p : Bs} (hp : p.length ≤ 1000) : LkOk (lk1 D o p) (n + 1) := by
  unfold Ytccpblefebjadaa.lk1
  split
  · exact ⟨M.rising_insU h.up, fun x hx => (M.mem_insU.1 hx).elim (fun e => e ▸ hp) (h.sz x), by have := M.length_insU p o; have := h.len; omega⟩
  · exact ⟨h.up, h.sz, Nat.le_succ_of_le h.len⟩
theorem LkOk.lks {D : List RN} (ps : List Bs) : ∀ {o : List Bs} {n : Nat} (_ : LkOk o n) (_ : ∀ p ∈ ps, p.length ≤ 1000), LkOk (lks D o ps) (n + ps.length) := by
  induction ps with
  | nil => intro o n h _; exact h
  | cons p r ih =>
    intro o n h hp
    have := ih (h.lk1 (D := D) (hp p (by simp))) (fun q hq => hp q (by simp [hq]))
    show LkOk (List.foldl (Ytccpblefebjadaa.lk1 D) o (p :: r)) _
    rw [List.foldl_cons, List.length_cons, show n + (r.length + 1) = n + 1 + r.length by omega]
    exact this
theorem LkOk.all {D : List RN} (E : List RN) (hE : ∀ n ∈ E, n.ps.length ≤ 6 ∧ ∀ p ∈ n.ps, p.length ≤ 1000) : LkOk (E.foldl (lkn D) []) (6 * E.length) := by
  suffices ∀ (E : List RN) (o : List Bs) (m : Nat), LkOk o m → (∀ n ∈ E, n.ps.length ≤ 6 ∧ ∀ p ∈ n.ps, p.length ≤ 1000) → LkOk (E.foldl (lkn D) o) (m + 6 * E.length) by
    have := this E [] 0 ⟨List.Pairwise.nil, by simp, by simp⟩ hE
    rwa [Nat.zero_add] at this
  intro E
  induction E with
  | nil => intro o m h _; exact h
  | cons n r ih =>
    intro o m h hE
    have h1 : LkOk (lkn D o n) (m + 6) := by
      unfold lkn
      obtain ⟨a, b⟩ := hE n (by simp)
      split
      · exact ⟨h.up, h.sz, by have := h.len; omega⟩
      · have := LkOk.lks (D := D) n.ps h b
        exact ⟨this.up, this.sz, by have := this.len; omega⟩
    have := ih _ _ h1 (fun q hq => hE q (by simp [hq]))
    rw [List.foldl_cons, List.length_cons, show m + 6 * (r.length + 1) = m + 6 + 6 * r.length by omega]
    exact this

theorem RefAt.parOk {w : World} {R : Nat → Prop} {r : Nat} {v : Value} {D : List RN} (h : RefAt w R r v D) : ∀ n ∈ D, n.ps.length ≤ 6 ∧ ∀ p ∈ n.ps, p.length ≤ 1000 := fun n hn => by
  obtain ⟨_, _, _, _, hx, _⟩ := h.par n hn
  exact ⟨h.six n hn, hx⟩

/-- a cell of a slice of strings in a later world -/
theorem strs_cell {w w' : World} {S : Nat → Prop} {b off n c : Nat} {l : List Bs} {A : Option Addr} (h : Strs w S (.slice A n c) l) (hA : A = some ⟨b, off, none⟩) (hb : Below w.heap.size w w') {k : Nat} (hk : k < l.length) : w'.cell? ⟨b, off + k, none⟩ = some (encStr (l.getD k [])) := by
  obtain ⟨A', c', hv, h1, _⟩ := h
  cases hv
  subst hA
  obtain ⟨b', off', he, _, hlt, hc⟩ := h1 (by omega)
  cases he
  exact (hb.cell (p := ⟨b, off + k, none⟩) hlt).trans (hc k hk)
theorem strs_adr {w : World} {S : Nat → Prop} {n c : Nat} {l : List Bs} {A : Option Addr} (h : Strs w S (.slice A n c) l) (hp : 0 < l.length) : ∃ b off, A = some ⟨b, off, none⟩ := by
  obtain ⟨A', c', hv, h1, _⟩ := h
  cases hv
  obtain ⟨b, off, he, _⟩ := h1 hp
  exact ⟨b, off, he⟩

set_option maxRecDepth 100000 in
set_option maxHeartbeats 2000000 in
theorem rlacks_walk (w : World) {R : Nat → Prop} {r : Nat} {v : Value} {D : List RN} (h : RefAt w R r v D) : Calls Try.prog 23 #[.pointer (some ⟨r, 0, none⟩)] w (NewStrs w (rlacks D)) := by
  obtain ⟨A, cap, rfl⟩ := h.form
  have hlen := h.len
  have hpo := h.parOk
  have H := Lib.hid (And.intro h hpo)
  clear h hpo
  go_enter Try.func23, Try.ntmps23
  go_wp2
  go_loopg [3, 4, 5] D.length (fun d s3 s4 s5 wr => ∃ k : Nat, k + d = D.length ∧ s4 = .int .i64 k ∧ Aside (Strs wr (fun b => w.heap.size ≤ b) s3 ((D.take k).foldl (lkn D) []) ∧ Below w.heap.size w wr))
  case atStart => exact ⟨0, by omega, rfl, ⟨none, 0, rfl, fun h => absurd h (by simp), by simp, by simp⟩, Below.refl _ _⟩
  case round =>
    obtain ⟨k, hk, rfl, HO⟩ := hrel
    have hR := H.out.1.below HO.out.2
    have hc := hR.cell
    cases gk with
    | zero =>
      obtain rfl : k = D.length := by omega
      have hf : ¬ ((D.length : Int) < (D.length : Int)) := by omega
      clear hR
      go_wp2
      go_ret
      have := HO.out
      rw [List.take_length] at this
      exact ⟨_, rfl, this.1, this.2⟩
    | succ d =>
      have hf : ((k : Int) < (D.length : Int)) := by omega
      have hkl : k < D.length := by omega
      obtain ⟨g, cap', hv, hno⟩ := hR.node hkl
      clear hno
      cases hv
      have hoo := LkOk.all (D := D) (D.take k) (fun n hn => H.out.2 n (List.mem_of_mem_take hn))
      rw [List.length_take] at hoo
      have hsn : (D.take (k + 1)).foldl (lkn D) [] = lkn D ((D.take k).foldl (lkn D) []) (D.getD k default) := by rw [rtake hkl]; simp
      obtain ⟨hp6, hpx⟩ := H.out.2 _ (rmem hkl)
      have hS := H.out.1.par _ (rmem hkl)
      have hcells : ∀ W, Below w.heap.size w W → W.cell? ⟨r, 0, none⟩ = some (.slice (some ⟨g, 0, none⟩) D.length cap) ∧ W.cell? ⟨g, k * 3 + 1, none⟩ = some (D.getD k default).pv ∧ W.cell? ⟨g, k * 3 + 2, none⟩ = some (.bool (D.getD k default).inn) := fun W hW => by
        have hR := H.out.1.below hW
        obtain ⟨g', cap', hv, _, h1, h2⟩ := hR.node hkl
        cases hv
        exact ⟨hR.cell, h1, h2⟩
      have HS := Lib.hid (And.intro hsn (And.intro hoo (And.intro hpx (And.intro hS hcells))))
      clear hsn hoo hpx hS hcells hR
      have hD : ∃ n, D.getD k default = n := ⟨_, rfl⟩
      obtain ⟨n, hn⟩ := hD
      rw [hn] at HS hp6
      clear hn
      generalize (D.take k).foldl (lkn D) [] = o at *
      obtain ⟨_, pv, ps, inn⟩ := n
      simp only at HS hp6
      obtain ⟨Ap, cp, rfl, _⟩ := HS.out.2.2.2.1
      go_wp2
      cases inn with
      | true =>
        go_loopg [3, 5] 1 (fun e s3 s5 wx => s5 = .int .i64 0 ∧ s3 = u3 ∧ wr = wx)
        case atStart => exact ⟨rfl, rfl, rfl⟩
        case round =>
          obtain ⟨rfl, rfl, rfl⟩ := hrel
          obtain ⟨c0, c1, c2⟩ := HS.out.2.2.2.2 wr HO.out.2
          have HL : Hid (∀ i q, lkn D o ⟨i, q, ps, true⟩ = o) := Lib.hid (fun _ _ => rfl)
          by_cases hz : (0 : Int) < (ps.length : Int)
          · go_wp2
            go_roundg d
            case measure => omega
            case rel => exact ⟨k + 1, by omega, by go_num, by rw [HS.out.1, HL.out]; exact HO⟩
          · go_wp2
            go_roundg d
            case measure => omega
            case rel => exact ⟨k + 1, by omega, by go_num, by rw [HS.out.1, HL.out]; exact HO⟩
      | false =>
        go_loopg [3, 5] ps.length (fun e s3 s5 wx => ∃ j : Nat, j + e = ps.length ∧ s5 = .int .i64 j ∧ Aside (Strs wx (fun b => w.heap.size ≤ b) s3 (lks D o (ps.take j)) ∧ Below w.heap.size w wx))
        case atStart => exact ⟨0, by omega, rfl, HO⟩
        case round =>
          obtain ⟨j, hj, rfl, HO2⟩ := hrel
          obtain ⟨c0, c1, c2⟩ := HS.out.2.2.2.2 wr HO2.out.2
          cases gk with
          | zero =>
            obtain rfl : j = ps.length := by omega
            have hf2 : decide ((ps.length : Int) < (ps.length : Int)) = false := decide_eq_false (by omega)
            have HL : Hid (∀ i q, lkn D o ⟨i, q, ps, false⟩ = lks D o (ps.take ps.length)) := Lib.hid (fun i q => by rw [List.take_length]; rfl)
            go_wp2
            go_roundg d
            case measure => omega
            case rel => exact ⟨k + 1, by omega, by go_num, by rw [HS.out.1, HL.out]; exact HO2⟩
          | succ e =>
            have hf2 : ((j : Int) < (ps.length : Int)) := by omega
            have hjl : j < ps.length := by omega
            obtain ⟨bp, op, rfl⟩ := strs_adr HS.out.2.2.2.1 (by omega)
            have c3 := strs_cell HS.out.2.2.2.1 rfl HO2.out.2 hjl
            have hp1 := HS.out.2.2.1 _ (getD_mem hjl)
            have hsn : lks D o (ps.take (j + 1)) = lk1 D (lks D o (ps.take j)) (ps.getD j []) := by rw [take_succ_getD ps j hjl, lks_snoc]
            have hoo := LkOk.lks (D := D) (ps.take j) HS.out.2.1 (fun p hp => HS.out.2.2.1 p (List.mem_of_mem_take hp))
            rw [List.length_take] at hoo
            have hfd := find_walk wr (H.out.1.below HO2.out.2) (ps.getD j [])
            have hput := put_walk wr HO2.out.1 (ps.getD j []) hp1 (by have := hoo.len; omega)
            rw [putL_eq hoo.up] at hput
            have hput' : Calls Try.prog 45 #[u3, encStr (ps.getD j [])] wr (fun e w' => ∃ u, e = .returned u ∧ Aside (Strs w' (fun b => w.heap.size ≤ b) u (M.insU (ps.getD j []) (lks D o (ps.take j))) ∧ Below w.heap.size w w')) := by
              refine hput.mono ?_
              rintro e w' ⟨u, rfl, hu⟩
              have hok : LkOk (M.insU (ps.getD j []) (lks D o (ps.take j))) (6 * k + j + 1) := ⟨M.rising_insU hoo.up, fun x hx => (M.mem_insU.1 hx).elim (fun e => e ▸ hp1) (hoo.sz x), by have := M.length_insU (ps.getD j []) (lks D o (ps.take j)); have := hoo.len; omega⟩
              exact ⟨u, rfl, (hu.strs hok.sz (by have := hok.len; omega)).mono (fun b hb => Nat.le_trans HO2.out.2.size hb), HO2.out.2.trans (hu.2.mono HO2.out.2.size)⟩
            have HSN := Lib.hid hsn
            have HPU := Lib.hid hput'
            have hlk : lk1 D (lks D o (ps.take j)) (ps.getD j []) = if (place D (ps.getD j [])).isNone = true then M.insU (ps.getD j []) (lks D o (ps.take j)) else lks D o (ps.take j) := rfl
            have hpi : placeI D (ps.getD j []) = match place D (ps.getD j []) with | some i => (i : Int) | none => -1 := rfl
            clear hsn hput hput' hoo hp1
            generalize ps.getD j [] = p at *
            simp only [encStr_eq] at c3 hfd HPU
            cases hpl : place D p with
            | none =>
              rw [hpl] at hpi hlk
              simp only at hpi
              rw [hpi] at hfd
              have HFD := Lib.hid hfd
              have HLK := Lib.hid hlk
              clear hfd hpi hlk hpl
              go_wp2_with fail
              refine HFD.out.mono ?_
              rintro e w' ⟨rfl, rfl⟩
              go_wp2_with fail
              refine HPU.out.mono ?_
              rintro e w5 ⟨u, rfl, H5⟩
              go_wp2
              go_roundg e
              case measure => omega
              case rel => exact ⟨j + 1, by omega, by go_num, by rw [HSN.out, HLK.out]; exact H5⟩
            | some i =>
              rw [hpl] at hpi hlk
              simp only at hpi
              rw [hpi] at hfd
              have hi := (place_at hpl).1
              have HFD := Lib.hid hfd
              have HLK := Lib.hid hlk
              have hneg : ¬ ((i : Int) < 0) := by omega
              clear hfd hpi hlk hpl
              go_wp2_with fail
              refine HFD.out.mono ?_
              rintro e w' ⟨rfl, rfl⟩
              go_wp2
              go_roundg e
              case measure => omega
              case rel => exact ⟨j + 1, by omega, by go_num, by rw [HSN.out, HLK.out]; exact HO2⟩
end Go.Proofs.Ytccpblefebjadaa
