/- The reference's All, Parents, Lacks. -/
import Derived.Test.YtccpblefebjadaaC4
import Derived.Deep.RegionHeld3
namespace Go.Proofs.Ytccpblefebjadaa
open Go.RowKit Go.Maps Go.WideMaps Go.Sort Go.Shelf
open Go.Proofs (encStr)
open M (Rising keys get Graph Stands Searched)

def rall (b : Bool) (D : List RN) : List Bs := (D.filter (fun n => n.inn == b)).map (·.id)
theorem rall_len (b : Bool) (D : List RN) : (rall b D).length ≤ D.length := by unfold rall; rw [List.length_map]; exact List.length_filter_le _ _
theorem rall_snoc (b : Bool) (D : List RN) (n : RN) : rall b (D ++ [n]) = rall b D ++ (if (n.inn == b) = true then [n.id] else []) := by
  unfold rall
  rw [List.filter_append, List.map_append]
  by_cases h : (n.inn == b) = true
  · simp [h]
  · simp only [Bool.not_eq_true] at h; simp [h]
theorem rtake {D : List RN} {k : Nat} (hk : k < D.length) : D.take (k + 1) = D.take k ++ [D.getD k default] := by
  rw [List.take_succ_eq_append_getElem hk, rgetD hk]

set_option maxRecDepth 100000 in
set_option maxHeartbeats 2000000 in
theorem rall_walk (w : World) {R : Nat → Prop} {r : Nat} {v : Value} {D : List RN} (h : RefAt w R r v D) (b : Bool) : Calls Try.prog 22 #[.pointer (some ⟨r, 0, none⟩), .bool b] w (fun e w' => ∃ u, e = .returned u ∧ OwnS w w' u (rall b D)) := by
  obtain ⟨i0, hi0, hz0, hz1, hz2⟩ := info_parts info30
  obtain ⟨A, cap, rfl⟩ := h.form
  have hlen := h.len
  have H := Lib.hid h
  clear h
  go_enter Try.func22, Try.ntmps22
  go_wp2
  go_loopg [5, 6] D.length (fun d s5 s6 wr => ∃ k : Nat, k + d = D.length ∧ s6 = .int .i64 k ∧ OwnS w wr s5 (rall b (D.take k)))
  case atStart => exact ⟨0, by omega, rfl, OwnS.start w⟩
  case round =>
    obtain ⟨k, hk, rfl, hO⟩ := hrel
    have HR := H.out.below hO.2
    have hc := HR.cell
    cases gk with
    | zero =>
      obtain rfl : k = D.length := by omega
      have hf : ¬ ((D.length : Int) < (D.length : Int)) := by omega
      rw [List.take_length] at hO
      have HO := Lib.hid hO
      clear hO HR
      go_wp2
      go_ret
      exact ⟨_, rfl, HO.out⟩
    | succ d =>
      have hf : ((k : Int) < (D.length : Int)) := by omega
      have hkl : k < D.length := by omega
      obtain ⟨g, cap', hv, c0, _, c2⟩ := HR.node hkl
      cases hv
      have hsn := rall_snoc b (D.take k) (D.getD k default)
      rw [← rtake hkl] at hsn
      have hl := rall_len b (D.take k)
      rw [List.length_take] at hl
      have HS := Lib.hid hsn
      have HO := Lib.hid hO
      have ho := hO.1
      have hsz := hO.2.size
      clear hsn hO HR
      generalize rall b (D.take k) = o at *
      generalize (D.getD k default).id = x at *
      generalize (D.getD k default).inn = q at *
      simp only [encStr_eq] at c0
      by_cases e : q = b
      · have he : (q == b) = true := by simp [e]
        have HE := Lib.hid he
        subst e
        clear he
        go_wp2_with (at_builtin; refine wpList_append_own _ rfl _ _ 27 rfl w.heap.size 30 i0 (.string ⟨#[]⟩) 1 16 Try.underlying27 hi0 hz0 hz1 hz2 rfl (by decide) _ _ _ rfl (ho.alloc _) ⟨wr.heap.size, 0, none⟩ 1 1 [.string ⟨x.toArray⟩] rfl rfl (cell_one_new _ _ _) (by simp [Value.oneCell']) (by unfold maxLen; omega) (by omega) (by simp; omega) ?_; intro v' w7 hown' hgrow _; have HX := Lib.hid (And.intro hown' hgrow); clear hown' hgrow)
        go_roundg d
        case measure => omega
        case rel => exact ⟨k + 1, by omega, by go_num, by rw [HS.out, if_pos HE.out]; exact HO.out.snoc HX.out.1 HX.out.2⟩
      · have he : (q == b) = false := by simp [e]
        have HE : Hid (¬ (q == b) = true) := Lib.hid (by simp [e])
        clear e
        go_wp2
        go_roundg d
        case measure => omega
        case rel => exact ⟨k + 1, by omega, by go_num, by rw [HS.out, if_neg HE.out, List.append_nil]; exact HO.out⟩

def rpar (D : List RN) (x : Bs) : List Bs := match place D x with | some i => if (D.getD i default).inn = true then (D.getD i default).ps else [] | none => []
set_option maxRecDepth 100000 in
set_option maxHeartbeats 2000000 in
theorem rpar_walk (w : World) {R : Nat → Prop} {r : Nat} {v : Value} {D : List RN} (h : RefAt w R r v D) (x : Bs) : Calls Try.prog 28 #[.pointer (some ⟨r, 0, none⟩), encStr x] w (fun e w' => ∃ u, e = .returned u ∧ Strs w' R u (rpar D x) ∧ Below w.heap.size w w') := by
  have hh := rhas_walk w h x
  cases hb : rhas D x with
  | false =>
    rw [hb] at hh
    have e : rpar D x = [] := by
      unfold rpar; unfold rhas at hb
      cases hp : place D x with
      | none => rfl
      | some i => rw [hp] at hb; simp only at hb ⊢; rw [if_neg (by rw [hb]; simp)]
    rw [e]
    have HH := Lib.hid hh
    clear hh hb e h
    simp only [encStr_eq] at HH ⊢
    go_enter Try.func28, Try.ntmps28
    go_wp2_with fail
    refine HH.out.mono ?_
    rintro e w' ⟨rfl, rfl⟩
    go_wp2
    go_ret
    exact ⟨_, rfl, ⟨none, 0, rfl, fun h => absurd h (by simp), by simp, by simp⟩, Below.refl _ _⟩
  | true =>
    rw [hb] at hh
    have hp : ∃ i, place D x = some i := by
      unfold rhas at hb
      cases hp : place D x with
      | none => rw [hp] at hb; cases hb
      | some i => exact ⟨i, rfl⟩
    obtain ⟨i, hp⟩ := hp
    have hin : (D.getD i default).inn = true := by unfold rhas at hb; rw [hp] at hb; exact hb
    obtain ⟨hi, _⟩ := place_at hp
    have e : rpar D x = (D.getD i default).ps := by unfold rpar; rw [hp]; simp only; rw [if_pos hin]
    have e1 : placeI D x = i := by unfold placeI; rw [hp]
    have hlen := h.len
    have hS := h.par _ (rmem hi)
    have hf := find_walk w.drew (h.below (Below.refl _ _).drew) x
    rw [e1] at hf
    obtain ⟨g, cap, rfl, c0, c1, c2⟩ := h.node hi
    have hc := h.cell
    rw [e]
    have HS := Lib.hid hS
    have HH := Lib.hid hh
    simp only [encStr_eq] at hf HH ⊢
    have HF : Hid (Calls Try.prog (41 : Nat) _ _ _) := Lib.hid hf
    have f1 : w.drew.cell? ⟨r, 0, none⟩ = some (.slice (some ⟨g, 0, none⟩) D.length cap) := hc
    have f2 : w.drew.cell? ⟨g, i * 3 + 1, none⟩ = some (D.getD i default).pv := c1
    have hii : (0 : Int) ≤ (i : Int) := by omega
    have hil : (i : Int) < (D.length : Int) := by omega
    clear hh hb h hp hin e e1 hf hS c0 c2 hc c1
    generalize (D.getD i default).pv = pv at *
    generalize (D.getD i default).ps = ps at *
    go_enter Try.func28, Try.ntmps28
    go_wp2_with fail
    refine HH.out.mono ?_
    rintro e w' ⟨rfl, rfl⟩
    go_wp2
    go_region_held3 (fun w' => w'.cell? ⟨r, 0, none⟩ = some (.slice (some ⟨g, 0, none⟩) D.length cap) ∧ w'.cell? ⟨g, i * 3 + 1, none⟩ = some pv) (first | exact ⟨f1, f2⟩)
      (first | (go_at_call 41; (with_reducible refine HF.out.mono ?_); rintro e w6 ⟨rfl, rfl⟩))
    go_wp2
    go_ret
    exact ⟨_, rfl, (HS.out.mono (fun _ h => h.1)).below (Below.refl _ _).drew, (Below.refl _ _).drew⟩
end Go.Proofs.Ytccpblefebjadaa
