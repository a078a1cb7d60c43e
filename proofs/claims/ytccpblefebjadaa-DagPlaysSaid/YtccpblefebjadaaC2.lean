/- grapevineref15.Put, Sorted. -/
import Derived.Test.YtccpblefebjadaaC1
namespace Go.Proofs.Ytccpblefebjadaa
open Go.RowKit Go.Maps Go.WideMaps Go.Sort Go.Shelf
open Go.Proofs (encStr)
open M (Rising keys get Graph Stands Searched)

def pstep (y : Bs) (s : List Bs × Bool) (x : Bs) : List Bs × Bool :=
  if s.2 = true then (s.1 ++ [x], true) else if x = y then (s.1 ++ [x], true) else if y < x then ((s.1 ++ [y]) ++ [x], true) else (s.1 ++ [x], false)
def pst (y : Bs) (l : List Bs) : List Bs × Bool := l.foldl (pstep y) ([], false)
def pfin (y : Bs) (s : List Bs × Bool) : List Bs := if s.2 = true then s.1 else s.1 ++ [y]
def putL (y : Bs) (l : List Bs) : List Bs := pfin y (pst y l)
theorem pst_snoc (y : Bs) (l : List Bs) (x : Bs) : pst y (l ++ [x]) = pstep y (pst y l) x := by simp [pst]
theorem pst_done (y : Bs) (l : List Bs) (a : List Bs) : l.foldl (pstep y) (a, true) = (a ++ l, true) := by
  induction l generalizing a with
  | nil => simp
  | cons x r ih => rw [List.foldl_cons, show pstep y (a, true) x = (a ++ [x], true) by simp [pstep], ih]; simp
theorem put_insU (y : Bs) : ∀ (l : List Bs) (_ : l.Pairwise (· < ·)) (a : List Bs), pfin y (l.foldl (pstep y) (a, false)) = a ++ M.insU y l
  | [], _, a => by simp [M.insU, pfin]
  | x :: r, h, a => by
    obtain ⟨h1, h2⟩ := List.pairwise_cons.1 h
    rw [List.foldl_cons]
    unfold M.insU
    by_cases e : x = y
    · rw [show pstep y (a, false) x = (a ++ [x], true) by simp [pstep, e], pst_done, if_pos e.symm]; simp [pfin]
    · by_cases hlt : y < x
      · rw [show pstep y (a, false) x = ((a ++ [y]) ++ [x], true) by simp [pstep, e, hlt], pst_done, if_neg (fun h => e h.symm), if_pos hlt]; simp [pfin]
      · rw [show pstep y (a, false) x = (a ++ [x], false) by simp [pstep, e, hlt], if_neg (fun h => e h.symm), if_neg hlt, put_insU y r h2 (a ++ [x])]
        simp
theorem putL_eq {y : Bs} {l : List Bs} (h : l.Pairwise (· < ·)) : putL y l = M.insU y l := by
  have := put_insU y l h []
  simpa [putL, pst] using this
theorem pst_len (y : Bs) (l : List Bs) : (pst y l).1.length ≤ l.length + 1 := by
  suffices ∀ (l : List Bs) (s : List Bs × Bool), (l.foldl (pstep y) s).1.length ≤ s.1.length + l.length + (if s.2 = true then 0 else 1) by
    have := this l ([], false)
    simp at this; unfold pst; omega
  intro l
  induction l with
  | nil => intro s; simp
  | cons x r ih =>
    intro s
    have := ih (pstep y s x)
    rw [List.foldl_cons, List.length_cons]
    obtain ⟨a, b⟩ := s
    revert this
    unfold pstep
    cases b
    · simp only [Bool.false_eq_true, if_false]
      split
      · simp; omega
      · split
        · simp; omega
        · simp; omega
    · simp; omega

theorem ownsRow_kept {w w' : World} {base n : Nat} {v : Value} {xs : List Value} (h : w.ownsRow base 30 1 v n xs) (hb : Below w.heap.size w w') : w'.ownsRow base 30 1 v n xs :=
  h.kept (row := none) ⟨hb.os, hb.tape, hb.output, hb.size, fun i hi _ => hb.block i hi⟩ (by cases v.ownBlock <;> simp)
theorem own_lo {w : World} {base n : Nat} {v : Value} {xs : List Value} (h : w.ownsRow base 30 1 v n xs) : ∀ k, v.ownBlock = some k → base ≤ k := fun k hk => by
  rcases h.2 with ⟨rfl, _⟩ | ⟨gb, cap, cur, rfl, hb, _⟩
  · cases hk
  · cases hk; exact hb

theorem getD_mem {l : List Bs} {k : Nat} (hk : k < l.length) : l.getD k [] ∈ l := by simp [List.getD_eq_getElem?_getD, hk]

/-- What is owned: the strings o, from base on. -/
def OwnS (w0 w : World) (v : Value) (o : List Bs) : Prop := w.ownsRow w0.heap.size 30 1 v o.length (o.map encStr) ∧ Below w0.heap.size w0 w
theorem OwnS.start (w : World) : OwnS w w (.slice none 0 0) [] := ⟨World.ownsRow_nil _ _ _ _, Below.refl _ _⟩
theorem OwnS.next {w0 w w' : World} {v : Value} {o : List Bs} (h : OwnS w0 w v o) (hb : Below w.heap.size w w') : OwnS w0 w' v o := ⟨ownsRow_kept h.1 hb, h.2.trans (hb.mono h.2.size)⟩
theorem OwnS.strs {w0 w : World} {v : Value} {o : List Bs} (h : OwnS w0 w v o) (hx : ∀ x ∈ o, x.length ≤ 1000) (hn : o.length ≤ 1000) : Strs w (fun b => w0.heap.size ≤ b) v o := Strs.of_own h.1 hx hn
/-- Behind an append of one string, which was laid into a block of its own. -/
theorem OwnS.snoc {w0 w w7 : World} {v v' : Value} {o : List Bs} {y : Bs} (h : OwnS w0 w v o) (hown : w7.ownsRow w0.heap.size 30 1 v' (o.length + 1) (o.map encStr ++ [.string ⟨y.toArray⟩])) (hg : (w.alloc (.cells #[.string ⟨y.toArray⟩] 30)).grownBy w7 v.ownBlock) : OwnS w0 w7 v' (o ++ [y]) :=
  ⟨by simpa [encStr_eq] using hown, (h.2.alloc h.2.size _).grown hg (by simp; have := h.2.size; omega) (own_lo h.1)⟩

set_option maxRecDepth 100000 in
set_option maxHeartbeats 4000000 in
theorem put_walk (w : World) {S : Nat → Prop} {v : Value} {l : List Bs} (hv : Strs w S v l) (y : Bs) (hy : y.length ≤ 1000) (hl : l.length < 1000) : Calls Try.prog 45 #[v, encStr y] w (fun e w' => ∃ u, e = .returned u ∧ OwnS w w' u (putL y l)) := by
  obtain ⟨A, c, rfl, hA, hax, _⟩ := hv
  obtain ⟨i0, hi0, hz0, hz1, hz2⟩ := info_parts info30
  have HY := Lib.hid hy
  simp only [encStr_eq]
  go_enter Try.func45, Try.ntmps45
  go_wp2
  go_loopg [5, 6, 7] l.length (fun d s5 s6 s7 wr => ∃ k : Nat, k + d = l.length ∧ s7 = .int .i64 k ∧ s6 = .bool (pst y (l.take k)).2 ∧ OwnS w wr s5 (pst y (l.take k)).1)
  case atStart => exact ⟨0, by omega, rfl, rfl, OwnS.start w⟩
  case round =>
    obtain ⟨k, hk, rfl, rfl, hO⟩ := hrel
    cases gk with
    | zero =>
      obtain rfl : k = l.length := by omega
      have hf : ¬ ((l.length : Int) < (l.length : Int)) := by omega
      rw [List.take_length] at *
      have hpl := pst_len y l
      have hfin : putL y l = pfin y (pst y l) := rfl
      cases hd : (pst y l).2 with
      | true =>
        have HF := Lib.hid (show ∃ u, Ending.returned u5 = .returned u ∧ OwnS w wr u (putL y l) from ⟨_, rfl, by rw [hfin]; unfold pfin; rw [hd, if_pos rfl]; exact hO⟩)
        clear hO hd hfin
        go_wp2
        go_ret
        exact HF.out
      | false =>
        have HF : Hid (putL y l = (pst y l).1 ++ [y]) := Lib.hid (by rw [hfin]; unfold pfin; rw [hd, if_neg (by simp)])
        clear hd hfin
        generalize (pst y l).1 = o at *
        have HO := Lib.hid hO
        have ho := hO.1
        clear hO
        have hsz := HO.out.2.size
        go_wp2_with (at_builtin; refine wpList_append_own _ rfl _ _ 27 rfl w.heap.size 30 i0 (.string ⟨#[]⟩) 1 16 Try.underlying27 hi0 hz0 hz1 hz2 rfl (by decide) _ _ _ rfl (ho.alloc _) ⟨wr.heap.size, 0, none⟩ 1 1 [.string ⟨y.toArray⟩] rfl rfl (cell_one_new _ _ _) (by simp [Value.oneCell']) (by unfold maxLen; omega) (by omega) (by simp; omega) ?_; intro v' w7 hown' hgrow _; have HX := Lib.hid (And.intro hown' hgrow); clear hown' hgrow)
        go_ret
        exact ⟨_, rfl, by rw [HF.out]; exact HO.out.snoc HX.out.1 HX.out.2⟩
    | succ d =>
      have hf : ((k : Int) < (l.length : Int)) := by omega
      have hkl : k < l.length := by omega
      obtain ⟨b, off, rfl, _, hbl, hc⟩ := hA (by omega)
      have g := (hO.2.cell (p := ⟨b, off + k, none⟩) hbl).trans (hc k hkl)
      have hx := hax _ (getD_mem hkl)
      have hst : pst y (l.take (k + 1)) = pstep y (pst y (l.take k)) (l.getD k []) := by rw [take_succ_getD l k hkl, pst_snoc]
      have hpl := pst_len y (l.take k)
      rw [List.length_take] at hpl
      have hcell : ∀ W : World, Below w.heap.size w W → W.cell? ⟨b, off + k, none⟩ = some (encStr (l.getD k [])) := fun W hb => (hb.cell (p := ⟨b, off + k, none⟩) hbl).trans (hc k hkl)
      have HS := Lib.hid (And.intro hst (And.intro hcell hx))
      clear hst hcell hc hA hax hx
      generalize l.getD k [] = x at *
      generalize pst y (l.take k) = s at *
      obtain ⟨o, dn⟩ := s
      simp only [encStr_eq] at g hO hpl ⊢
      have HO := Lib.hid hO
      have ho := hO.1
      clear hO
      have hsz := HO.out.2.size
      cases dn with
      | true =>
        have hp : pstep y (o, true) x = (o ++ [x], true) := by simp [pstep]
        have HP := Lib.hid hp
        clear hp
        by_cases e : x = y
        · have he : (x == y) = true := by simp [e]
          have HE := Lib.hid e
          clear e
          go_wp2_with (at_builtin; refine wpList_append_own _ rfl _ _ 27 rfl w.heap.size 30 i0 (.string ⟨#[]⟩) 1 16 Try.underlying27 hi0 hz0 hz1 hz2 rfl (by decide) _ _ _ rfl (ho.alloc _) ⟨wr.heap.size, 0, none⟩ 1 1 [.string ⟨x.toArray⟩] rfl rfl (cell_one_new _ _ _) (by simp [Value.oneCell']) (by unfold maxLen; omega) (by omega) (by simp; omega) ?_; intro v' w7 hown' hgrow _; have HX := Lib.hid (And.intro hown' hgrow); clear hown' hgrow)
          go_roundg d
          case measure => omega
          case rel => exact ⟨k + 1, by omega, by go_num, by rw [HS.out.1, HP.out], by rw [HS.out.1, HP.out]; exact HO.out.snoc HX.out.1 HX.out.2⟩
        · have he : (x == y) = false := by simp [e]
          clear e
          go_wp2_with (at_builtin; refine wpList_append_own _ rfl _ _ 27 rfl w.heap.size 30 i0 (.string ⟨#[]⟩) 1 16 Try.underlying27 hi0 hz0 hz1 hz2 rfl (by decide) _ _ _ rfl (ho.alloc _) ⟨wr.heap.size, 0, none⟩ 1 1 [.string ⟨x.toArray⟩] rfl rfl (cell_one_new _ _ _) (by simp [Value.oneCell']) (by unfold maxLen; omega) (by omega) (by simp; omega) ?_; intro v' w7 hown' hgrow _; have HX := Lib.hid (And.intro hown' hgrow); clear hown' hgrow)
          go_roundg d
          case measure => omega
          case rel => exact ⟨k + 1, by omega, by go_num, by rw [HS.out.1, HP.out], by rw [HS.out.1, HP.out]; exact HO.out.snoc HX.out.1 HX.out.2⟩
      | false =>
        by_cases e : x = y
        · have he : (x == y) = true := by simp [e]
          have hp : pstep y (o, false) x = (o ++ [x], true) := by simp [pstep, e]
          have HP := Lib.hid hp
          clear hp e
          go_wp2_with (at_builtin; refine wpList_append_own _ rfl _ _ 27 rfl w.heap.size 30 i0 (.string ⟨#[]⟩) 1 16 Try.underlying27 hi0 hz0 hz1 hz2 rfl (by decide) _ _ _ rfl (ho.alloc _) ⟨wr.heap.size, 0, none⟩ 1 1 [.string ⟨x.toArray⟩] rfl rfl (cell_one_new _ _ _) (by simp [Value.oneCell']) (by unfold maxLen; omega) (by omega) (by simp; omega) ?_; intro v' w7 hown' hgrow _; have HX := Lib.hid (And.intro hown' hgrow); clear hown' hgrow)
          go_roundg d
          case measure => omega
          case rel => exact ⟨k + 1, by omega, by go_num, by rw [HS.out.1, HP.out], by rw [HS.out.1, HP.out]; exact HO.out.snoc HX.out.1 HX.out.2⟩
        · have he : (x == y) = false := by simp [e]
          have hless := rless_walk wr y x HY.out HS.out.2.2
          simp only [encStr_eq] at hless
          by_cases hlt : y < x
          · rw [decide_eq_true hlt] at hless
            have hp : pstep y (o, false) x = ((o ++ [y]) ++ [x], true) := by simp [pstep, e, hlt]
            have HP := Lib.hid hp
            have HL := Lib.hid hless
            clear hp e hless hlt
            go_wp2_with (first
              | (go_at_call 44; refine HL.out.mono ?_; rintro e w5 ⟨rfl, hb5⟩; have HO5 := Lib.hid (HO.out.next hb5); have ho5 := HO5.out.1; have hs5 := HO5.out.2.size; have g5 := HS.out.2.1 w5 HO5.out.2; simp only [encStr_eq] at g5; clear hb5)
              | (at_builtin; refine wpList_append_own _ rfl _ _ 27 rfl w.heap.size 30 i0 (.string ⟨#[]⟩) 1 16 Try.underlying27 hi0 hz0 hz1 hz2 rfl (by decide) _ _ _ rfl (ho5.alloc _) ⟨w5.heap.size, 0, none⟩ 1 1 [.string ⟨y.toArray⟩] rfl rfl (cell_one_new _ _ _) (by simp [Value.oneCell']) (by unfold maxLen; omega) (by omega) (by simp; omega) ?_; intro v' w6 hown' hgrow _; have HX6 := Lib.hid (And.intro hown' hgrow); clear hown' hgrow; have HO6 := Lib.hid (HO5.out.snoc HX6.out.1 HX6.out.2); have ho6 := HO6.out.1; have hs6 := HO6.out.2.size; have g6 := HS.out.2.1 w6 HO6.out.2; simp only [encStr_eq, List.length_append, List.length_cons, List.length_nil] at g6 ho6)
              | (at_builtin; refine wpList_append_own _ rfl _ _ 27 rfl w.heap.size 30 i0 (.string ⟨#[]⟩) 1 16 Try.underlying27 hi0 hz0 hz1 hz2 rfl (by decide) _ _ _ rfl (ho6.alloc _) ⟨w6.heap.size, 0, none⟩ 1 1 [.string ⟨x.toArray⟩] rfl rfl (cell_one_new _ _ _) (by simp [Value.oneCell']) (by unfold maxLen; omega) (by omega) (by simp; omega) ?_; intro v' w7 hown' hgrow _; have HX := Lib.hid (And.intro hown' hgrow); clear hown' hgrow))
            go_roundg d
            case measure => omega
            case rel => exact ⟨k + 1, by omega, by go_num, by rw [HS.out.1, HP.out], by rw [HS.out.1, HP.out]; exact HO6.out.snoc (by simpa using HX.out.1) HX.out.2⟩
          · rw [decide_eq_false hlt] at hless
            have hp : pstep y (o, false) x = (o ++ [x], false) := by simp [pstep, e, hlt]
            have HP := Lib.hid hp
            have HL := Lib.hid hless
            clear hp e hless hlt
            go_wp2_with (first
              | (go_at_call 44; refine HL.out.mono ?_; rintro e w5 ⟨rfl, hb5⟩; have HO5 := Lib.hid (HO.out.next hb5); have ho5 := HO5.out.1; have hs5 := HO5.out.2.size; have g5 := HS.out.2.1 w5 HO5.out.2; simp only [encStr_eq] at g5; clear hb5)
              | (at_builtin; refine wpList_append_own _ rfl _ _ 27 rfl w.heap.size 30 i0 (.string ⟨#[]⟩) 1 16 Try.underlying27 hi0 hz0 hz1 hz2 rfl (by decide) _ _ _ rfl (ho5.alloc _) ⟨w5.heap.size, 0, none⟩ 1 1 [.string ⟨x.toArray⟩] rfl rfl (cell_one_new _ _ _) (by simp [Value.oneCell']) (by unfold maxLen; omega) (by omega) (by simp; omega) ?_; intro v' w7 hown' hgrow _; have HX := Lib.hid (And.intro hown' hgrow); clear hown' hgrow))
            go_roundg d
            case measure => omega
            case rel => exact ⟨k + 1, by omega, by go_num, by rw [HS.out.1, HP.out], by rw [HS.out.1, HP.out]; exact HO5.out.snoc HX.out.1 HX.out.2⟩
end Go.Proofs.Ytccpblefebjadaa
