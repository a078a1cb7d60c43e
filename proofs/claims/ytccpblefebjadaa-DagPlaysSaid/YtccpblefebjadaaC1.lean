/- grapevineref09.Less; grapevineref15.less. -/
import Derived.Test.YtccpblefebjadaaA16
namespace Go.Proofs.Ytccpblefebjadaa
open Go.RowKit Go.Maps Go.WideMaps Go.Sort Go.Shelf
open Go.Proofs (encStr)
open M (Rising keys get Graph Stands Searched)

theorem lt_diff : ∀ (k : Nat) (x y : Bs) (h1 : k < x.length) (h2 : k < y.length), x.take k = y.take k → x[k] ≠ y[k] → (x < y ↔ x[k] < y[k])
  | 0, a :: x, b :: y, _, _, _, hne => by
    simp only [List.getElem_cons_zero] at hne ⊢
    rw [List.cons_lt_cons_iff]
    constructor
    · rintro (h | h)
      · exact h
      · exact absurd h.1 hne
    · exact .inl
  | k + 1, a :: x, b :: y, h1, h2, ht, hne => by
    simp only [List.take_succ_cons, List.cons.injEq] at ht
    simp only [List.getElem_cons_succ] at hne ⊢
    rw [List.cons_lt_cons_iff, ht.1]
    have ih := lt_diff k x y (by simpa using h1) (by simpa using h2) ht.2 hne
    constructor
    · rintro (h | h)
      · exact absurd h (by simp)
      · exact ih.1 h.2
    · exact fun h => .inr ⟨rfl, ih.2 h⟩
  | k, [], _, h1, _, _, _ => by simp at h1
  | k, _ :: _, [], _, h2, _, _ => by simp at h2
theorem lt_pre : ∀ (x y : Bs), x = y.take x.length → x.length ≤ y.length → (x < y ↔ x.length < y.length)
  | [], [], _, _ => by simp
  | [], b :: y, _, _ => by simp
  | a :: x, [], _, h => by simp at h
  | a :: x, b :: y, ht, h => by
    simp only [List.length_cons, List.take_succ_cons, List.cons.injEq] at ht
    rw [List.cons_lt_cons_iff, ht.1]
    have ih := lt_pre x y ht.2 (by simpa using h)
    simp only [List.length_cons]
    constructor
    · rintro (h | h)
      · exact absurd h (by simp)
      · have := ih.1 h.2; omega
    · exact fun h => .inr ⟨by simp, ih.2 (by omega)⟩
theorem not_lt_pre : ∀ (y x : Bs), x.take y.length = y → ¬ x < y
  | [], x, _ => by simp
  | b :: y, [], h => by simp at h
  | b :: y, a :: x, h => by
    simp only [List.length_cons, List.take_succ_cons, List.cons.injEq] at h
    rw [List.cons_lt_cons_iff, h.1]
    rintro (h' | h')
    · exact absurd h' (by simp)
    · exact not_lt_pre y x h.2 h'.2

set_option maxRecDepth 100000 in
set_option maxHeartbeats 1000000 in
theorem less_walk (w : World) (x y : Bs) (hx : x.length ≤ 1000) (hy : y.length ≤ 1000) : Calls Try.prog 56 #[encStr x, encStr y] w (RetBel (.bool (decide (x < y))) w) := by
  simp only [encStr_eq]
  go_enter Try.func56, Try.ntmps56
  go_wp2
  go_loopg [5] x.length (fun m i wr => ∃ k : Nat, k + m = x.length ∧ i = .int .i64 k ∧ Aside (k ≤ y.length ∧ x.take k = y.take k) ∧ Below w.heap.size w wr)
  case atStart => exact ⟨0, by omega, rfl, ⟨Nat.zero_le _, by simp⟩, Below.refl _ _⟩
  case round =>
    obtain ⟨k, hk, rfl, HR, hbel⟩ := hrel
    have HB := Lib.hid hbel
    clear hbel
    cases gk with
    | zero =>
      obtain rfl : k = x.length := by omega
      have hf : ¬ ((x.length : Int) < (x.length : Int)) := by omega
      have h1 := HR.out
      rw [List.take_length] at h1
      have HL := Lib.hid (lt_pre x y h1.2 h1.1)
      clear h1
      go_wp2
      go_ret
      exact RetBel.mk (vbool (decide_eq_decide.2 HL.out.symm)) HB.out
    | succ m =>
      have hf : ((k : Int) < (x.length : Int)) := by omega
      by_cases hky : k < y.length
      · have hf2 : ((k : Int) < (y.length : Int)) := by omega
        have hkx : k < x.length := by omega
        by_cases e : x[k] = y[k]
        · have hd : (((⟨x.toArray⟩ : ByteArray)[k].toNat : Int) != ((⟨y.toArray⟩ : ByteArray)[k].toNat : Int)) = false := by
            have : (⟨x.toArray⟩ : ByteArray)[k] = (⟨y.toArray⟩ : ByteArray)[k] := e
            simp [this]
          have hs : x.take (k + 1) = y.take (k + 1) := by
            rw [List.take_succ_eq_append_getElem hkx, List.take_succ_eq_append_getElem hky, HR.out.2, e]
          have HS := Lib.hid hs
          clear hs e
          go_wp2
          go_region
          go_wp2
          go_roundg m
          case measure => omega
          case rel => exact ⟨k + 1, by omega, by go_num, ⟨by omega, HS.out⟩, HB.out.drew⟩
        · have hne : ((⟨x.toArray⟩ : ByteArray)[k].toNat : Int) ≠ ((⟨y.toArray⟩ : ByteArray)[k].toNat : Int) := by
            intro h
            exact e (UInt8.toNat_inj.1 (by exact_mod_cast h))
          have hd : (((⟨x.toArray⟩ : ByteArray)[k].toNat : Int) != ((⟨y.toArray⟩ : ByteArray)[k].toNat : Int)) = true := by
            simpa using hne
          have HL : Hid ((x < y) ↔ ((⟨x.toArray⟩ : ByteArray)[k].toNat < (⟨y.toArray⟩ : ByteArray)[k].toNat)) := Lib.hid (lt_diff k x y hkx hky HR.out.2 e)
          clear e
          go_wp2
          go_region
          go_wp2
          go_region
          go_wp2
          go_ret
          exact RetBel.mk (vbool (decide_eq_decide.2 HL.out.symm)) HB.out.drew.drew
      · have hf2 : decide ((k : Int) < (y.length : Int)) = false := decide_eq_false (by omega)
        have hky2 : k = y.length := by have := HR.out.1; omega
        have hn : ¬ x < y := not_lt_pre y x (by rw [← hky2, HR.out.2, hky2, List.take_length])
        have hl : ¬ x.length < y.length := by omega
        have HL := Lib.hid (And.intro hn hl)
        clear hn hl hky
        go_wp2
        go_ret
        exact RetBel.mk (vbool ((decide_eq_false HL.out.2).trans (decide_eq_false HL.out.1).symm)) HB.out
set_option maxRecDepth 100000 in
theorem rless_walk (w : World) (x y : Bs) (hx : x.length ≤ 1000) (hy : y.length ≤ 1000) : Calls Try.prog 44 #[encStr x, encStr y] w (RetBel (.bool (decide (x < y))) w) := by
  have H := Lib.hid (less_walk w x y hx hy)
  simp only [encStr_eq] at H ⊢
  go_enter Try.func44, Try.ntmps44
  go_wp2_with fail
  refine H.out.mono ?_
  rintro e w' ⟨rfl, hb⟩
  go_wp2
  go_ret
  exact ⟨rfl, hb⟩
end Go.Proofs.Ytccpblefebjadaa
