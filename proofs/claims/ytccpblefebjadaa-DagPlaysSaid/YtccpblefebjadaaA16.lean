/- grapevineref01.Ids: two slices of strings are one and the same. -/
import Derived.Test.YtccpblefebjadaaA15
namespace Go.Proofs.Ytccpblefebjadaa
open Go.RowKit Go.Maps Go.WideMaps Go.Sort Go.Shelf
open Go.Proofs (encStr)
open M (Rising keys get Graph Stands Searched)

theorem ext_getD {a b : List Bs} (h : a.length = b.length) (hk : ∀ j, j < a.length → a.getD j [] = b.getD j []) : a = b := by
  apply List.ext_getElem h
  intro j h1 h2
  have := hk j h1
  simpa [List.getD_eq_getElem?_getD, h1, h2] using this

/-- It hands back v; what was there reads as before. -/
def RetBel (v : Value) (w : World) (e : Ending) (w' : World) : Prop := e = .returned v ∧ Below w.heap.size w w'
theorem RetBel.mk {v v' : Value} {w w' : World} (h : v' = v) (hb : Below w.heap.size w w') : RetBel v w (.returned v') w' := ⟨by rw [h], hb⟩

set_option maxRecDepth 100000 in
set_option maxHeartbeats 1000000 in
theorem ids_same (w : World) {S T : Nat → Prop} {u v : Value} {a b : List Bs} (hu : Strs w S u a) (hv : Strs w T v b) : Calls Try.prog 18 #[u, v] w (RetBel (.bool (decide (a = b))) w) := by
  obtain ⟨A, c, rfl, hA, hax, han⟩ := hu
  obtain ⟨B, d, rfl, hB, hbx, hbn⟩ := hv
  by_cases hl : a.length = b.length
  · obtain ⟨n, hna⟩ : ∃ n, n = a.length := ⟨_, rfl⟩
    have hnb : n = b.length := hna.trans hl
    rw [← hna] at hA ⊢
    rw [← hnb] at hB ⊢
    have hn1000 : n ≤ 1000 := by omega
    have HN := Lib.hid (And.intro hna hnb)
    clear hna hnb hl
    go_enter Try.func18, Try.ntmps18
    go_wp2
    go_loopg [5] n (fun m i wr => ∃ k : Nat, k + m = n ∧ i = .int .i64 k ∧ Aside (∀ j, j < k → a.getD j [] = b.getD j []) ∧ Below w.heap.size w wr)
    case atStart => exact ⟨0, by omega, rfl, (fun j hj => by omega), Below.refl _ _⟩
    case round =>
      obtain ⟨k, hk, rfl, HR, hbel⟩ := hrel
      cases gk with
      | succ m =>
        have hlt : k < n := by omega
        obtain ⟨b1, o1, rfl, _, ht1, hc1⟩ := hA (by omega)
        obtain ⟨b2, o2, rfl, _, ht2, hc2⟩ := hB (by omega)
        have g1 := (hbel.cell (p := ⟨b1, o1 + k, none⟩) ht1).trans (hc1 k hlt)
        have g2 := (hbel.cell (p := ⟨b2, o2 + k, none⟩) ht2).trans (hc2 k (by omega))
        have hs : ∀ e : a.getD k [] = b.getD k [], ∀ j, j < k + 1 → a.getD j [] = b.getD j [] := fun e j hj => by
          by_cases h : j = k
          · subst h; exact e
          · exact HR.out j (by omega)
        have hne : ¬ a.getD k [] = b.getD k [] → decide (a = b) = false := fun h => by
          refine decide_eq_false (fun e => h (by rw [e]))
        have HS := Lib.hid (And.intro hs hne)
        have HB := Lib.hid hbel
        clear hs hne hc1 hc2 hA hB HR hbel
        have hXA : ∃ x, a.getD k [] = x := ⟨_, rfl⟩
        have hXB : ∃ x, b.getD k [] = x := ⟨_, rfl⟩
        obtain ⟨x, hx⟩ := hXA
        obtain ⟨y, hy⟩ := hXB
        rw [hx] at g1
        rw [hy] at g2
        have HX := Lib.hid (And.intro hx hy)
        clear hx hy
        simp only [encStr_eq] at g1 g2
        by_cases e : x = y
        · have HE := Lib.hid e
          clear e
          obtain rfl := HE.out
          go_wp2
          go_region
          go_wp2
          go_roundg m
          case measure => omega
          case rel => exact ⟨k + 1, by omega, by go_num, HS.out.1 (by rw [HX.out.1, HX.out.2]), HB.out.drew⟩
        · have e' : (x == y) = false := by simp [e]
          have HE := Lib.hid e
          clear e
          go_wp2
          go_region
          go_wp2
          go_ret
          exact RetBel.mk (vbool (HS.out.2 (by rw [HX.out.1, HX.out.2]; exact HE.out)).symm) HB.out.drew
      | zero =>
        obtain rfl : k = n := by omega
        have hf : ¬ ((k : Int) < (k : Int)) := by omega
        have HR := Lib.hid (ext_getD (HN.out.1.symm.trans HN.out.2) (by rw [← HN.out.1]; exact HR.out))
        have HB := Lib.hid hbel
        clear hbel
        go_wp2
        go_ret
        exact RetBel.mk (vbool (decide_eq_true HR.out).symm) HB.out
  · have hn : ((a.length : Int) ≠ (b.length : Int)) := by omega
    have hne : decide (a = b) = false := decide_eq_false (fun e => hl (by rw [e]))
    go_enter Try.func18, Try.ntmps18
    go_wp2
    go_ret
    exact RetBel.mk (vbool hne.symm) (Below.refl _ _)
end Go.Proofs.Ytccpblefebjadaa
