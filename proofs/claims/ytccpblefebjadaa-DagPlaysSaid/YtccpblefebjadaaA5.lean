/- slices.Compact at a sorted row; slices.Clone; the graph in memory. -/
import Derived.Test.YtccpblefebjadaaA4
namespace Go.Proofs.Ytccpblefebjadaa
open Go.RowKit Go.Maps Go.WideMaps Go.Sort Go.Shelf
open Go.Proofs (encStr)
open M (Rising keys get Graph)

theorem values_any (a : Option Addr) (len cap : Nat) (w : World) :
    Calls Try.prog 37 #[.slice a len cap] w fun e w' => e = .returned (.func (.func 54) #[] #[.pointer (some ⟨w.heap.size, 0, none⟩)]) ∧ w' = w.alloc (.cells #[.slice a len cap] 27) :=
  (callsIn_wide (n := 6)).1 (values_in Fence.wide 6 trivial rfl a len cap w)

theorem Strs.lies {w : World} {S : Nat → Prop} {A : Option Addr} {l : List Bs} {c : Nat} (h : Strs w S (.slice A l.length c) l) : Lies w.heap.size w A l := fun hp => by
  obtain ⟨A', c', e, h1, _⟩ := h
  cases e
  obtain ⟨b, off, e, _, hb, hc⟩ := h1 hp
  exact ⟨b, off, e, hb, hc⟩

theorem sortedV_any (a : Option Addr) (cap : Nat) (zs : List Bs) (hreach : zs.length ≤ 1000) (w : World) (hI : Lies w.heap.size w a zs) :
    Calls Try.prog 36 #[.func (.func 54) #[] #[.pointer (some ⟨w.heap.size, 0, none⟩)]] (w.alloc (.cells #[.slice a zs.length cap] 27)) fun e W' =>
      ∃ v, e = .returned v ∧ W'.ownsRow w.heap.size 30 1 v zs.length ((zs.mergeSort (fun x y => decide (x ≤ y))).map encStr) ∧ Below w.heap.size w W' := by
  have hB : Below w.heap.size w (w.alloc (.cells #[.slice a zs.length cap] 27)) := (Below.refl _ w).alloc (Nat.le_refl _) _
  have bN := Boxed.new w 27 (.slice a zs.length cap)
  refine ((callsIn_wide (n := 6)).1 (sortedV_in Fence.wide 6 rfl (by omega) w.heap.size w.heap.size a cap zs hreach _ (by simp) (by simp) bN.cell (hI.below hB))).mono ?_
  rintro e W ⟨v, rfl, hrow, hb⟩
  exact ⟨v, rfl, ownsRow_base_a hrow (by simp), hB.trans (hb.mono (by simp))⟩

/-- A row cut to its first places. -/
theorem own_take {w : World} {base g n cap k : Nat} {e : TypeId} {l : List Bs} (h : w.ownsRow base e 1 (.slice (some ⟨g, 0, none⟩) n cap) n (l.map encStr)) (hk : k ≤ n) : w.ownsRow base e 1 (.slice (some ⟨g, 0, none⟩) k cap) k ((l.take k).map encStr) := by
  have hl : l.length = n := by have := h.1; simpa using this
  rcases h.2 with ⟨h0, _⟩ | ⟨g', cap', cur, he, hb, hg, h1, h2, h3, h4⟩
  · cases h0
  · cases he
    refine ⟨by simp; omega, .inr ⟨g, cap, cur, rfl, hb, hg, by omega, h2, h3, ?_⟩⟩
    rw [List.map_take, ← h4, List.take_take, Nat.mul_one, Nat.mul_one, Nat.min_eq_left hk]

theorem compact_any (base : Nat) (v : Value) (l : List Bs) (hl : ∀ x ∈ l, x.length ≤ 1000) (hn : l.length ≤ 1000) (w : World)
    (h : w.ownsRow base 30 1 v l.length ((l.mergeSort (fun x y => decide (x ≤ y))).map encStr)) :
    Calls Try.prog 35 #[v] w fun e w' => ∃ v', e = .returned v' ∧ Strs w' (fun b => base ≤ b) v' (M.norm l) ∧ Below base w w' := by
  have hln : ∀ x ∈ M.norm l, x.length ≤ 1000 := fun x hx => hl x (M.mem_norm.1 hx)
  have hnn : (M.norm l).length ≤ 1000 := Nat.le_trans (M.length_norm l) hn
  rcases h.2 with ⟨rfl, h0⟩ | ⟨g, cap, cur, rfl, hb, hg, h1, h2, h3, h4⟩
  · obtain rfl : l = [] := List.eq_nil_of_length_eq_zero h0
    refine (AnyG.slices_Compact_string_empty Try.compact35 none 0 w).mono ?_
    rintro e w' ⟨rfl, rfl⟩
    exact ⟨_, rfl, ⟨none, 0, rfl, fun hp => absurd hp (by simp [M.norm]), hln, hnn⟩, Below.refl _ _⟩
  · generalize hm : (l.mergeSort fun x y => decide (x ≤ y)) = m at *
    have hml : m.length = l.length := by rw [← hm, List.length_mergeSort]
    have hnorm := norm_is l
    rw [hm] at hnorm
    rw [← hml] at h1 h4 h ⊢
    have hc := AnyG.slices_Compact_string Try.compact35 g 0 cap m w (holds_of_block hg (by simpa using h4)) (by omega) h1
    refine hc.mono ?_
    rintro e w' ⟨rfl, q, rfl⟩
    rw [hnorm]
    have hle : (M.norm l).length ≤ m.length := by rw [hml]; exact M.length_norm l
    have e0 : putRow encStr (Sort.ahead w q) g 0 (M.norm l ++ List.replicate (m.length - (M.norm l).length) []).toArray = grow (putRow encStr (Sort.ahead w q) g 0 (M.norm l ++ List.replicate (m.length - (M.norm l).length) []).toArray) #[] := by simp
    rw [e0]
    have hrow := ownsRow_sorted (w := w) (n := q) (os := #[]) (ss := m) (ts := M.norm l ++ List.replicate (m.length - (M.norm l).length) []) (by simp; omega) hb hg h1 h2 h3
    have hrow2 := own_take hrow hle
    rw [List.take_left] at hrow2
    exact ⟨_, rfl, Strs.of_own hrow2 hln hnn, (Below.refl base w).grown (grownBy_sorted _) (by have := (Array.getElem?_eq_some_iff.1 hg).1; omega) (fun j hj => by cases hj; exact hb)⟩
end Go.Proofs.Ytccpblefebjadaa
