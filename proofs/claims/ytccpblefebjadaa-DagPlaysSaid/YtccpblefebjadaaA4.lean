/- slices.Compact(slices.Sorted(slices.Values(l))): the strings of l, rising, each once, in a new slice. -/
import Derived.RangeFuncBox
import Derived.RangeFuncLeaves
import Derived.Shelf.Abstract
import Derived.OwnWalkIn
import Derived.TacticsInMore
import Derived.LoopNIn
import Derived.LoopIn
import Derived.Maps.AppendAt
import Derived.Test.YtccpblefebjadaaA3
namespace Go.Proofs.Ytccpblefebjadaa
open Go.RowKit Go.Maps Go.WideMaps Go.Sort Go.Shelf
open Go.Proofs (encStr)

attribute [local go_sem] Oper.semAt_some

/-- The slice value sv holds the strings zs, in a block below n₀ (or is empty). -/
def Lies (n₀ : Nat) (W : World) (A : Option Addr) (zs : List Bs) : Prop :=
  0 < zs.length → ∃ b off, A = some ⟨b, off, none⟩ ∧ b < n₀ ∧ ∀ j, j < zs.length → W.cell? ⟨b, off + j, none⟩ = some (encStr (zs.getD j []))
theorem Lies.below {n₀ : Nat} {A B : World} (h : Below n₀ A B) {a : Option Addr} {zs : List Bs} (hl : Lies n₀ A a zs) : Lies n₀ B a zs := fun hp => by
  obtain ⟨b, off, e, hb, hc⟩ := hl hp
  exact ⟨b, off, e, hb, fun j hj => (h.cell (p := ⟨b, off + j, none⟩) hb).trans (hc j hj)⟩

theorem take_succ_getD (zs : List Bs) (k : Nat) (h : k < zs.length) : zs.take (k + 1) = zs.take k ++ [zs.getD k []] := by
  rw [List.take_succ_eq_append_getElem h]; simp [List.getD_eq_getElem?_getD, h]

set_option maxRecDepth 100000 in
set_option maxHeartbeats 2000000 in
/-- the iterator: each string of the slice, in order. -/
theorem values1_in (F : Fence) (n : Nat) (h7 : F.fn 54) (hro : F.round = none) (hn : 1 ≤ n) (l Bv n₀ : Nat) (a : Option Addr) (cap : Nat) (zs : List Bs) (hreach : zs.length ≤ 1000) (J Jx : List Bs → World → Prop)
    (hY : ∀ pre x W, J pre W → pre.length < zs.length → YieldAt F (n - 1) Try.prog l #[encStr x] W fun e W' =>
      (e = .returned (.bool true) ∧ J (pre ++ [x]) W' ∧ Below n₀ W W') ∨ (e = .returned (.bool false) ∧ Jx (pre ++ [x]) W'))
    (W : World) (hBs : W.cell? ⟨Bv, 0, none⟩ = some (.slice a zs.length cap)) (hc : Lies n₀ W a zs) (h0 : J [] W) :
    CallsIn F n Try.prog 54 #[.func (.yield l) #[] #[], .pointer (some ⟨Bv, 0, none⟩)] W fun e W' => (∃ v, e = .returned v) ∧
      ((∃ ys, ys = zs ∧ J ys W') ∨ (∃ pre, pre <+: zs ∧ Jx pre W')) := by
  refine callsIn_of_wp Try.func54 rfl h7 ?_ hro
  simp only [Try.ntmps54, List.size_toArray, List.length_cons, List.length_nil, Nat.reduceAdd, Nat.reduceSub, Array.replicate_succ, Array.replicate_zero, List.push_toArray, List.append_toArray, List.nil_append, List.cons_append]
  gi_wp2
  gi_loopw [7] (fun i wr => ∃ k : Nat, k ≤ zs.length ∧ i = .int .i64 k ∧ J (zs.take k) wr ∧ Below n₀ W wr)
    (fun i _ => zs.length - (intOf i).toNat)
  case atStart => exact ⟨0, Nat.zero_le _, rfl, h0, Below.refl _ _⟩
  case round =>
    obtain ⟨k, hk, rfl, hJs, hnx⟩ := hrel
    by_cases hlt : k < zs.length
    · obtain ⟨b, off, rfl, hb, hcs⟩ := hc (by omega)
      have hcx := (hnx.cell (p := ⟨b, off + k, none⟩) hb).trans (hcs k hlt)
      have hsn := take_succ_getD zs k hlt
      obtain ⟨fn, tmps, assign, body, hy, hR⟩ := hY _ (zs.getD k []) wr hJs (by rw [List.length_take]; omega)
      rw [← hsn] at hR
      generalize zs.getD k [] = x at *
      clear hc hcs hsn
      gi_wp2
      refine hR.mono ?_
      rintro e W3 (⟨rfl, hJ3, hk3⟩ | ⟨rfl, hJx3⟩)
      · gi_wp2
        go_roundw
        case rel => exact ⟨k + 1, by omega, by simp, hJ3, hnx.trans hk3⟩
        case measure => simp [intOf]; omega
      · gi_wp2
        refine bodyPost_ret (results_none rfl _ _ _) rfl ?_
        exact ⟨⟨_, rfl⟩, .inr ⟨_, List.take_prefix _ _, hJx3⟩⟩
    · obtain rfl : k = zs.length := by omega
      rw [List.take_length] at hJs
      gi_wp2
      go_end0
      exact ⟨⟨_, rfl⟩, .inl ⟨_, rfl, hJs⟩⟩

theorem values_in (F : Fence) (n : Nat) (h5 : F.fn 37) (hro : F.round = none) (a : Option Addr) (len cap : Nat) (w : World) :
    CallsIn F n Try.prog 37 #[.slice a len cap] w fun e w' => e = .returned (.func (.func 54) #[] #[.pointer (some ⟨w.heap.size, 0, none⟩)]) ∧ w' = w.alloc (.cells #[.slice a len cap] 27) := by
  refine callsIn_of_wp Try.func37 rfl h5 ?_ hro
  simp only [Try.ntmps37, List.size_toArray, List.length_cons, List.length_nil, Nat.reduceAdd, Nat.reduceSub, Array.replicate_succ, Array.replicate_zero, List.push_toArray, List.append_toArray, List.nil_append, List.cons_append]
  gi_wp2
  go_ret
  exact ⟨rfl, rfl⟩

theorem values_stops (F : Fence) (n : Nat) (h7 : F.fn 54) (hro : F.round = none) (hn : 1 ≤ n) (Bv n₀ : Nat) (a : Option Addr) (cap : Nat) (zs : List Bs) (hreach : zs.length ≤ 1000) (w : World) (hBs : Bv < w.heap.size) (hn₀ : n₀ ≤ w.heap.size)
    (hc : w.cell? ⟨Bv, 0, none⟩ = some (.slice a zs.length cap)) (hI : Lies n₀ w a zs) :
    SeqStopsK F n Try.prog 54 #[.pointer (some ⟨Bv, 0, none⟩)] (fun x : Bs => #[encStr x]) (Below n₀) (fun ys => ys = zs) (fun pre => pre <+: zs) zs.length w := fun l J Jx W hW _ _ hY h0 =>
  values1_in F n h7 hro hn l Bv n₀ a cap zs hreach J Jx hY W ((hW.cell (p := ⟨Bv, 0, none⟩) hBs).trans hc) (hI.below (hW.mono hn₀)) h0

theorem info30 : (Try.prog.info? 30).map (fun i => (i.zero, i.size, i.bytes)) = some (some (.string ⟨#[]⟩), 1, 16) := by kernel_rfl

set_option maxRecDepth 100000 in
set_option maxHeartbeats 2000000 in
/-- slices.AppendSeq(nil, seq), seq the iterator over a slice of strings. -/
theorem appendSeq_in (F : Fence) (n : Nat) (h58 : F.fn 58) (h54 : F.fn 54) (hro : F.round = none) (hn : 3 ≤ n) (Bv n₀ : Nat) (a : Option Addr) (cap : Nat) (zs : List Bs) (hreach : zs.length ≤ 1000) (w : World) (hBv : Bv < w.heap.size) (hn₀ : n₀ ≤ w.heap.size)
    (hc : w.cell? ⟨Bv, 0, none⟩ = some (.slice a zs.length cap)) (hI : Lies n₀ w a zs) :
    CallsIn F n Try.prog 58 #[.slice none 0 0, .func (.func 54) #[] #[.pointer (some ⟨Bv, 0, none⟩)]] w fun e W' => ∃ v, e = .returned v ∧ W'.ownsRow w.heap.size 30 1 v zs.length (zs.map encStr) ∧ (v = .slice none 0 0 ↔ zs = []) ∧ Below w.heap.size w W' := by
  have h1 : 1 ≤ n := by omega
  obtain ⟨i0, hi, hz0, hz1, hz2⟩ := info_parts info30
  refine callsIn_of_wp_marks Try.func58 rfl h58 ?_ hro
  simp only [Try.ntmps58, List.size_toArray, List.length_cons, List.length_nil, Nat.reduceAdd, Nat.reduceSub, Array.replicate_succ, Array.replicate_zero, List.push_toArray, List.append_toArray, List.nil_append, List.cons_append]
  gi_wp2
  have bO := Boxed.new w 27 (.slice none 0 0)
  have hB0 : Below w.heap.size w (w.alloc (.cells #[.slice none 0 0] 27)) := (Below.refl _ w).alloc (Nat.le_refl _) _
  have hc0 : (w.alloc (.cells #[.slice none 0 0] 27)).cell? ⟨Bv, 0, none⟩ = some (.slice a zs.length cap) := (hB0.cell (p := ⟨Bv, 0, none⟩) hBv).trans hc
  refine wpIn_rangeFunc_ownG hro h1 (gf := 54) (lb := #[.pointer (some ⟨Bv, 0, none⟩)]) rfl h54 (enters_of Try.func54 (by kernel_rfl) rfl)
    (values_stops F (n - 1) h54 hro (by omega) Bv n₀ a cap zs hreach _ (by simp; omega) (by simp; omega) hc0 (hI.below (hB0.mono hn₀))) belowK_t (belowK_b (by simp; omega)) (Below.refl _ _) (fun _ => rfl)
    (fun pre W => (∃ v, Boxed W w.heap.size 27 v ∧ W.ownsRow w.heap.size 30 1 v pre.length (pre.map encStr) ∧ (v = .slice none 0 0 ↔ pre = [])) ∧ Below w.heap.size w W)
    (fun _ _ _ => False)
    (OwnFrom.and (Own.from (holdsRow_own w.heap.size w.heap.size 27 30 1 (fun pre => pre.length) (fun pre => pre.map encStr) (fun pre v => v = .slice none 0 0 ↔ pre = [])) _) (ownFrom_below (Nat.le_refl _) (by simp)))
    (fun _ _ _ _ _ hs _ _ => hs)
    ⟨⟨_, bO, World.ownsRow_nil _ _ _ _, by simp⟩, hB0⟩
    (fun x => { tmps := #[.slice none 0 0, .func (.func 54) #[] #[.pointer (some ⟨Bv, 0, none⟩)], .pointer (some ⟨w.heap.size, 0, none⟩), undef, .slice none 0 0, encStr x, .func (.func 54) #[] #[.pointer (some ⟨Bv, 0, none⟩)], encStr x, undef, undef, undef, undef, undef], defers := [] }) ?assign ?body ?done ?stop
  case assign =>
    intro l x W K hK
    gi_wp2
    exact hK
  case body =>
    rintro l pre x W ⟨⟨v, hv, hrow, hnil⟩, hB⟩ hlt
    have hc := hv.cell
    gi_wp2_with (gi_at_builtin; refine wpListIn_append_own _ rfl _ _ 27 rfl w.heap.size 30 i0 (.string ⟨#[]⟩) 1 16 Try.underlying27 hi hz0 hz1 hz2 rfl (by decide) _ _ _ rfl (hrow.alloc _) ⟨W.heap.size, 0, none⟩ 1 1 [encStr x] rfl rfl (cell_one_new _ _ _) (by simp [Value.oneCell', encStr]) (by unfold maxLen; omega) (by omega) (by have := hB.size; simp; omega) ?_; intro v' w1 hown' hgrow _; obtain ⟨g', cap', rfl⟩ := ownsRow_succ hown'; obtain ⟨hv1, hv2, hr2, hk2, hb2⟩ := hv.appended (by decide) hrow hB.size (Nat.le_refl _) hown' hgrow; have hc1 := hv1.cell; have hf1 := hv1.frozen)
    exact ⟨hk2.from _, hb2.mono hn₀, ⟨_, hv2, by simpa using hr2, by simp⟩, hB.trans hb2⟩
  case done =>
    rintro D ys W hD rfl ⟨⟨v, hv, hrow, hnil⟩, hB⟩ hK
    have hc := hv.cell
    gi_wp2
    refine ⟨by simp, .inl ⟨_, _, rfl, run_takeDeferred hK, ?_⟩⟩
    exact ⟨_, results_tmp rfl _ _ _, v, rfl, ownsRow_putObj hrow _ hK rfl, hnil, hB.trans (belowK_b (w := w) (Nat.le_refl _) W D _ _ (by simp at hD; omega) hK rfl rfl)⟩
  case stop =>
    rintro D c pre W _ _ h _
    exact h.elim

set_option maxRecDepth 100000 in
set_option maxHeartbeats 1000000 in
theorem collect_in (F : Fence) (n : Nat) (h52 : F.fn 52) (h58 : F.fn 58) (h54 : F.fn 54) (hro : F.round = none) (hn : 4 ≤ n) (Bv n₀ : Nat) (a : Option Addr) (cap : Nat) (zs : List Bs) (hreach : zs.length ≤ 1000) (w : World) (hBv : Bv < w.heap.size) (hn₀ : n₀ ≤ w.heap.size)
    (hc : w.cell? ⟨Bv, 0, none⟩ = some (.slice a zs.length cap)) (hI : Lies n₀ w a zs) :
    CallsIn F n Try.prog 52 #[.func (.func 54) #[] #[.pointer (some ⟨Bv, 0, none⟩)]] w fun e W' => ∃ v, e = .returned v ∧ W'.ownsRow w.heap.size 30 1 v zs.length (zs.map encStr) ∧ (v = .slice none 0 0 ↔ zs = []) ∧ Below w.heap.size w W' := by
  have h1 : 1 ≤ n := by omega
  refine callsIn_of_wp Try.func52 rfl h52 ?_ hro
  simp only [Try.ntmps52, List.size_toArray, List.length_cons, List.length_nil, Nat.reduceAdd, Nat.reduceSub, Array.replicate_succ, Array.replicate_zero, List.push_toArray, List.append_toArray, List.nil_append, List.cons_append]
  gi_wp2_with (gi_at_call 58; refine (appendSeq_in F (n - 1) h58 h54 hro (by omega) Bv n₀ a cap zs hreach w hBv hn₀ hc hI).mono ?_; rintro e W ⟨v, rfl, hrow, hnil, hb⟩)
  go_ret
  exact ⟨v, rfl, hrow, hnil, hb⟩

set_option maxRecDepth 100000 in
set_option maxHeartbeats 1000000 in
theorem sortedV_in (F : Fence) (n : Nat) (hF : F = Fence.wide) (hn : 6 ≤ n) (Bv n₀ : Nat) (a : Option Addr) (cap : Nat) (zs : List Bs) (hreach : zs.length ≤ 1000) (w : World) (hBv : Bv < w.heap.size) (hn₀ : n₀ ≤ w.heap.size)
    (hc : w.cell? ⟨Bv, 0, none⟩ = some (.slice a zs.length cap)) (hI : Lies n₀ w a zs) :
    CallsIn F n Try.prog 36 #[.func (.func 54) #[] #[.pointer (some ⟨Bv, 0, none⟩)]] w fun e W' => ∃ v, e = .returned v ∧ W'.ownsRow w.heap.size 30 1 v zs.length ((zs.mergeSort (fun x y => decide (x ≤ y))).map encStr) ∧ Below w.heap.size w W' := by
  subst hF
  have h1 : 1 ≤ n := by omega
  have hro : Fence.wide.round = none := rfl
  have h52 : Fence.wide.fn 52 := trivial
  have h53 : Fence.wide.fn 53 := trivial
  refine callsIn_of_wp Try.func36 rfl trivial ?_ hro
  simp only [Try.ntmps36, List.size_toArray, List.length_cons, List.length_nil, Nat.reduceAdd, Nat.reduceSub, Array.replicate_succ, Array.replicate_zero, List.push_toArray, List.append_toArray, List.nil_append, List.cons_append]
  gi_wp2_with (gi_at_call 52; refine (collect_in Fence.wide (n - 1) trivial trivial trivial hro (by omega) Bv n₀ a cap zs hreach w hBv hn₀ hc hI).mono ?_; rintro e W ⟨v, rfl, hrow, hnil, hb⟩)
  have hsort := Try.sorts36 (n - 1)
  rcases hrow.2 with ⟨rfl, hz⟩ | ⟨gb, cap, cur, rfl, hbase, hgb, r1, r2, r3, r4⟩
  · have hss : zs = [] := List.eq_nil_of_length_eq_zero hz
    subst hss
    have cN : CallsIn Fence.wide (n - 1) Try.prog 53 #[.slice none 0 0] W fun e w' => e = .returned (.tuple #[]) ∧ w' = W := hsort.2 none 0 W
    gi_wp2_with (gi_at_call 53; refine cN.mono ?_; rintro e w' ⟨rfl, rfl⟩)
    go_ret
    exact ⟨.slice none 0 0, rfl, by simpa using hrow, hb⟩
  · have hH : Holds encStr W gb 0 zs.toArray := holds_of_block hgb (by simpa using r4)
    have hgl : gb < W.heap.size := (Array.getElem?_eq_some_iff.1 hgb).1
    have hsz : zs.length < 4611686018427387904 := by omega
    have cS : CallsIn Fence.wide (n - 1) Try.prog 53 #[.slice (some ⟨gb, 0, none⟩) zs.length cap] W fun e w' => e = .returned (.tuple #[]) ∧ ∃ k os, w' = grow (putRow encStr (Sort.ahead W k) gb 0 (zs.mergeSort fun x y => decide (x ≤ y)).toArray) os := hsort.1 gb 0 cap zs W hH hgl hsz
    gi_wp2_with (gi_at_call 53; refine cS.mono ?_; rintro e w' ⟨rfl, nn, os, rfl⟩)
    go_ret
    exact ⟨_, rfl, ownsRow_sorted (by simp) hbase hgb r1 r2 r3, hb.grown (grownBy_sorted _) hb.size (fun j hj => by cases hj; exact hbase)⟩

/-- The library's word on slices.Compact at a sorted list, in ours. -/
theorem compact_sorted (d : Array Bs) (hs : ∀ i j, i < j → j < d.size → d[i]! ≤ d[j]!) : (Lib.compactUpTo d d.size).Pairwise (· < ·) ∧ ∀ x, x ∈ Lib.compactUpTo d d.size ↔ x ∈ d.toList := by
  unfold Lib.compactUpTo
  constructor
  · rw [List.pairwise_map]
    have h0 : ((List.range d.size).filter (Lib.keeps d)).Pairwise (· < ·) := List.pairwise_lt_range.filter _
    refine h0.imp_of_mem ?_
    intro i j hi hj hij
    have hj2 := (List.mem_filter.1 hj)
    have hjs : j < d.size := by simpa using hj2.1
    have hk : d[j]! ≠ d[j - 1]! := by
      have := hj2.2
      simp only [Lib.keeps, decide_eq_true_eq] at this
      exact this.resolve_left (by omega)
    have h1 : d[i]! ≤ d[j - 1]! := by
      by_cases e : i = j - 1
      · rw [e]; exact List.le_refl _
      · exact hs i (j - 1) (by omega) (by omega)
    have h2 : d[j - 1]! ≤ d[j]! := hs (j - 1) j (by omega) hjs
    have h3 : d[j - 1]! < d[j]! := Decidable.byContradiction fun hn => hk (List.le_antisymm (List.not_lt.1 hn) h2)
    exact List.lt_of_le_of_lt h1 h3
  · intro x
    simp only [List.mem_map, List.mem_filter, List.mem_range]
    constructor
    · rintro ⟨i, ⟨hi, _⟩, rfl⟩
      rw [getElem!_pos d i hi]
      exact Array.getElem_mem_toList hi
    · intro hx
      obtain ⟨i, hi, rfl⟩ := List.getElem_of_mem hx
      have hi' : i < d.size := by simpa using hi
      -- the first place with that value
      have : ∀ i, ∀ (hi : i < d.size), ∃ k, (k < d.size ∧ Lib.keeps d k = true) ∧ d[k]! = d[i]! := by
        intro i
        induction i with
        | zero => intro hi; exact ⟨0, ⟨hi, by simp [Lib.keeps]⟩, rfl⟩
        | succ i ih =>
          intro hi
          by_cases e : d[i + 1]! = d[i]!
          · obtain ⟨k, hk, hke⟩ := ih (by omega)
            exact ⟨k, hk, by rw [hke, e]⟩
          · exact ⟨i + 1, ⟨hi, by simp [Lib.keeps, e]⟩, rfl⟩
      obtain ⟨k, hk, hke⟩ := this i hi'
      exact ⟨k, hk, by rw [hke, getElem!_pos d i hi']; simp⟩

theorem norm_is (l : List Bs) : Lib.compact (l.mergeSort fun x y => decide (x ≤ y)) = M.norm l := by
  have tr : ∀ a b c : Bs, decide (a ≤ b) = true → decide (b ≤ c) = true → decide (a ≤ c) = true := fun a b c h1 h2 => by simp only [decide_eq_true_eq] at *; exact List.le_trans h1 h2
  have to : ∀ a b : Bs, (decide (a ≤ b) || decide (b ≤ a)) = true := fun a b => by simp only [Bool.or_eq_true, decide_eq_true_eq]; exact List.le_total a b
  have hs := List.pairwise_mergeSort tr to l
  generalize hm : (l.mergeSort fun x y => decide (x ≤ y)) = m at *
  have h := compact_sorted m.toArray (fun i j hij hj => by
    have hj' : j < m.length := by simpa using hj
    have := List.pairwise_iff_getElem.1 hs i j (by omega) hj' hij
    rw [getElem!_pos m.toArray i (by simpa using (show i < m.length by omega)), getElem!_pos m.toArray j (by simpa using hj')]
    simpa using this)
  unfold Lib.compact
  have hz : m.toArray.size = m.length := by simp
  rw [hz] at h
  refine M.rising_ext h.1 (M.rising_norm l) fun x => ?_
  rw [h.2 x, M.mem_norm]
  rw [← hm]
  simp
end Go.Proofs.Ytccpblefebjadaa
