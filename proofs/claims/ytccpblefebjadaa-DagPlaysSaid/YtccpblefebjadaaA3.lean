/- The keys of a map, rising, in a new slice. -/
import Derived.Test.YtccpblefebjadaaA2
import Derived.Test.YtccpblefebjadaaB2
namespace Go.Proofs.Ytccpblefebjadaa
open Go.RowKit Go.Maps Go.WideMaps Go.Sort Go.Shelf
open Go.Proofs (encStr)
open M (Rising keys)

/-- A new slice that holds l; nothing that was there has turned. -/
def NewStrs (w : World) (l : List Bs) (e : Ending) (w' : World) : Prop :=
  ∃ v, e = .returned v ∧ Strs w' (fun b => w.heap.size ≤ b) v l ∧ Below w.heap.size w w'

theorem Strs.mono {w : World} {S T : Nat → Prop} {v : Value} {l : List Bs} (h : Strs w S v l) (hst : ∀ b, S b → T b) : Strs w T v l := by
  obtain ⟨A, c, rfl, h1, h2⟩ := h
  exact ⟨A, c, rfl, fun hl => by obtain ⟨b, off, e, hs, r⟩ := h1 hl; exact ⟨b, off, e, hst b hs, r⟩, h2⟩
theorem Strs.same {w w' : World} {S : Nat → Prop} {v : Value} {l : List Bs} (h : Strs w S v l) (hs : w.heap.size ≤ w'.heap.size) (hb : ∀ i, i < w.heap.size → S i → w'.heap[i]? = w.heap[i]?) : Strs w' S v l := by
  obtain ⟨A, c, rfl, h1, h2⟩ := h
  refine ⟨A, c, rfl, fun hl => ?_, h2⟩
  obtain ⟨b, off, e, hS, hlt, hc⟩ := h1 hl
  refine ⟨b, off, e, hS, by omega, fun j hj => ?_⟩
  rw [← hc j hj]
  unfold World.cell?
  rw [hb b hlt hS]
theorem Strs.below {w w' : World} {S : Nat → Prop} {v : Value} {l : List Bs} (h : Strs w S v l) (hb : Below w.heap.size w w') : Strs w' S v l :=
  h.same hb.size (fun i hi _ => hb.block i hi)
theorem Strs.frame {w w' : World} {S T : Nat → Prop} {v : Value} {l : List Bs} (h : Strs w S v l) (hf : Frame T w w') (hn : ∀ i, i < w.heap.size → S i → ¬ T i) : Strs w' S v l :=
  h.same hf.size (fun i hi hs => hf.block i hi (hn i hi hs))

theorem Strs.of_own {w : World} {base : Nat} {v : Value} {l : List Bs} (h : w.ownsRow base 30 1 v l.length (l.map encStr)) (hl : ∀ x ∈ l, x.length ≤ 1000) (hn : l.length ≤ 1000) : Strs w (fun b => base ≤ b) v l := by
  rcases h.2 with ⟨rfl, h0⟩ | ⟨g, cap, cur, rfl, hb, hg, _, _, _, ht⟩
  · exact ⟨none, 0, by rw [h0], fun hp => by omega, hl, hn⟩
  · refine ⟨_, cap, rfl, fun hp => ⟨g, 0, rfl, hb, (Array.getElem?_eq_some_iff.1 hg).1, fun j hj => ?_⟩, hl, hn⟩
    unfold World.cell?
    simp only [hg, Option.isSome_none, Bool.false_eq_true, if_false]
    have h1 : cur.toList[0 + j]? = (cur.toList.take (l.length * 1))[j]? := by rw [List.getElem?_take]; simp [hj]
    rw [← Array.getElem?_toList, h1, ht]
    simp [hj]

/-- What a sort makes of the keys, in whatever order they came. -/
theorem sorted_is {α : Type} {l : M.AL α} (hR : Rising l) {ss ks : List Bs} (hp : ss.Perm ks) (hnd : ks.Nodup) (hm : ∀ x, x ∈ ks ↔ x ∈ keys l) : (ss.mergeSort fun x y => decide (x ≤ y)) = keys l := by
  have tr : ∀ a b c : Bs, decide (a ≤ b) = true → decide (b ≤ c) = true → decide (a ≤ c) = true := fun a b c h1 h2 => by simp only [decide_eq_true_eq] at *; exact List.le_trans h1 h2
  have to : ∀ a b : Bs, (decide (a ≤ b) || decide (b ≤ a)) = true := fun a b => by simp only [Bool.or_eq_true, decide_eq_true_eq]; exact List.le_total a b
  refine List.Perm.eq_of_pairwise (le := fun a b => decide (a ≤ b) = true) (fun a b _ _ h1 h2 => ?_) (List.pairwise_mergeSort tr to ss) ?_ ?_
  · simp only [decide_eq_true_eq] at h1 h2; exact List.le_antisymm h1 h2
  · exact (M.sorted_keys hR).imp fun h => by simp only [decide_eq_true_eq]; exact List.le_of_lt h
  · exact ((List.mergeSort_perm ss _).trans hp).trans ((List.perm_ext_iff_of_nodup hnd (M.nodup_keys hR)).2 hm)

set_option maxHeartbeats 1000000 in
theorem sorted49 {α : Type} (b n : Nat) (ok : Value → Bool) (f : Bs → Option Value) (l : M.AL α) (hR : Rising l) (hk : ∀ x, (f x).isSome = true ↔ x ∈ keys l) (hl : ∀ x ∈ keys l, x.length ≤ 1000) (hn : l.length ≤ 1000) (w : World)
    (hm : MapAt w Try.prog 30 ok b n f) : Calls Try.prog 31 #[.map (some b)] w (NewStrs w (keys l)) := by
  obtain ⟨D, hown, _, hnd, hmem, hsz, hle, _, _⟩ := hm.keys Try.underlying30
  have hmem' : ∀ x, x ∈ strKeys D ↔ x ∈ keys l := fun x => (hmem x).trans (hk x)
  have hcnt : Maps.size D = l.length := by
    rw [← hsz]
    have := ((List.perm_ext_iff_of_nodup hnd (M.nodup_keys hR)).2 hmem').length_eq
    simpa [keys] using this
  have hmax : Maps.size D ≤ maxLen := by unfold maxLen; omega
  have hbytes : Maps.size D * 16 ≤ 140737488355328 := by omega
  refine (callsIn_wide (n := 6)).1 ?_
  have hfK : Fence.wide.fn 49 := trivial
  have hfS : Fence.wide.fn 36 := trivial
  refine callsIn_of_wp Try.func31 rfl trivial ?_ rfl
  simp only [Try.ntmps31, List.size_toArray, List.length_cons, List.length_nil, Nat.reduceAdd, Nat.reduceSub, Array.replicate_succ, Array.replicate_zero, List.push_toArray, List.append_toArray, List.nil_append, List.cons_append]
  gi_wp2_with (first
    | (gi_at_call 49; refine (Try.maps_Keys_49 _ _).mono ?_; rintro e w' ⟨rfl, rfl⟩)
    | (gi_at_call 36; refine (Try.slices_Sorted_keys_36_49 b n D (okV ok) w hown hmax hbytes).mono ?_; rintro e w' ⟨v, ss, rfl, hS, hrow, hnil, hb⟩))
  go_ret
  refine ⟨v, rfl, ?_, ((Below.refl _ w).alloc (Nat.le_refl _) _).trans (hb.mono (by simp))⟩
  have he := sorted_is hR hS hnd hmem'
  rw [he] at hrow
  have hlen : ss.length = (keys l).length := by rw [← he, List.length_mergeSort]
  rw [hlen] at hrow
  exact Strs.of_own (ownsRow_base_a hrow (by simp)) hl (by simpa [keys] using hn)
set_option maxHeartbeats 1000000 in
theorem sorted55 {α : Type} (b n : Nat) (ok : Value → Bool) (f : Bs → Option Value) (l : M.AL α) (hR : Rising l) (hk : ∀ x, (f x).isSome = true ↔ x ∈ keys l) (hl : ∀ x ∈ keys l, x.length ≤ 1000) (hn : l.length ≤ 1000) (w : World)
    (hm : MapAt w Try.prog 30 ok b n f) : Calls Try.prog 40 #[.map (some b)] w (NewStrs w (keys l)) := by
  obtain ⟨D, hown, _, hnd, hmem, hsz, hle, _, _⟩ := hm.keys Try.underlying30
  have hmem' : ∀ x, x ∈ strKeys D ↔ x ∈ keys l := fun x => (hmem x).trans (hk x)
  have hcnt : Maps.size D = l.length := by
    rw [← hsz]
    have := ((List.perm_ext_iff_of_nodup hnd (M.nodup_keys hR)).2 hmem').length_eq
    simpa [keys] using this
  have hmax : Maps.size D ≤ maxLen := by unfold maxLen; omega
  have hbytes : Maps.size D * 16 ≤ 140737488355328 := by omega
  refine (callsIn_wide (n := 6)).1 ?_
  have hfK : Fence.wide.fn 55 := trivial
  have hfS : Fence.wide.fn 36 := trivial
  refine callsIn_of_wp Try.func40 rfl trivial ?_ rfl
  simp only [Try.ntmps40, List.size_toArray, List.length_cons, List.length_nil, Nat.reduceAdd, Nat.reduceSub, Array.replicate_succ, Array.replicate_zero, List.push_toArray, List.append_toArray, List.nil_append, List.cons_append]
  gi_wp2_with (first
    | (gi_at_call 55; refine (Try.maps_Keys_55 _ _).mono ?_; rintro e w' ⟨rfl, rfl⟩)
    | (gi_at_call 36; refine (Try.slices_Sorted_keys_36_55 b n D (okV ok) w hown hmax hbytes).mono ?_; rintro e w' ⟨v, ss, rfl, hS, hrow, hnil, hb⟩))
  go_ret
  refine ⟨v, rfl, ?_, ((Below.refl _ w).alloc (Nat.le_refl _) _).trans (hb.mono (by simp))⟩
  have he := sorted_is hR hS hnd hmem'
  rw [he] at hrow
  have hlen : ss.length = (keys l).length := by rw [← he, List.length_mergeSort]
  rw [hlen] at hrow
  exact Strs.of_own (ownsRow_base_a hrow (by simp)) hl (by simpa [keys] using hn)
end Go.Proofs.Ytccpblefebjadaa
