/- Add: an id that is known; one that waits. -/
import Derived.Test.YtccpblefebjadaaA8
namespace Go.Proofs.Ytccpblefebjadaa
open Go.RowKit Go.Maps Go.WideMaps Go.Sort Go.Shelf
open Go.Proofs (encStr)
open M (Rising keys get Graph)

/-- What Add leaves: the graph G' in F', the new slice of those that came in. -/
def Added (w : World) (F : Nat → Prop) (g : Nat) (G' : Graph) (out : List Bs) (e : Ending) (w' : World) : Prop :=
  ∃ v, e = .returned v ∧ ∃ F' : Nat → Prop, DagAt w' F' g G' ∧ (∀ i, F' i → F i ∨ w.heap.size ≤ i) ∧ (∀ i, F i → F' i) ∧ Frame F w w' ∧ Strs w' (fun b => w.heap.size ≤ b ∧ ¬ F' b) v out

theorem Added.none {w : World} {F : Nat → Prop} {g : Nat} {G : Graph} (h : DagAt w F g G) : Added w F g G [] (.returned (.slice .none 0 0)) w :=
  ⟨_, rfl, F, h, fun _ hi => .inl hi, fun _ hi => hi, Frame.refl _ _, .none, 0, rfl, fun hp => absurd hp (by simp), by simp, by simp⟩

theorem lookw (w : World) {F : Nat → Prop} {g : Nat} {G : Graph} {bi bw bl : Nat} {fi fw fl : Bs → Option Value} (h : DagIn w F g G bi bw bl fi fw fl) (x : Bs) (hx : x.length ≤ 1000) :
    ∃ u, (Instr.lookup 49 (.map (some bw)) (.string ⟨x.toArray⟩) true).run Try.prog w = .ok (.tuple #[u, .bool (get G.wai x).isSome]) w ∧ okS u = true := by
  obtain ⟨h1, h2⟩ := h.mw.look_ok Try.underlying30 Try.underlying49 (zeroS w) rfl ⟨x.toArray⟩ (size_ok hx)
  rw [h1]
  simp only
  rw [h.isSomeW]
  refine ⟨_, rfl, ?_⟩
  cases hf : fw x with
  | none => rfl
  | some v => exact h2 v (by simpa using hf)

set_option maxRecDepth 100000 in
set_option maxHeartbeats 1000000 in
theorem add_known {w : World} {F : Nat → Prop} {g : Nat} {G : Graph} (h : DagAt w F g G) (x : Bs) (hx : x.length ≤ 1000) (v : Value) (hk : (get G.wai x).isSome = true ∨ G.has x = true) :
    Calls Try.prog 15 #[.pointer (some ⟨g, 0, none⟩), encStr x, v] w (Added w F g G []) := by
  have HN := Lib.hid (Added.none h)
  have hh := has_dag h x hx
  obtain ⟨bi, bw, bl, fi, fw, fl, h⟩ := h
  obtain ⟨u, hl, _⟩ := lookw w h x hx
  have hc := h.c1
  clear h
  cases hb : (get G.wai x).isSome with
  | true =>
    rw [hb] at hl
    clear hb hk hh
    simp only [encStr_eq]
    go_enter Try.func15, Try.ntmps15
    go_wp2
    go_step3
    go_wp2
    rw [Exit.noGoto_ret]
    go_ret
    exact HN.out
  | false =>
    rw [hb] at hl
    have hi : G.has x = true := by rcases hk with h | h; (· rw [hb] at h; cases h); exact h
    rw [hi] at hh
    have HH := Lib.hid hh
    clear hb hk hh hi
    simp only [encStr_eq] at HH ⊢
    go_enter Try.func15, Try.ntmps15
    go_wp2
    go_step3
    go_wp2_with (go_at_call 24; refine HH.out.mono ?_; rintro e w' ⟨rfl, rfl⟩)
    rw [Exit.noGoto_ret]
    go_ret
    exact HN.out

/-- The world behind 'own := slices.Compact(slices.Sorted(slices.Values(parents)))'. -/
structure Own (w : World) (ps : List Bs) (v : Value) (W : World) : Prop where
  strs : Strs W (fun b => w.heap.size ≤ b) v (M.norm ps)
  below : Below w.heap.size w W

/-- F and what has been laid since w. -/
def Wider (F : Nat → Prop) (w W : World) : Nat → Prop := fun i => F i ∨ (w.heap.size ≤ i ∧ i < W.heap.size)

theorem DagAt.own {w W : World} {F : Nat → Prop} {g : Nat} {G : Graph} {bi bw bl : Nat} {fi fw fl : Bs → Option Value} {ps : List Bs} {v : Value} (h : DagIn w F g G bi bw bl fi fw fl) (ho : Own w ps v W) :
    DagIn W (Wider F w W) g G bi bw bl fi fw fl ∧ Strs W (Wider F w W) v (M.norm ps) := by
  have h1 := h.same (w' := W) ho.below.size (fun i hi _ => ho.below.block i hi)
  refine ⟨h1.widen (fun i hi => .inl hi) (fun i hi => ?_), ?_⟩
  · rcases hi with hi | hi
    · exact h1.lt i hi
    · exact hi.2
  · obtain ⟨A, c, rfl, hA, hl⟩ := ho.strs
    exact ⟨A, c, rfl, fun hp => by obtain ⟨b, off, e, hs, hlt, hc⟩ := hA hp; exact ⟨b, off, e, .inr ⟨hs, hlt⟩, hlt, hc⟩, hl⟩

set_option maxRecDepth 100000 in
set_option maxHeartbeats 1000000 in
theorem add_wait {w : World} {F : Nat → Prop} {g : Nat} {G : Graph} (h : DagAt w F g G) (hcnt : G.inn.length + G.wai.length < 500) (x : Bs) (hx : x.length ≤ 1000) {S : Nat → Prop} {v : Value} {ps : List Bs} (hv : Strs w S v ps)
    (hk1 : (get G.wai x).isSome = false) (hk2 : G.has x = false) (hr : G.ready (M.norm ps) = false) :
    Calls Try.prog 15 #[.pointer (some ⟨g, 0, none⟩), encStr x, v] w (Added w F g ⟨G.inn, M.ins x (M.norm ps) G.wai⟩ []) := by
  have hh := has_dag h x hx
  have hni : x ∉ keys G.inn := fun hi => by have := M.isSome_get.2 hi; unfold Graph.has at hk2; rw [hk2] at this; cases this
  have hnw : x ∉ keys G.wai := fun hi => by have := M.isSome_get.2 hi; rw [hk1] at this; cases this
  obtain ⟨bi, bw, bl, fi, fw, fl, h⟩ := h
  obtain ⟨u, hl, _⟩ := lookw w h x hx
  rw [hk1] at hl
  rw [hk2] at hh
  have hc := h.c1
  obtain ⟨A, c, rfl, hA⟩ := id hv
  have hS := sortedV_any A c ps hA.2.2 w hv.lies
  have hps : ∀ x ∈ ps, x.length ≤ 1000 := hA.2.1
  have hpn : ps.length ≤ 1000 := hA.2.2
  -- behind the three calls
  have key : ∀ (W1 : World) (v1 : Value) (W2 : World) (v2 : Value), W1.ownsRow w.heap.size 30 1 v1 ps.length ((ps.mergeSort (fun x y => decide (x ≤ y))).map encStr) → Below w.heap.size w W1 → Strs W2 (fun b => w.heap.size ≤ b) v2 (M.norm ps) → Below w.heap.size W1 W2 →
      Calls Try.prog 38 #[.pointer (some ⟨g, 0, none⟩), v2] W2 (RetSame (.bool false) W2) ∧ W2.cell? ⟨g, 1, none⟩ = some (.map (some bw)) ∧
      ∃ W3, (Instr.mapUpdate 49 (.map (some bw)) (.string ⟨x.toArray⟩) v2).run Try.prog W2 = .ok () W3 ∧ Added w F g ⟨G.inn, M.ins x (M.norm ps) G.wai⟩ [] (.returned (.slice none 0 0)) W3 := by
    intro W1 v1 W2 v2 _ hb1 hs2 hb2
    have ho : Own w ps v2 W2 := ⟨hs2, hb1.trans hb2⟩
    obtain ⟨h2, hv2⟩ := DagAt.own h ho
    have hrd := ready_dag ⟨bi, bw, bl, fi, fw, fl, h2⟩ hv2
    rw [hr] at hrd
    have hok : okS v2 = true := by obtain ⟨A, c, rfl, _⟩ := hs2; rfl
    obtain ⟨W3, r3, m3, t3⟩ := h2.mw.store Try.underlying30 Try.underlying49 (by unfold maxLen; omega) ⟨x.toArray⟩ (size_ok hx) hok
    simp only at m3
    have h3 := h2.wait hx hni hnw hv2 hcnt m3 t3
    refine ⟨hrd, h2.c1, W3, r3, _, rfl, Wider F w W2, ⟨_, _, _, _, _, _, h3⟩, ?_, fun i hi => .inl hi, ?_, none, 0, rfl, fun hp => absurd hp (by simp), by simp, by simp⟩
    · rintro i (hi | hi)
      · exact .inl hi
      · exact .inr hi.1
    · have f1 : Frame F w W2 := (Frame.of_below ho.below).mono (fun i _ h => h.elim)
      have f2 := Frame.of_turned t3
      refine ⟨f2.os.trans f1.os, f2.tape.trans f1.tape, f2.output.trans f1.output, Nat.le_trans f1.size f2.size, fun i hi hn => ?_⟩
      exact (f2.block i (Nat.lt_of_lt_of_le hi f1.size) (fun e => hn (e ▸ h.pw))).trans (f1.block i hi hn)
  have HK := Lib.hid key
  have HH := Lib.hid hh
  have HS := Lib.hid hS
  clear h hA hv key hh hS hni hnw hk1 hk2 hr hcnt
  simp only [encStr_eq] at HH HK ⊢
  go_enter Try.func15, Try.ntmps15
  go_wp2
  go_step3
  go_wp2_with (first
    | (go_at_call 24; refine HH.out.mono ?_; rintro e w' ⟨rfl, rfl⟩)
    | (go_at_call 37; refine (values_any _ _ _ _).mono ?_; rintro e w' ⟨rfl, rfl⟩)
    | (go_at_call 36; refine HS.out.mono ?_; rintro e W1 ⟨v1, rfl, hrow, hb1⟩)
    | (go_at_call 35; refine (compact_any w.heap.size _ ps hps hpn _ hrow).mono ?_; rintro e W2 ⟨v2, rfl, hs2, hb2⟩; obtain ⟨hrd, hc1, W3, r3, hfin⟩ := HK.out _ _ _ _ hrow hb1 hs2 hb2; have HR := Lib.hid hrd; have HF := Lib.hid hfin; clear hrd hfin)
    | (go_at_call 38; refine HR.out.mono ?_; rintro e w' ⟨rfl, rfl⟩))
  rw [Exit.noGoto_ret]
  go_ret
  exact HF.out
end Go.Proofs.Ytccpblefebjadaa
