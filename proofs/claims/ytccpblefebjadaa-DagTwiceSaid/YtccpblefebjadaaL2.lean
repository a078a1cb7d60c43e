/- grapevinelaw15.DagTwice. -/
import Derived.Test.YtccpblefebjadaaL1
import Derived.Test.YtccpblefebjadaaM4
namespace Go.Proofs.Ytccpblefebjadaa
open Go.RowKit Go.Maps Go.WideMaps Go.Sort Go.Shelf
open Go.Proofs (encStr)
open M (Rising keys get Graph Stands Searched)

theorem nodes_one (w : World) {pv : Value} {ps : List ByteArray} (h : RawStrs w pv ps) : NodesAt (w.alloc (.cells #[.string ⟨#[]⟩, pv, .bool false] 42)) (.slice (some ⟨w.heap.size, 0, none⟩) 1 1) [⟨⟨#[]⟩, ps⟩] := by
  refine ⟨_, 1, rfl, by (show 1 ≤ maxLen); decide, fun _ => ⟨w.heap.size, 0, rfl, by simp, fun j hj => ?_⟩⟩
  obtain rfl : j = 0 := by simp at hj; exact hj
  have := World.alloc_heap_new w (.cells #[.string ⟨#[]⟩, pv, .bool false] 42)
  refine ⟨?_, by (show 0 ≤ maxLen); exact Nat.zero_le _, pv, ?_, h.below (Nat.le_refl _) ((Below.refl _ _).alloc (Nat.le_refl _) _)⟩
  · unfold World.cell?; rw [this]; rfl
  · unfold World.cell?; rw [this]; rfl

/-- The parents, where there are few. -/
theorem few_one {ps : List ByteArray} (h : few [⟨⟨#[]⟩, ps⟩] = true) : (∀ s ∈ ps, s.size ≤ 1000) ∧ ps.length ≤ 1000 := by
  obtain ⟨h1, _⟩ := few_at h
  obtain ⟨_, h2, h3⟩ := h1 ⟨⟨#[]⟩, ps⟩ (by simp)
  exact ⟨fun s hs => by have := h3 s hs; omega, by simp only at h2; omega⟩

set_option maxRecDepth 100000 in
set_option maxHeartbeats 4000000 in
theorem twice_law (w : World) {v pv : Value} {L : List Nd} {ps : List ByteArray} (hv : NodesAt w v L) (hp : RawStrs w pv ps) (at' : Nat) (hat : at' ≤ 255) : Calls Try.prog 7 #[v, .int .u8 at', pv] w (RetBel (.bool true) w) := by
  obtain ⟨A, c, rfl, _⟩ := id hv
  obtain ⟨Ap, cp, rfl, _⟩ := id hp
  obtain ⟨pn, hpn⟩ : ∃ pn, ps.length = pn := ⟨_, rfl⟩
  rw [hpn] at hp ⊢
  have HV := Lib.hid hv
  have HP := Lib.hid hp
  cases hf : few L with
  | false =>
    have HF := Lib.hid hf
    clear hv hf hp
    go_enter Try.func7, Try.ntmps7
    go_wp2_with fail
    refine (awake_walk w).mono ?_
    rintro e w1 ⟨rfl, hb1⟩
    have h2 := few_walk w1 (HV.out.below (Nat.le_refl _) hb1)
    rw [HF.out] at h2
    have H2 := Lib.hid h2
    have H3 := Lib.hid (few_walk _ (nodes_one w1 (HP.out.below (Nat.le_refl _) hb1)))
    have HB := Lib.hid (hb1.alloc hb1.size (.cells #[.string ⟨#[]⟩, (.slice Ap pn cp), .bool false] 42))
    clear h2 hb1
    generalize few [⟨⟨#[]⟩, ps⟩] = fm at *
    go_wp2_with fail
    refine H2.out.mono ?_
    rintro e w2 ⟨rfl, rfl⟩
    go_wp2_with fail
    refine H3.out.mono ?_
    rintro e w2 ⟨rfl, rfl⟩
    go_wp2
    go_ret
    exact ⟨rfl, HB.out⟩
  | true =>
    have HF := Lib.hid hf
    clear hv hf hp
    cases hm : few [⟨⟨#[]⟩, ps⟩] with
    | false =>
      have HM := Lib.hid hm
      clear hm
      go_enter Try.func7, Try.ntmps7
      go_wp2_with fail
      refine (awake_walk w).mono ?_
      rintro e w1 ⟨rfl, hb1⟩
      have h2 := few_walk w1 (HV.out.below (Nat.le_refl _) hb1)
      rw [HF.out] at h2
      have H2 := Lib.hid h2
      have h3 := few_walk _ (nodes_one w1 (HP.out.below (Nat.le_refl _) hb1))
      rw [HM.out] at h3
      have H3 := Lib.hid h3
      have HB := Lib.hid (hb1.alloc hb1.size (.cells #[.string ⟨#[]⟩, .slice Ap pn cp, .bool false] 42))
      clear h2 hb1 h3
      go_wp2_with fail
      refine H2.out.mono ?_
      rintro e w2 ⟨rfl, rfl⟩
      go_wp2_with fail
      refine H3.out.mono ?_
      rintro e w2 ⟨rfl, rfl⟩
      go_wp2
      go_ret
      exact ⟨rfl, HB.out⟩
    | true =>
      have HM := Lib.hid hm
      clear hm
      by_cases hl : L.length = 0
      · have hl' : (L.length : Int) = 0 := by omega
        clear hl
        go_enter Try.func7, Try.ntmps7
        go_wp2_with fail
        refine (awake_walk w).mono ?_
        rintro e w1 ⟨rfl, hb1⟩
        have h2 := few_walk w1 (HV.out.below (Nat.le_refl _) hb1)
        rw [HF.out] at h2
        have H2 := Lib.hid h2
        have h3 := few_walk _ (nodes_one w1 (HP.out.below (Nat.le_refl _) hb1))
        rw [HM.out] at h3
        have H3 := Lib.hid h3
        have HB := Lib.hid (hb1.alloc hb1.size (.cells #[.string ⟨#[]⟩, .slice Ap pn cp, .bool false] 42))
        clear h2 hb1 h3
        go_wp2_with fail
        refine H2.out.mono ?_
        rintro e w2 ⟨rfl, rfl⟩
        go_wp2_with fail
        refine H3.out.mono ?_
        rintro e w2 ⟨rfl, rfl⟩
        go_wp2
        go_ret
        exact ⟨rfl, HB.out⟩
      · have hl' : ¬ (L.length : Int) = 0 := by omega
        have hlp : 0 < L.length := by omega
        obtain ⟨b, off, rfl⟩ : ∃ b off, A = some ⟨b, off, none⟩ := by
          obtain ⟨A', c', hv, _, h⟩ := HV.out
          cases hv
          obtain ⟨b, off, h, _⟩ := h hlp
          exact ⟨b, off, h⟩
        have hk : at' % L.length < L.length := Nat.mod_lt _ hlp
        clear hl
        go_enter Try.func7, Try.ntmps7
        go_wp2_with fail
        refine (awake_walk w).mono ?_
        rintro e w1 ⟨rfl, hb1⟩
        have h2 := few_walk w1 (HV.out.below (Nat.le_refl _) hb1)
        rw [HF.out] at h2
        have H2 := Lib.hid h2
        have hN := nodes_one w1 (HP.out.below (Nat.le_refl _) hb1)
        have h3 := few_walk _ hN
        rw [HM.out] at h3
        have H3 := Lib.hid h3
        have hB := hb1.alloc hb1.size (.cells #[.string ⟨#[]⟩, .slice Ap pn cp, .bool false] 42)
        have HB := Lib.hid hB
        have H4 := Lib.hid (added_walk _ (HV.out.below (Nat.le_refl _) hB) HF.out)
        clear h2 hb1 h3 hN hB
        go_wp2_with fail
        refine H2.out.mono ?_
        rintro e w2 ⟨rfl, rfl⟩
        go_wp2_with fail
        refine H3.out.mono ?_
        rintro e w2 ⟨rfl, rfl⟩
        go_wp2_with fail
        refine H4.out.mono ?_
        rintro e w3 hl3
        obtain ⟨g, F, rfl, S3⟩ := hl3.stood HB.out HB.out.size
        have hkn := fun x => (known_built (nds L) (few_nds HF.out).1 x).2
        have HK := Lib.hid hkn
        have HCN := Lib.hid (show (built (nds L)).inn.length + (built (nds L)).wai.length < 500 by have := built_cnt (nds L) (few_nds HF.out).1; have := (few_nds HF.out).2; omega)
        have L3 := Lib.hid S3.dag.lt
        have C3 := Lib.hid S3.ids
        clear hl3 S3 H3 H2 HB H4 hkn
        generalize hG : built (nds L) = G at *
        clear hG
        go_wp2_with fail
        refine C3.out.mono ?_
        rintro e w4 ⟨vi, rfl, S4, V4, B4⟩
        have C4 := Lib.hid S4.waiting
        have VI := Lib.hid V4
        have B34 := Lib.hid B4.size
        clear C3 S4 V4 B4
        go_wp2_with fail
        refine C4.out.mono ?_
        rintro e w5 ⟨vw, rfl, S5, VW, B5⟩
        have VI5 := Lib.hid (VI.out.below B5)
        have VW5 := Lib.hid (VW.mono (T := fun b => w3.heap.size ≤ b) (fun b hb => Nat.le_trans B34.out hb))
        have B35 := Lib.hid (Nat.le_trans B34.out B5.size)
        have SS5 := Lib.hid S5
        obtain ⟨b', off', pv', hA, c0, _, _, hx1⟩ := nodes_cells HV.out S5.bel HF.out hk
        cases hA
        have hkn : G.known ((nds L).getD (at' % L.length) default).1 := HK.out _ ⟨_, by
          have : at' % L.length < (nds L).length := by simp [nds]; exact hk
          simp [List.getD_eq_getElem?_getD, this], rfl⟩
        have hmod : (at' : Int).tmod (L.length : Int) = ((at' % L.length : Nat) : Int) := by
          rw [Int.natCast_emod]; exact Int.tmod_eq_emod_of_nonneg (by omega)
        have HX := Lib.hid (And.intro hkn hx1)
        clear C4 VI S5 VW B5 hkn hx1 HK
        generalize ((nds L).getD (at' % L.length) default).1 = x at *
        simp only [encStr_eq] at c0
        generalize at' % L.length = k at *
        have C5 := SS5.out.parents x HX.out.2
        simp only [encStr_eq] at C5
        have HC5 := Lib.hid C5
        clear C5
        go_wp2_with fail
        refine HC5.out.mono ?_
        rintro e w6 ⟨vp, rfl, S6, V6, B6⟩
        have hps := (HP.out.below (Nat.le_refl _) S6.bel).strs (few_one HM.out).1 (few_one HM.out).2
        have hcnt : G.inn.length + G.wai.length < 500 := HCN.out
        have C6 := S6.add hcnt x HX.out.2 hps
        rw [add_of_known HX.out.1] at C6
        have VI6 := Lib.hid (VI5.out.below B6)
        have VW6 := Lib.hid (VW5.out.below B6)
        have VP6 := Lib.hid (V6.mono (T := fun b => w3.heap.size ≤ b) (fun b hb => Nat.le_trans B35.out hb))
        simp only [encStr_eq] at C6
        have HC6 := Lib.hid C6
        clear hps hcnt C6 S6 V6 B6 HC5
        go_wp2_with fail
        refine HC6.out.mono ?_
        rintro e w7 ⟨u, rfl, F', S7, V7, _, FR⟩
        have hfr : ∀ {v l}, Strs w6 (fun b => w3.heap.size ≤ b) v l → Strs w7 (fun b => w3.heap.size ≤ b) v l := fun h => h.frame FR (fun i _ h hf => by have := L3.out i hf; omega)
        obtain ⟨A7, c7, rfl, _⟩ := V7
        have VI7 := Lib.hid (hfr VI6.out)
        have VW7 := Lib.hid (hfr VW6.out)
        have VP7 := Lib.hid (hfr VP6.out)
        have C7 := Lib.hid S7.ids
        clear hfr S7 HC6 VI5 VW5 VI6 VW6 VP6 FR
        go_wp2_with fail
        refine C7.out.mono ?_
        rintro e w8 ⟨u8, rfl, S8, V8, B8⟩
        have C8 := S8.same V8 (VI7.out.below B8)
        rw [decide_eq_true rfl] at C8
        have HC8 := Lib.hid C8
        have VW8 := Lib.hid (VW7.out.below B8)
        have VP8 := Lib.hid (VP7.out.below B8)
        clear C8 S8 V8 B8 C7 VI7 VW7 VP7
        go_wp2_with fail
        refine HC8.out.mono ?_
        rintro e w9 ⟨rfl, S9, B9⟩
        have VW9 := Lib.hid (VW8.out.below B9)
        have VP9 := Lib.hid (VP8.out.below B9)
        have C9 := Lib.hid S9.waiting
        clear S9 B9 HC8 VW8 VP8
        go_wp2_with fail
        refine C9.out.mono ?_
        rintro e w10 ⟨u10, rfl, S10, V10, B10⟩
        have C10 := S10.same V10 (VW9.out.below B10)
        rw [decide_eq_true rfl] at C10
        have HC10 := Lib.hid C10
        have VP10 := Lib.hid (VP9.out.below B10)
        clear C10 S10 V10 B10 C9 VW9 VP9
        go_wp2_with fail
        refine HC10.out.mono ?_
        rintro e w11 ⟨rfl, S11, B11⟩
        have VP11 := Lib.hid (VP10.out.below B11)
        have C11 := S11.parents x HX.out.2
        simp only [encStr_eq] at C11
        have HC11 := Lib.hid C11
        clear S11 B11 HC10 VP10 C11
        go_wp2_with fail
        refine HC11.out.mono ?_
        rintro e w12 ⟨u12, rfl, S12, V12, B12⟩
        have C12 := S12.same V12 (VP11.out.below B12)
        rw [decide_eq_true rfl] at C12
        have HC12 := Lib.hid C12
        clear C12 S12 V12 B12 HC11 VP11
        go_wp2_with fail
        refine HC12.out.mono ?_
        rintro e w13 ⟨rfl, S13, _⟩
        have SS13 := Lib.hid S13
        clear S13
        go_wp2
        go_ret
        exact ⟨rfl, SS13.out.bel⟩
end Go.Proofs.Ytccpblefebjadaa
