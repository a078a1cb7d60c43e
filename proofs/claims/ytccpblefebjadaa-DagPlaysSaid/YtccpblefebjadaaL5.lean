/- grapevinelaw15.DagPlays. -/
import Derived.Test.YtccpblefebjadaaC19
namespace Go.Proofs.Ytccpblefebjadaa
open Go.RowKit Go.Maps Go.WideMaps Go.Sort Go.Shelf
open Go.Proofs (encStr)
open M (Rising keys get Graph Stands Searched)

theorem ref_new (w : World) : RefAt (w.alloc (.cells #[.slice none 0 0] 40)) (· = w.heap.size) w.heap.size (.slice none 0 0) [] := by
  have hn := World.alloc_heap_new w (.cells #[.slice none 0 0] 40)
  refine ⟨?_, World.ownsRow_nil _ _ _ _, (fun g hg => (by cases hg)), rfl, ?_, by simp, ?_, by simp, by simp, by simp, List.Pairwise.nil⟩
  · unfold World.cell?; rw [hn]; rfl
  · unfold World.frozen?; rw [hn]; rfl
  · rintro i rfl; simp
theorem both_new {N : Nat} {w0 w : World} {F : Nat → Prop} {g : Nat} (h : Stood N w0 w F g Graph.empty) : Both N w0 (w.alloc (.cells #[.slice none 0 0] 40)) F g Graph.empty (· = w.heap.size) w.heap.size (.slice none 0 0) [] :=
  ⟨h.alloc _, ref_new w, Rel.empty, fun i hi e => by have := h.dag.lt i hi; omega, fun i e => by rw [e]; exact h.at'⟩

theorem boolOf (P : Prop) : ∃ q : Bool, q = true ↔ P := by
  by_cases h : P
  · exact ⟨true, by simp [h]⟩
  · exact ⟨false, by simp [h]⟩
/-- the sizes of a node -/
theorem nodes_six {L : List Nd} (hf : few L = true) {k : Nat} (hk : k < L.length) : ((nds L).getD k default).2.length ≤ 6 := by
  have hm : L.getD k default ∈ L := by simp [List.getD_eq_getElem?_getD, hk]
  have he : (nds L).getD k default = (L.getD k default).pair := by simp [nds, List.getD_eq_getElem?_getD, hk]
  rw [he]
  show ((L.getD k default).ps.map bs).length ≤ 6
  rw [List.length_map]
  exact ((few_at hf).1 _ hm).2.1

theorem nodes_all {w : World} {A : Option Addr} {c : Nat} {L : List Nd} (h : NodesAt w (.slice A L.length c) L) (hf : few L = true) {k : Nat} (hk : k < L.length) :
    ∃ b off pv, A = some ⟨b, off, none⟩ ∧ (∀ W, Below w.heap.size w W → W.cell? ⟨b, off + k * 3, none⟩ = some (encStr ((nds L).getD k default).1) ∧ W.cell? ⟨b, off + k * 3 + 1, none⟩ = some pv ∧ Strs W (· < w.heap.size) pv ((nds L).getD k default).2) ∧ ((nds L).getD k default).1.length ≤ 1000 := by
  obtain ⟨b, off, pv, hA, e0, e1, e2, e3⟩ := nodes_cells h (Below.refl _ _) hf hk
  refine ⟨b, off, pv, hA, fun W hW => ⟨?_, ?_, e2.below hW⟩, e3⟩
  · exact (hW.cell (p := ⟨b, off + k * 3, none⟩) (World.block_lt_of_cell? w _ e0)).trans e0
  · exact (hW.cell (p := ⟨b, off + k * 3 + 1, none⟩) (World.block_lt_of_cell? w _ e1)).trans e1

set_option maxRecDepth 100000 in
set_option maxHeartbeats 4000000 in
theorem plays_law (w : World) {v : Value} {L : List Nd} (hv : NodesAt w v L) (a b : ByteArray) : Calls Try.prog 5 #[v, .string a, .string b] w (RetBel (.bool true) w) := by
  obtain ⟨A, c, rfl, _⟩ := id hv
  by_cases hguard : few L = true ∧ a.size ≤ 40 ∧ b.size ≤ 40
  · obtain ⟨hf, ha, hb⟩ := hguard
    obtain ⟨hxx, hl⟩ := few_nds hf
    have hlen : (nds L).length = L.length := by simp [nds]
    have HV := Lib.hid hv
    have HF := Lib.hid (And.intro hf hxx)
    have hl14 : L.length ≤ 14 := by omega
    have ha' : ¬ ((a.size : Int) > 40) := by omega
    have hb' : ¬ ((b.size : Int) > 40) := by omega
    have hea : encStr (bs a) = .string a := enc_bs a
    have heb : encStr (bs b) = .string b := enc_bs b
    have HAB := Lib.hid (And.intro hea (And.intro heb (And.intro (show (bs a).length ≤ 1000 by rw [len_bs]; omega) (show (bs b).length ≤ 1000 by rw [len_bs]; omega))))
    clear hv hf hxx hea heb
    go_enter Try.func5, Try.ntmps5
    go_wp2_with fail
    refine (awake_walk w).mono ?_
    rintro e w1 ⟨rfl, hb1⟩
    have h2 := few_walk w1 (HV.out.below (Nat.le_refl _) hb1)
    rw [HF.out.1] at h2
    have H2 := Lib.hid h2
    have HB := Lib.hid hb1
    clear h2 hb1
    go_wp2_with fail
    refine H2.out.mono ?_
    rintro e w2 ⟨rfl, rfl⟩
    go_wp2_with fail
    refine (new_dag _).mono ?_
    rintro e w2 hd
    obtain rfl := hd.1
    have S2 := Stood.new hd
    have S2' : Stood w.heap.size w w2 _ _ Graph.empty := ⟨S2.dag, fun i hi => Nat.le_trans HB.out.size (S2.lo i hi), HB.out.trans (S2.bel.mono HB.out.size), Nat.le_trans HB.out.size S2.at'⟩
    have BO := Lib.hid (both_new S2')
    clear hd S2 S2' H2
    go_wp2
    obtain ⟨g, hg⟩ : ∃ g, g = w1.heap.size + 3 := ⟨_, rfl⟩
    obtain ⟨r, hr⟩ : ∃ r, r = w2.heap.size := ⟨_, rfl⟩
    rw [← hg, ← hr] at BO ⊢
    clear hg hr
    go_loopg [11, 12, 13] L.length (fun d s11 s12 s13 wr => ∃ (k : Nat) (F : Nat → Prop) (R : Nat → Prop) (vr : Value) (D : List RN), k + d = L.length ∧ s11 = .int .i64 k ∧ Aside (Both w.heap.size w wr F g (built ((nds L).take k)) R r vr D ∧ D.length ≤ k))
    case atStart => exact ⟨0, _, _, _, [], by omega, rfl, BO.out, by simp⟩
    case round =>
      clear BO
      obtain ⟨k, F, R, vr, D, hk, rfl, HO⟩ := hrel
      cases gk with
      | zero =>
        obtain rfl : k = L.length := by omega
        have hff : ¬ ((L.length : Int) < (L.length : Int)) := by omega
        have hG : built ((nds L).take L.length) = built (nds L) := by rw [List.take_of_length_le (by omega)]
        rw [hG] at HO
        clear hG hk
        generalize built (nds L) = G at *
        have HO1 := Lib.hid HO.out.1
        clear HO
        go_wp2
        go_loopg [14, 15] L.length (fun d s14 s15 wr => ∃ (k : Nat), k + d = L.length ∧ s14 = .int .i64 k ∧ Aside (Both w.heap.size w wr F g G R r vr D))
        case atStart => exact ⟨0, by omega, rfl, HO1.out⟩
        case round =>
          clear HO1
          obtain ⟨k, hk, rfl, HO⟩ := hrel
          cases gk with
          | zero =>
            obtain rfl : k = L.length := by omega
            have hf2 : ¬ ((L.length : Int) < (L.length : Int)) := by omega
            obtain ⟨q, hq⟩ : ∃ q : Bool, q = true ↔ G.has (bs a) = true ∧ G.has (bs b) = true ∧ Stands G (bs a) (bs b) := boolOf _
            have HQ := Lib.hid hq
            have HC1 := Lib.hid HO.out.heads
            clear hq hk
            go_wp2_with fail
            refine HC1.out.mono ?_
            rintro e w20 ⟨A20, c20, rfl, H20⟩
            have HC2 := Lib.hid H20.out.1.rheads
            clear HC1
            go_wp2_with fail
            refine HC2.out.mono ?_
            rintro e w21 ⟨A21, c21, rfl, H21⟩
            have HC3 := Lib.hid (H21.out.1.same (H20.out.2.1.below H21.out.2.2) H21.out.2.1)
            clear HC2
            go_wp2_with fail
            refine HC3.out.mono ?_
            rintro e w22 ⟨rfl, H22⟩
            have h4 := H22.out.1.above (bs a) (bs b) HAB.out.2.2.1 HAB.out.2.2.2 q HQ.out
            rw [HAB.out.1, HAB.out.2.1] at h4
            have HC4 := Lib.hid h4
            clear HC3 h4
            go_wp2_with fail
            refine HC4.out.mono ?_
            rintro e w23 ⟨rfl, H23⟩
            have h5 := H23.out.1.rabove (bs a) (bs b) HAB.out.2.2.2 q HQ.out
            rw [HAB.out.1, HAB.out.2.1] at h5
            have HC5 := Lib.hid h5
            clear HC4 h5
            go_wp2_with fail
            refine HC5.out.mono ?_
            rintro e w24 ⟨rfl, H24⟩
            have h6 := H24.out.1.has (bs a) HAB.out.2.2.1
            have h7 := fun W (h : Both w.heap.size w W F g G R r vr D) => h.rhas (bs a)
            rw [HAB.out.1] at h6 h7
            generalize G.has (bs a) = qa at h6 h7
            have HC6 := Lib.hid h6
            have HC7 := Lib.hid h7
            clear HC5 h6 h7
            go_wp2_with fail
            refine HC6.out.mono ?_
            rintro e w25 ⟨rfl, H25⟩
            have HC8 := Lib.hid (HC7.out _ H25.out.1)
            clear HC6 HC7
            go_wp2_with fail
            refine HC8.out.mono ?_
            rintro e w26 ⟨rfl, H26⟩
            have h6 := H26.out.1.level (bs b) HAB.out.2.2.2
            have h7 := fun W (h : Both w.heap.size w W F g G R r vr D) => h.rlevel (bs b)
            rw [HAB.out.2.1] at h6 h7
            generalize G.level (bs b) = qa at h6 h7
            have HC6 := Lib.hid h6
            have HC7 := Lib.hid h7
            clear HC8 h6 h7
            go_wp2_with fail
            refine HC6.out.mono ?_
            rintro e w27 ⟨rfl, H27⟩
            have HC8 := Lib.hid (HC7.out _ H27.out.1)
            clear HC6 HC7
            go_wp2_with fail
            refine HC8.out.mono ?_
            rintro e w28 ⟨rfl, H28⟩
            go_wp2
            go_ret
            exact RetBel.mk (by simp) H28.out.1.st.bel
          | succ d =>
            have hf2 : ((k : Int) < (L.length : Int)) := by omega
            have hlt : k < L.length := by omega
            obtain ⟨bn, off, pv, rfl, hnode, hn⟩ := nodes_all HV.out HF.out.1 hlt
            obtain ⟨c0, c1, hp⟩ := hnode wr HO.out.st.bel
            have HN := Lib.hid hn
            clear hnode hn hp
            generalize ((nds L).getD k default).1 = x at *
            have h1 := HO.out.has x HN.out
            have h2 := fun W (h : Both w.heap.size w W F g G R r vr D) => h.rhas x
            have h3 := fun W (h : Both w.heap.size w W F g G R r vr D) => h.level x HN.out
            have h4 := fun W (h : Both w.heap.size w W F g G R r vr D) => h.rlevel x
            have h5 := fun W (h : Both w.heap.size w W F g G R r vr D) => h.parents x HN.out
            have h6 := fun W (h : Both w.heap.size w W F g G R r vr D) => h.rparents x
            simp only [encStr_eq] at c0 h1 h2 h3 h4 h5 h6
            generalize G.has x = qh at h1 h2
            generalize G.level x = ql at h3 h4
            have HC1 := Lib.hid h1
            have HC2 := Lib.hid h2
            have HC3 := Lib.hid h3
            have HC4 := Lib.hid h4
            have HC5 := Lib.hid h5
            have HC6 := Lib.hid h6
            clear h1 h2 h3 h4 h5 h6
            go_wp2_with fail
            refine HC1.out.mono ?_
            rintro e w20 ⟨rfl, H20⟩
            have HD := Lib.hid (HC2.out _ H20.out.1)
            clear HC1 HC2
            go_wp2_with fail
            refine HD.out.mono ?_
            rintro e w21 ⟨rfl, H21⟩
            have HD := Lib.hid (HC3.out _ H21.out.1)
            clear HC3
            go_wp2_with fail
            refine HD.out.mono ?_
            rintro e w22 ⟨rfl, H22⟩
            have HD := Lib.hid (HC4.out _ H22.out.1)
            clear HC4
            go_wp2_with fail
            refine HD.out.mono ?_
            rintro e w23 ⟨rfl, H23⟩
            have HD := Lib.hid (HC5.out _ H23.out.1)
            clear HC5
            go_wp2_with fail
            refine HD.out.mono ?_
            rintro e w24 ⟨A24, c24, rfl, H24⟩
            have HD := Lib.hid (HC6.out _ H24.out.1)
            clear HC6
            go_wp2_with fail
            refine HD.out.mono ?_
            rintro e w25 ⟨A25, c25, rfl, H25⟩
            have HD := Lib.hid (H25.out.1.same (H24.out.2.1.below H25.out.2.2) H25.out.2.1)
            go_wp2_with fail
            refine HD.out.mono ?_
            rintro e w26 ⟨rfl, H26⟩
            go_wp2
            go_roundg d
            case measure => omega
            case rel => exact ⟨k + 1, by omega, by go_num, H26.out.1⟩
      | succ d =>
        have hff : ((k : Int) < (L.length : Int)) := by omega
        have hlt : k < L.length := by omega
        obtain ⟨bn, off, pv, rfl, hnode, hn⟩ := nodes_all HV.out HF.out.1 hlt
        have hcnt : (built ((nds L).take k)).inn.length + (built ((nds L).take k)).wai.length < 500 := by
          have := built_cnt ((nds L).take k) (fun e he => HF.out.2 e (List.mem_of_mem_take he))
          have : ((nds L).take k).length ≤ 14 := by simp; omega
          omega
        have h6 := nodes_six HF.out.1 hlt
        obtain ⟨c0, c1, hp⟩ := hnode wr.drew HO.out.1.st.bel.drew
        have hadd := (HO.out.1.next (w' := wr.drew) (Below.refl _ _).drew).add hcnt _ hn hp
        have hbs : built ((nds L).take (k + 1)) = ((built ((nds L).take k)).add ((nds L).getD k default).1 ((nds L).getD k default).2).1 := by
          rw [List.take_succ_eq_append_getElem (by omega), built_snoc]; simp [List.getD_eq_getElem?_getD, hlen, hlt]
        rw [← hbs] at hadd
        have HBS := Lib.hid (And.intro hbs (And.intro hnode (And.intro hn h6)))
        clear hbs hnode hn h6 hp hcnt
        generalize hG1 : built ((nds L).take (k + 1)) = G1 at *
        generalize hG0 : built ((nds L).take k) = G0 at *
        generalize ((nds L).getD k default).1 = x at *
        generalize ((nds L).getD k default).2 = ps at *
        have HG1 := Lib.hid hG1
        clear hG1 hG0
        have hadd' : Calls Try.prog (15 : Nat) #[.pointer (some ⟨g, 0, none⟩), encStr x, pv] wr.drew (fun e w' => ∃ u, e = .returned u ∧ w'.cell? ⟨bn, off + k * 3, none⟩ = some (encStr x) ∧ w'.cell? ⟨bn, off + k * 3 + 1, none⟩ = some pv ∧ Aside (∃ F', Mid w.heap.size w w' F' g G0 G1 R r vr D u (G0.add x ps).2)) := by
          refine hadd.mono ?_
          rintro e w' ⟨u, F', he, hm⟩
          obtain ⟨q0, q1, _⟩ := HBS.out.2.1 w' hm.st.bel
          exact ⟨u, he, q0, q1, F', hm⟩
        have HADD := Lib.hid hadd'
        clear hadd hadd'
        simp only [encStr_eq] at c0 HADD
        go_wp2
        go_region_held3 (fun w' => w'.cell? ⟨bn, off + k * 3, none⟩ = some (.string ⟨x.toArray⟩) ∧ w'.cell? ⟨bn, off + k * 3 + 1, none⟩ = some pv) (first | exact ⟨c0, c1⟩ | exact ⟨c2, c3⟩)
          (first | (go_at_call 15; (with_reducible refine HADD.out.mono ?_); rintro e w5 ⟨u, rfl, c2, c3, H5⟩))
        obtain ⟨F5, hM5⟩ := H5.out
        have hM6 := hM5.next (w' := w5.drew) (Below.refl _ _).drew
        obtain ⟨d0, d1, hp6⟩ := HBS.out.2.1 w5.drew hM6.st.bel
        have hr0 := (HBS.out.1 ▸ hM6 : Mid w.heap.size w w5.drew F5 g G0 (G0.add x ps).1 R r vr D u (G0.add x ps).2).radd (by have := HO.out.2; omega) HBS.out.2.2.1 hp6 HBS.out.2.2.2
        have hr1 : Calls Try.prog (21 : Nat) #[.pointer (some ⟨r, 0, none⟩), encStr x, pv] w5.drew (fun e w' => ∃ u2, e = .returned u2 ∧ w'.cell? ⟨bn, off + k * 3, none⟩ = some (encStr x) ∧ w'.cell? ⟨bn, off + k * 3 + 1, none⟩ = some pv ∧ Aside (∃ R' v' D', Both w.heap.size w w' F5 g G1 R' r v' D' ∧ D'.length ≤ D.length + 1 ∧ Strs w' (fun _ => True) u (G0.add x ps).2 ∧ Strs w' (fun _ => True) u2 (G0.add x ps).2)) := by
          refine hr0.mono ?_
          rintro e w' ⟨u2, R', v', D', he, hm, hd, hs1, hs2⟩
          rw [← HBS.out.1] at hm
          obtain ⟨q0, q1, _⟩ := HBS.out.2.1 w' hm.st.bel
          exact ⟨u2, he, q0, q1, R', v', D', hm, hd, hs1, hs2⟩
        have HADD2 := Lib.hid hr1
        clear hr0 hr1 hM5 hM6 hp6 HADD
        simp only [encStr_eq] at d0 HADD2
        go_wp2
        go_region_held3 (fun w' => w'.cell? ⟨bn, off + k * 3, none⟩ = some (.string ⟨x.toArray⟩) ∧ w'.cell? ⟨bn, off + k * 3 + 1, none⟩ = some pv) (first | exact ⟨d0, d1⟩ | exact ⟨d2, d3⟩)
          (first | (go_at_call 21; (with_reducible refine HADD2.out.mono ?_); rintro e w6 ⟨u2, rfl, d2, d3, H6⟩))
        obtain ⟨R', v', D', B6, hD', hs1, hs2⟩ := H6.out
        have hDk : D'.length ≤ k + 1 := by have := HO.out.2; omega
        have HD := Lib.hid hDk
        have HB6 := Lib.hid B6
        have HS := Lib.hid hs1
        have HC1 := Lib.hid (B6.same hs1 hs2)
        clear hDk B6 hs1 hs2 HADD2 hD'
        go_wp2_with fail
        refine HC1.out.mono ?_
        rintro e w7 ⟨rfl, H7⟩
        have HC2 := Lib.hid H7.out.1.ids
        clear HC1
        go_wp2_with fail
        refine HC2.out.mono ?_
        rintro e w8 ⟨A8, c8, rfl, H8⟩
        have HC3 := Lib.hid H8.out.1.rids
        clear HC2
        go_wp2_with fail
        refine HC3.out.mono ?_
        rintro e w9 ⟨A9, c9, rfl, H9⟩
        have HC4 := Lib.hid (H9.out.1.same (H8.out.2.1.below H9.out.2.2) H9.out.2.1)
        clear HC3
        go_wp2_with fail
        refine HC4.out.mono ?_
        rintro e w10 ⟨rfl, H10⟩
        have HC5 := Lib.hid H10.out.1.waiting
        clear HC4
        go_wp2_with fail
        refine HC5.out.mono ?_
        rintro e w11 ⟨A11, c11, rfl, H11⟩
        have HC6 := Lib.hid H11.out.1.rwaiting
        clear HC5
        go_wp2_with fail
        refine HC6.out.mono ?_
        rintro e w12 ⟨A12, c12, rfl, H12⟩
        have HC7 := Lib.hid (H12.out.1.same (H11.out.2.1.below H12.out.2.2) H12.out.2.1)
        clear HC6
        go_wp2_with fail
        refine HC7.out.mono ?_
        rintro e w13 ⟨rfl, H13⟩
        have HC8 := Lib.hid H13.out.1.lacks
        clear HC7
        go_wp2_with fail
        refine HC8.out.mono ?_
        rintro e w14 ⟨A14, c14, rfl, H14⟩
        have HC9 := Lib.hid H14.out.1.rlacks
        clear HC8
        go_wp2_with fail
        refine HC9.out.mono ?_
        rintro e w15 ⟨A15, c15, rfl, H15⟩
        have HC10 := Lib.hid (H15.out.1.same (H14.out.2.1.below H15.out.2.2) H15.out.2.1)
        clear HC9
        go_wp2_with fail
        refine HC10.out.mono ?_
        rintro e w16 ⟨rfl, H16⟩
        have HC11 := Lib.hid H16.out.1.many
        clear HC10
        go_wp2_with fail
        refine HC11.out.mono ?_
        rintro e w17 ⟨rfl, H17⟩
        have HC12 := Lib.hid H17.out.1.rids
        clear HC11
        go_wp2_with fail
        refine HC12.out.mono ?_
        rintro e w18 ⟨A18, c18, rfl, H18⟩
        go_wp2
        go_roundg d
        case measure => omega
        case rel => exact ⟨k + 1, F5, R', v', D', by omega, by go_num, by rw [HG1.out]; exact H18.out.1, HD.out⟩
  · have HV := Lib.hid hv
    clear hv
    have hg : few L = false ∨ (few L = true ∧ (a.size : Int) > 40) ∨ (few L = true ∧ ¬ ((a.size : Int) > 40) ∧ (b.size : Int) > 40) := by
      cases h : few L with
      | false => exact .inl rfl
      | true =>
        by_cases h1 : a.size ≤ 40
        · by_cases h2 : b.size ≤ 40
          · exact absurd ⟨h, h1, h2⟩ hguard
          · exact .inr (.inr ⟨rfl, by omega, by omega⟩)
        · exact .inr (.inl ⟨rfl, by omega⟩)
    clear hguard
    rcases hg with hf | ⟨hf, ha⟩ | ⟨hf, ha, hb⟩
    all_goals
      have HF := Lib.hid hf
      clear hf
      go_enter Try.func5, Try.ntmps5
      go_wp2_with fail
      refine (awake_walk w).mono ?_
      rintro e w1 ⟨rfl, hb1⟩
      have h2 := few_walk w1 (HV.out.below (Nat.le_refl _) hb1)
      rw [HF.out] at h2
      have H2 := Lib.hid h2
      have HB := Lib.hid hb1
      clear h2 hb1
      go_wp2_with fail
      refine H2.out.mono ?_
      rintro e w2 ⟨rfl, rfl⟩
      go_wp2
      go_ret
      exact ⟨rfl, HB.out⟩
end Go.Proofs.Ytccpblefebjadaa
