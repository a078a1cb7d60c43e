/- grapevinelaw15.DagClosed. -/
import Derived.Test.YtccpblefebjadaaL1
import Derived.Test.YtccpblefebjadaaM5
namespace Go.Proofs.Ytccpblefebjadaa
open Go.RowKit Go.Maps Go.WideMaps Go.Sort Go.Shelf
open Go.Proofs (encStr)
open M (Rising keys get Graph Stands Searched)

/-- level, has in a later world, as equations on one returned value -/
theorem Stood.level {N : Nat} {w0 w : World} {F : Nat → Prop} {g : Nat} {G : Graph} (h : Stood N w0 w F g G) (x : Bs) (hx : x.length ≤ 1000) : Calls Try.prog 20 #[.pointer (some ⟨g, 0, none⟩), encStr x] w (RetSame (.int .i64 (G.level x)) w) := level_dag h.dag x hx
theorem Stood.has {N : Nat} {w0 w : World} {F : Nat → Prop} {g : Nat} {G : Graph} (h : Stood N w0 w F g G) (x : Bs) (hx : x.length ≤ 1000) : Calls Try.prog 24 #[.pointer (some ⟨g, 0, none⟩), encStr x] w (RetSame (.bool (G.has x)) w) := has_dag h.dag x hx
theorem Stood.drew {N : Nat} {w0 w : World} {F : Nat → Prop} {g : Nat} {G : Graph} (h : Stood N w0 w F g G) : Stood N w0 w.drew F g G := h.next (Below.refl _ _).drew

/-- Above, where the answer is known. -/
theorem Stood.above_is {N : Nat} {w0 w : World} {F : Nat → Prop} {g : Nat} {G : Graph} (h : Stood N w0 w F g G) (a b : Bs) (ha : a.length ≤ 1000) (hb : b.length ≤ 1000) (r : Bool) (hr : r = true ↔ G.has a = true ∧ G.has b = true ∧ Stands G a b) :
    Calls Try.prog 13 #[.pointer (some ⟨g, 0, none⟩), encStr a, encStr b] w (fun e w' => e = .returned (.bool r) ∧ Stood N w0 w' F g G ∧ Below w.heap.size w w') :=
  (h.above a b ha hb).mono fun _ _ ⟨r', he, hr', hs, hbl⟩ => ⟨by rw [he]; congr 2; exact Bool.eq_iff_iff.2 (hr'.trans hr.symm), hs, hbl⟩

set_option maxRecDepth 100000 in
set_option maxHeartbeats 4000000 in
theorem closed_law (w : World) {v : Value} {L : List Nd} (hv : NodesAt w v L) : Calls Try.prog 6 #[v] w (RetBel (.bool true) w) := by
  cases hf : few L with
  | false =>
    have HV := Lib.hid hv
    have HF := Lib.hid hf
    clear hv hf
    go_enter Try.func6, Try.ntmps6
    go_wp2_with fail
    refine (awake_walk w).mono ?_
    rintro e w1 ⟨rfl, hb1⟩
    have h2 := few_walk w1 (HV.out.below (Nat.le_refl _) hb1)
    rw [HF.out] at h2
    have H2 := Lib.hid h2
    have HB := Lib.hid hb1
    clear h2 hb1
    go_wp2_with fail
    refine H2.out.mono ?_
    rintro e w2 ⟨rfl, rfl⟩
    go_wp2
    go_ret
    exact ⟨rfl, HB.out⟩
  | true =>
    have HV := Lib.hid hv
    have HF := Lib.hid hf
    clear hv hf
    go_enter Try.func6, Try.ntmps6
    go_wp2_with fail
    refine (awake_walk w).mono ?_
    rintro e w1 ⟨rfl, hb1⟩
    have h2 := few_walk w1 (HV.out.below (Nat.le_refl _) hb1)
    rw [HF.out] at h2
    have H2 := Lib.hid h2
    have HB := Lib.hid hb1
    have H3 := Lib.hid (added_walk w1 (HV.out.below (Nat.le_refl _) hb1) HF.out)
    clear h2 hb1
    go_wp2_with fail
    refine H2.out.mono ?_
    rintro e w2 ⟨rfl, rfl⟩
    go_wp2_with fail
    refine H3.out.mono ?_
    rintro e w3 hl3
    obtain ⟨g, F, rfl, S3⟩ := hl3.stood HB.out HB.out.size
    generalize built (nds L) = G at *
    have C3 := Lib.hid S3.ids
    clear hl3 S3 H3 H2 HB
    go_wp2_with fail
    refine C3.out.mono ?_
    rintro e w5 ⟨vi, rfl, S5, hV, _⟩
    obtain ⟨Ai, ci, rfl, hin⟩ := strs_form hV
    have HS := Lib.hid S5
    have HI := Lib.hid hV
    have HG := Lib.hid (And.intro S5.dag.ok S5.ids1000)
    have hcn : G.inn.length ≤ 500 := by have := S5.dag.cnt; omega
    clear S5 hV C3
    obtain ⟨n, hn⟩ : ∃ n, n = G.ids.length := ⟨_, rfl⟩
    rw [← hn] at HI hin ⊢
    have HN := Lib.hid hn
    clear hn
    go_wp2
    go_loopg [7, 8, 9, 10] n (fun d s7 s8 s9 s10 wr => ∃ i : Nat, i + d = n ∧ s7 = .int .i64 i ∧ Stood w.heap.size w wr F g G ∧ Below w5.heap.size w5 wr)
    case atStart => exact ⟨0, by omega, rfl, HS.out, Below.refl _ _⟩
    case round =>
      obtain ⟨i, hi, rfl, S, B⟩ := hrel
      cases gk with
      | zero =>
        have hff : ¬ ((i : Int) < (n : Int)) := by omega
        have C4 := Lib.hid S.waiting
        clear S B HI HS
        go_wp2_with fail
        refine C4.out.mono ?_
        rintro e w6 ⟨vw, rfl, S6, hW, _⟩
        obtain ⟨Aw, cw, rfl, hwn⟩ := strs_form hW
        have HW := Lib.hid hW
        have HS6 := Lib.hid S6
        obtain ⟨m, hm⟩ : ∃ m, m = G.waiting.length := ⟨_, rfl⟩
        rw [← hm] at HW hwn ⊢
        have HM := Lib.hid hm
        clear hm hW S6 C4
        go_wp2
        go_loopg [12] m (fun d s12 wr => ∃ j : Nat, j + d = m ∧ s12 = .int .i64 j ∧ Stood w.heap.size w wr F g G ∧ Below w6.heap.size w6 wr)
        case atStart => exact ⟨0, by omega, rfl, HS6.out, Below.refl _ _⟩
        case round =>
          obtain ⟨j, hj, rfl, S, B⟩ := hrel
          cases gk with
          | zero =>
            have hf2 : ¬ ((j : Int) < (m : Int)) := by omega
            have C5 := many_dag S.dag
            rw [← HN.out] at C5
            have HC5 := Lib.hid C5
            have SS := Lib.hid S
            clear S B C5 HW HS6
            go_wp2_with fail
            refine HC5.out.mono ?_
            rintro e w7 ⟨rfl, rfl⟩
            go_wp2
            go_ret
            exact ⟨rfl, SS.out.bel⟩
          | succ d =>
            have hf2 : ((j : Int) < (m : Int)) := by omega
            have hjl : j < G.waiting.length := by have := HM.out; omega
            obtain ⟨bw, ow, rfl⟩ := strs_addr HW.out (by omega)
            have hxm := mem_getD hjl
            obtain ⟨e1, e2, e3⟩ := waits_out HG.out.1 hxm
            have hx1 := HG.out.1.kw _ hxm
            have g1 := strs_at HW.out rfl B hjl
            have C1 := S.has _ hx1
            have C2 := S.level _ hx1
            have C3 := S.parents _ hx1
            have hB := B
            rw [e1] at C1
            rw [e2] at C2
            rw [e3] at C3
            have HB := Lib.hid hB
            clear S B hxm e1 e2 e3 hx1 hB
            generalize G.waiting.getD j [] = x at *
            simp only [encStr_eq] at g1 C1 C2 C3
            have HC1 := Lib.hid C1
            have HC2 := Lib.hid C2
            have HC3 := Lib.hid C3
            clear C1 C2 C3
            go_wp2_with fail
            refine HC1.out.mono ?_
            rintro e w7 ⟨rfl, rfl⟩
            go_wp2_with fail
            refine HC2.out.mono ?_
            rintro e w7 ⟨rfl, rfl⟩
            go_wp2_with fail
            refine HC3.out.mono ?_
            rintro e w7 ⟨u, rfl, S7, V7, B7⟩
            obtain ⟨A7, c7, rfl, _⟩ := V7
            have SS7 := Lib.hid S7
            have BB7 := Lib.hid (HB.out.trans (B7.mono HB.out.size))
            clear S7 B7
            go_wp2
            go_roundg d
            case measure => omega
            case rel => exact ⟨j + 1, by omega, by go_num, SS7.out, BB7.out⟩
      | succ d =>
        have hff : ((i : Int) < (n : Int)) := by omega
        have hil : i < G.ids.length := by have := HN.out; omega
        obtain ⟨bi, oi, rfl⟩ := strs_addr HI.out (by omega)
        have hxm := mem_getD hil
        have hx1 := HG.out.2 _ hxm
        have g0 := strs_at HI.out rfl B hil
        have hcell : ∀ wr, Below w5.heap.size w5 wr → wr.cell? ⟨bi, oi + i, none⟩ = some (encStr (G.ids.getD i [])) := fun wr hb => strs_at HI.out rfl hb hil
        have C4 := S.parents _ hx1
        have hlev := closed_level HG.out.1 hxm
        have hpar := fun p => closed_parent HG.out.1 (p := p) hxm
        have HX := Lib.hid (And.intro hxm (And.intro hlev (And.intro hcell (And.intro hx1 hpar))))
        have HB := Lib.hid B
        clear S B hxm hcell hx1 hlev hpar
        generalize G.ids.getD i [] = x at *
        simp only [encStr_eq] at g0 C4
        have HC4 := Lib.hid C4
        clear C4
        go_wp2_with fail
        refine HC4.out.mono ?_
        rintro e w6 ⟨vp, rfl, S6, hP, B6⟩
        have B56 := HB.out.trans (B6.mono HB.out.size)
        obtain ⟨Ap, cp, rfl, hpn⟩ := strs_form hP
        have HP := Lib.hid hP
        have HS6 := Lib.hid (And.intro S6 B56)
        obtain ⟨m, hm⟩ : ∃ m, m = (G.parents x).length := ⟨_, rfl⟩
        rw [← hm] at HP hpn ⊢
        have HM := Lib.hid hm
        clear hm hP S6 B6 B56 HC4 g0
        go_wp2
        go_loopg [9, 10] m (fun q s9 s10 wr => ∃ k : Nat, k + q = m ∧ s9 = .int .i64 (topOf G ((G.parents x).take k)) ∧ s10 = .int .i64 k ∧ Stood w.heap.size w wr F g G ∧ Below w5.heap.size w5 wr ∧ Below w6.heap.size w6 wr)
        case atStart => exact ⟨0, by omega, rfl, rfl, HS6.out.1, HS6.out.2, Below.refl _ _⟩
        case round =>
          obtain ⟨k, hk, rfl, rfl, S, B, BP⟩ := hrel
          cases gk with
          | zero =>
            obtain rfl : k = m := by omega
            have hf2 : ¬ ((k : Int) < (k : Int)) := by omega
            have htb := topOf_bound HG.out.1 ((G.parents x).take k)
            have htop : G.level x = topOf G ((G.parents x).take k) + 1 := by
              rw [List.take_of_length_le (by have := HM.out; omega)]; exact HX.out.2.1
            have hne : ¬ (topOf G ((G.parents x).take k) + 1 ≠ topOf G ((G.parents x).take k) + 1) := by simp
            have g1 := HX.out.2.2.1 wr B
            have C1 := S.level _ HX.out.2.2.2.1
            rw [htop] at C1
            have SS := Lib.hid (And.intro S B)
            clear htop S B BP
            generalize topOf G ((G.parents x).take k) = t at *
            simp only [encStr_eq] at g1 C1
            have HC1 := Lib.hid C1
            clear C1
            go_wp2_with fail
            refine HC1.out.mono ?_
            rintro e w7 ⟨rfl, rfl⟩
            go_wp2
            go_roundg d
            case measure => omega
            case rel => exact ⟨i + 1, by omega, by go_num, SS.out.1, SS.out.2⟩
          | succ q =>
            have hf2 : ((k : Int) < (m : Int)) := by omega
            have hkl : k < (G.parents x).length := by have := HM.out; omega
            obtain ⟨bp, op, rfl⟩ := strs_addr HP.out (by omega)
            have hpm := mem_getD hkl
            obtain ⟨q1, q2, q3, q4⟩ := HX.out.2.2.2.2 _ hpm
            have hp1 := HG.out.2 _ (M.isSome_get.1 q1)
            have hsn := topOf_snoc G ((G.parents x).take k) ((G.parents x).getD k [])
            rw [← take_succ_getD (G.parents x) k hkl] at hsn
            have hcell : ∀ wr, Below w6.heap.size w6 wr → wr.cell? ⟨bp, op + k, none⟩ = some (encStr ((G.parents x).getD k [])) := fun wr hb => strs_at HP.out rfl hb hkl
            have htb := topOf_bound HG.out.1 ((G.parents x).take k)
            have hlb : -1 ≤ G.level ((G.parents x).getD k []) ∧ G.level ((G.parents x).getD k []) ≤ 500 := by
              have := Graph.Ok.lev_le HG.out.1 ((G.parents x).getD k [])
              unfold Graph.level
              split <;> omega
            have hlx : -1 ≤ G.level x ∧ G.level x ≤ 500 := by
              have := Graph.Ok.lev_le HG.out.1 x
              unfold Graph.level
              split <;> omega
            have SD := S.drew
            have g1 := HX.out.2.2.1 wr.drew B.drew
            have g2 := hcell wr.drew BP.drew
            have C1 := SD.has _ hp1
            rw [q1] at C1
            have C2 := SD.level _ hp1
            have C3 := SD.level _ HX.out.2.2.2.1
            have C4 : Calls Try.prog 13 #[.pointer (some ⟨g, 0, none⟩), encStr ((G.parents x).getD k []), encStr x] wr.drew (fun e w' => e = .returned (.bool true) ∧ w'.cell? ⟨bi, oi + i, none⟩ = some (encStr x) ∧ w'.cell? ⟨bp, op + k, none⟩ = some (encStr ((G.parents x).getD k [])) ∧ Aside (Stood w.heap.size w w' F g G ∧ Below w5.heap.size w5 w' ∧ Below w6.heap.size w6 w')) := by
              refine (SD.above_is ((G.parents x).getD k []) x hp1 HX.out.2.2.2.1 true ⟨fun _ => ⟨q1, M.isSome_get.2 HX.out.1, q3⟩, fun _ => rfl⟩).mono ?_
              rintro e w' ⟨he, hs, hb⟩
              have b5 := B.drew.trans (hb.mono B.drew.size)
              have b6 := BP.drew.trans (hb.mono BP.drew.size)
              exact ⟨he, HX.out.2.2.1 _ b5, hcell _ b6, hs, b5, b6⟩
            have C5 : ∀ W : World, Aside (Stood w.heap.size w W F g G ∧ Below w5.heap.size w5 W ∧ Below w6.heap.size w6 W) → Calls Try.prog 13 #[.pointer (some ⟨g, 0, none⟩), encStr x, encStr ((G.parents x).getD k [])] W (fun e w' => e = .returned (.bool false) ∧ w'.cell? ⟨bi, oi + i, none⟩ = some (encStr x) ∧ w'.cell? ⟨bp, op + k, none⟩ = some (encStr ((G.parents x).getD k [])) ∧ Aside (Stood w.heap.size w w' F g G ∧ Below w5.heap.size w5 w' ∧ Below w6.heap.size w6 w')) := by
              rintro W ⟨hS, h5, h6⟩
              refine (hS.above_is x ((G.parents x).getD k []) HX.out.2.2.2.1 hp1 false ⟨fun h => (by cases h), fun h => absurd h.2.2 q4⟩).mono ?_
              rintro e w' ⟨he, hs, hb⟩
              have b5 := h5.trans (hb.mono h5.size)
              have b6 := h6.trans (hb.mono h6.size)
              exact ⟨he, HX.out.2.2.1 _ b5, hcell _ b6, hs, b5, b6⟩
            have hge : ¬ (G.level ((G.parents x).getD k []) ≥ G.level x) := by omega
            have HSN := Lib.hid (And.intro hsn (And.intro hp1 hcell))
            clear hsn hcell S SD q1 q2 q3 q4 hpm hp1 B BP
            generalize (G.parents x).getD k [] = p at *
            generalize topOf G ((G.parents x).take k) = t at *
            generalize hlp : G.level p = lp at *
            generalize hlxx : G.level x = lx at *
            simp only [encStr_eq] at g1 g2 C1 C2 C3 C4 C5
            have HLP := Lib.hid (And.intro hlp hlxx)
            have hd1 : decide (lx ≤ lp) = false := decide_eq_false (by omega)
            have hd2 : decide (lp ≥ lx) = false := decide_eq_false (by omega)
            have HC1 : Hid (Calls Try.prog (24 : Nat) _ _ _) := Lib.hid C1
            have HC2 : Hid (Calls Try.prog (20 : Nat) _ _ _) := Lib.hid C2
            have HC3 : Hid (Calls Try.prog (20 : Nat) _ _ _) := Lib.hid C3
            have HC4 : Hid (Calls Try.prog (13 : Nat) _ _ _) := Lib.hid C4
            have HC5 : Hid (∀ W : World, Aside _ → Calls Try.prog (13 : Nat) _ W _) := Lib.hid C5
            clear C1 C2 C3 C4 C5 hlp hlxx
            go_wp2
            go_region_held3 (fun w' => w'.cell? ⟨bi, oi + i, none⟩ = some (.string ⟨x.toArray⟩) ∧ w'.cell? ⟨bp, op + k, none⟩ = some (.string ⟨p.toArray⟩)) (first | exact ⟨g1, g2⟩ | exact ⟨g3, g4⟩ | exact ⟨g5, g6⟩)
              (first
                | (go_at_call 24; (with_reducible refine HC1.out.mono ?_); rintro e w7 ⟨rfl, rfl⟩)
                | (go_at_call 20; (with_reducible refine HC2.out.mono ?_); rintro e w7 ⟨rfl, rfl⟩)
                | (go_at_call 20; (with_reducible refine HC3.out.mono ?_); rintro e w7 ⟨rfl, rfl⟩)
                | (go_at_call 13; (with_reducible refine HC4.out.mono ?_); rintro e w7 ⟨rfl, g3, g4, H7⟩)
                | (go_at_call 13; (with_reducible refine (HC5.out _ H7).mono ?_); rintro e w8 ⟨rfl, g5, g6, H8⟩))
            have C6 := H8.out.1.level p HSN.out.2.1
            rw [HLP.out.1] at C6
            simp only [encStr_eq] at C6
            have HC6 := Lib.hid C6
            clear C6 HC1 HC2 HC3 HC4 HC5 g1 g2 g3 g4
            go_wp2_with fail
            refine HC6.out.mono ?_
            rintro e w9 ⟨rfl, rfl⟩
            go_wp2
            go_roundg q
            case measure => omega
            case rel => exact ⟨k + 1, by omega, by rw [HSN.out.1], by go_num, H8.out.1, H8.out.2.1, H8.out.2.2⟩
end Go.Proofs.Ytccpblefebjadaa
