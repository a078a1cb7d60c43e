/- grapevinelaw15.DagHeads. -/
import Derived.Test.YtccpblefebjadaaA19
import Derived.Test.YtccpblefebjadaaM3
import Derived.Deep.RegionHeld3
namespace Go.Proofs.Ytccpblefebjadaa
open Go.RowKit Go.Maps Go.WideMaps Go.Sort Go.Shelf
open Go.Proofs (encStr)
open M (Rising keys get Graph Stands Searched)

theorem Laid.stood {w0 w w' : World} {G : Graph} {e : Ending} {N : Nat} (h : Laid w G e w') (hb : Below N w0 w) (hN : N ≤ w.heap.size) : ∃ g F, e = .returned (.pointer (some ⟨g, 0, none⟩)) ∧ Stood N w0 w' F g G := by
  obtain ⟨g, F, he, hd, hF, hbl⟩ := h
  exact ⟨g, F, he, hd, fun i hi => Nat.le_trans hN (hF i hi), hb.trans (hbl.mono hN), Nat.le_trans hN hbl.size⟩
theorem Stood.ids1000 {N : Nat} {w0 w : World} {F : Nat → Prop} {g : Nat} {G : Graph} (h : Stood N w0 w F g G) : ∀ x ∈ G.ids, x.length ≤ 1000 := h.dag.ok.ki

/-- a cell of a slice of strings in a later world -/
theorem strs_at {w w' : World} {S : Nat → Prop} {b off n c : Nat} {l : List Bs} {A : Option Addr} (h : Strs w S (.slice A n c) l) (hA : A = some ⟨b, off, none⟩) (hb : Below w.heap.size w w') {k : Nat} (hk : k < l.length) : w'.cell? ⟨b, off + k, none⟩ = some (encStr (l.getD k [])) := by
  obtain ⟨A', c', hv, h1, _⟩ := h
  cases hv
  subst hA
  obtain ⟨b', off', he, _, hlt, hc⟩ := h1 (by omega)
  cases he
  exact (hb.cell (p := ⟨b, off + k, none⟩) hlt).trans (hc k hk)
theorem strs_addr {w : World} {S : Nat → Prop} {n c : Nat} {l : List Bs} {A : Option Addr} (h : Strs w S (.slice A n c) l) (hp : 0 < l.length) : ∃ b off, A = some ⟨b, off, none⟩ := by
  obtain ⟨A', c', hv, h1, _⟩ := h
  cases hv
  obtain ⟨b, off, he, _⟩ := h1 hp
  exact ⟨b, off, he⟩
theorem strs_form {w : World} {S : Nat → Prop} {v : Value} {l : List Bs} (h : Strs w S v l) : ∃ A c, v = .slice A l.length c ∧ l.length ≤ 1000 := by
  obtain ⟨A, c, rfl, _, _, hl⟩ := h
  exact ⟨A, c, rfl, hl⟩
theorem mem_getD {l : List Bs} {k : Nat} (hk : k < l.length) : l.getD k [] ∈ l := by simp [List.getD_eq_getElem?_getD, hk]

set_option maxRecDepth 100000 in
set_option maxHeartbeats 4000000 in
theorem heads_law (w : World) {v : Value} {L : List Nd} (hv : NodesAt w v L) : Calls Try.prog 3 #[v] w (RetBel (.bool true) w) := by
  cases hf : few L with
  | false =>
    have HV := Lib.hid hv
    have HF := Lib.hid hf
    clear hv hf
    go_enter Try.func3, Try.ntmps3
    go_wp2_with fail
    refine (awake_walk w).mono ?_
    rintro e w1 ⟨rfl, hb1⟩
    have h2 := few_walk w1 (HV.out.below (Nat.le_refl _) hb1)
    rw [HF.out] at h2
    have H2 := Lib.hid h2
    have HB := Lib.hid hb1
    clear h2 hb1
    go_wp2_with fail
    refine H2.out.mono ?_
    rintro e w2 ⟨rfl, rfl⟩
    go_wp2
    go_ret
    exact ⟨rfl, HB.out⟩
  | true =>
    have HV := Lib.hid hv
    have HF := Lib.hid hf
    clear hv hf
    go_enter Try.func3, Try.ntmps3
    go_wp2_with fail
    refine (awake_walk w).mono ?_
    rintro e w1 ⟨rfl, hb1⟩
    have h2 := few_walk w1 (HV.out.below (Nat.le_refl _) hb1)
    rw [HF.out] at h2
    have H2 := Lib.hid h2
    have HB := Lib.hid hb1
    have H3 := Lib.hid (added_walk w1 (HV.out.below (Nat.le_refl _) hb1) HF.out)
    clear h2 hb1
    go_wp2_with fail
    refine H2.out.mono ?_
    rintro e w2 ⟨rfl, rfl⟩
    go_wp2_with fail
    refine H3.out.mono ?_
    rintro e w3 hl3
    obtain ⟨g, F, rfl, S3⟩ := hl3.stood HB.out HB.out.size
    generalize built (nds L) = G at *
    have C3 := Lib.hid S3.ids
    clear hl3 S3 H3 H2 HB
    go_wp2_with fail
    refine C3.out.mono ?_
    rintro e w4 ⟨vi, rfl, S4, V4, _⟩
    have C4 := Lib.hid S4.heads
    have VI := Lib.hid V4
    clear C3 S4 V4
    go_wp2_with fail
    refine C4.out.mono ?_
    rintro e w5 ⟨vh, rfl, S5, VH, B5⟩
    have hV := VI.out.below B5
    obtain ⟨Ai, ci, rfl, hin⟩ := strs_form hV
    obtain ⟨Ah, ch, rfl, hhn⟩ := strs_form VH
    have HS := Lib.hid S5
    have HI := Lib.hid hV
    have HH := Lib.hid VH
    clear S5 hV VH B5 VI C4
    obtain ⟨n, hn⟩ : ∃ n, n = G.ids.length := ⟨_, rfl⟩
    obtain ⟨m, hm⟩ : ∃ m, m = G.heads.length := ⟨_, rfl⟩
    rw [← hn] at HI hin ⊢
    rw [← hm] at HH hhn ⊢
    have HN := Lib.hid (And.intro hn hm)
    clear hn hm
    go_wp2
    go_loopg [8, 9, 10] n (fun d s8 s9 s10 wr => ∃ i : Nat, i + d = n ∧ s8 = .int .i64 i ∧ Stood w.heap.size w wr F g G ∧ Below w5.heap.size w5 wr)
    case atStart => exact ⟨0, by omega, rfl, HS.out, Below.refl _ _⟩
    case round =>
      obtain ⟨i, hi, rfl, S, B⟩ := hrel
      cases gk with
      | zero =>
        have hff : ¬ ((i : Int) < (n : Int)) := by omega
        have hz := heads_none S.dag.ok
        have hz2 : (m = 0 ↔ n = 0) := by
          rw [HN.out.1, HN.out.2, List.length_eq_zero_iff, List.length_eq_zero_iff]; exact hz
        have SS := Lib.hid S
        clear S B hz
        have hbb : (((m : Int) == 0) == ((n : Int) == 0)) = true := by
          have : ((m : Int) = 0 ↔ (n : Int) = 0) := by omega
          by_cases e : (n : Int) = 0
          · have e2 := this.2 e
            rw [e, e2]; rfl
          · have e2 : ¬ (m : Int) = 0 := fun h => e (this.1 h)
            rw [beq_eq_false_iff_ne.2 e, beq_eq_false_iff_ne.2 e2]; rfl
        have HBB := Lib.hid hbb
        clear hbb hz2
        go_wp2
        go_ret
        exact RetBel.mk (vbool HBB.out) SS.out.bel
      | succ d =>
        have hff : ((i : Int) < (n : Int)) := by omega
        have hil : i < G.ids.length := by have := HN.out.1; omega
        obtain ⟨bi, oi, rfl⟩ := strs_addr HI.out (by omega)
        have hxm := mem_getD hil
        have ex := under_head S.dag.ok _ (G.ids.getD i []) hxm (Nat.le_refl _)
        have hcell : ∀ wr, Below w5.heap.size w5 wr → wr.cell? ⟨bi, oi + i, none⟩ = some (encStr (G.ids.getD i [])) := fun wr hb => strs_at HI.out rfl hb hil
        have hx1 := S.ids1000 _ hxm
        have SS := Lib.hid (And.intro S B)
        have HX := Lib.hid (And.intro hxm (And.intro ex (And.intro hcell hx1)))
        clear S B hxm ex hcell hx1
        generalize G.ids.getD i [] = x at *
        go_wp2
        go_loopg [9, 10] m (fun q s9 s10 wr => ∃ (k c : Nat), k + q = m ∧ c ≤ k ∧ s9 = .int .i64 c ∧ s10 = .int .i64 k ∧ Stood w.heap.size w wr F g G ∧ Below w5.heap.size w5 wr ∧ Aside (∀ j, j < k → Stands G x (G.heads.getD j []) → 0 < c))
        case atStart => exact ⟨0, 0, by omega, by omega, rfl, rfl, SS.out.1, SS.out.2, by intro j hj; omega⟩
        case round =>
          obtain ⟨k, c, hk, hc, rfl, rfl, S, B, HR⟩ := hrel
          cases gk with
          | zero =>
            obtain rfl : k = m := by omega
            have hf1 : ¬ ((k : Int) < (k : Int)) := by omega
            obtain ⟨h, hh, hst⟩ := HX.out.2.1
            obtain ⟨j, hj, he⟩ := List.getElem_of_mem hh
            have hc0 : 0 < c := HR.out j (by have := HN.out.2; omega) (by rw [List.getD_eq_getElem?_getD, List.getElem?_eq_getElem hj]; simpa [he] using hst)
            have hc1 : ¬ ((c : Int) = 0) := by omega
            have SB := Lib.hid (And.intro S B)
            clear S B HR hst hh
            go_wp2
            go_roundg d
            case measure => omega
            case rel => exact ⟨i + 1, by omega, by go_num, SB.out.1, SB.out.2⟩
          | succ q =>
            have hf1 : ((k : Int) < (m : Int)) := by omega
            have hkl : k < G.heads.length := by have := HN.out.2; omega
            obtain ⟨bh, oh, rfl⟩ := strs_addr HH.out (by omega)
            have hhm := mem_getD hkl
            have htop := fun x => head_top S.dag.ok (x := x) hhm
            have hcell : ∀ wr, Below w5.heap.size w5 wr → wr.cell? ⟨bh, oh + k, none⟩ = some (encStr (G.heads.getD k [])) := fun wr hb => strs_at HH.out rfl hb hkl
            have hin := ((mem_heads S.dag.ok).1 hhm).1
            have hh1 := S.ids1000 _ hin
            have SD := S.next (w' := wr.drew) (Below.refl _ _).drew
            have g1 := HX.out.2.2.1 wr.drew B.drew
            have g2 := hcell wr.drew B.drew
            have C1 := SD.above x (G.heads.getD k []) HX.out.2.2.2 hh1
            have C1' : ∃ b : Bool, (Stands G x (G.heads.getD k []) → b = true) ∧ Calls Try.prog 13 #[.pointer (some ⟨g, 0, none⟩), encStr x, encStr (G.heads.getD k [])] wr.drew (fun e w' => e = .returned (.bool b) ∧ w'.cell? ⟨bi, oi + i, none⟩ = some (encStr x) ∧ w'.cell? ⟨bh, oh + k, none⟩ = some (encStr (G.heads.getD k [])) ∧ Aside (Stood w.heap.size w w' F g G ∧ Below w5.heap.size w5 w')) := by
              classical
              refine ⟨decide (Stands G x (G.heads.getD k [])), fun h => decide_eq_true h, C1.mono ?_⟩
              rintro e w' ⟨r, he, hr, hs, hb⟩
              have hb' := B.drew.trans (hb.mono B.drew.size)
              refine ⟨?_, HX.out.2.2.1 _ hb', hcell _ hb', hs, hb'⟩
              rw [he]; congr 2
              exact Bool.eq_iff_iff.2 ⟨fun hst => decide_eq_true (hr.1 hst).2.2, fun e => hr.2 ⟨M.isSome_get.2 HX.out.1, M.isSome_get.2 hin, of_decide_eq_true e⟩⟩
            obtain ⟨b1, hb1, C1'⟩ := C1'
            have HC1 := Lib.hid C1'
            have HY := Lib.hid (And.intro htop (And.intro hcell (And.intro hin hh1)))
            have HRR := Lib.hid HR.out
            have HB1 := Lib.hid hb1
            clear C1 C1' htop hcell hin hh1 S B SD HR hhm hb1
            have HK : Hid (∀ (c' : Nat), (∀ j, j < k → Stands G x (G.heads.getD j []) → 0 < c') → (Stands G x (G.heads.getD k []) → 0 < c') → ∀ j, j < k + 1 → Stands G x (G.heads.getD j []) → 0 < c') :=
              Lib.hid (fun c' h1 h2 j hj hs => by
                by_cases e : j = k
                · subst e; exact h2 hs
                · exact h1 j (by omega) hs)
            generalize G.heads.getD k [] = h at *
            simp only [encStr_eq] at g1 g2 HC1
            go_wp2
            go_region_held3 (fun w' => w'.cell? ⟨bi, oi + i, none⟩ = some (.string ⟨x.toArray⟩) ∧ w'.cell? ⟨bh, oh + k, none⟩ = some (.string ⟨h.toArray⟩)) (first | exact ⟨g1, g2⟩ | exact ⟨g3, g4⟩)
              (first | (go_at_call 13; refine HC1.out.mono ?_; rintro e w6 ⟨rfl, g3, g4, H6⟩))
            have SD := H6.out.1.next (w' := w6.drew) (Below.refl _ _).drew
            have BD := H6.out.2.drew
            have C2 := SD.above h x HY.out.2.2.2 HX.out.2.2.2
            have C2' : ∀ b : Bool, b = decide (h = x) → Calls Try.prog 13 #[.pointer (some ⟨g, 0, none⟩), encStr h, encStr x] w6.drew (fun e w' => e = .returned (.bool b) ∧ w'.cell? ⟨bi, oi + i, none⟩ = some (encStr x) ∧ w'.cell? ⟨bh, oh + k, none⟩ = some (encStr h) ∧ Aside (Stood w.heap.size w w' F g G ∧ Below w5.heap.size w5 w')) := by
              intro b hb
              refine C2.mono ?_
              rintro e w' ⟨r, he, hr, hs, hbl⟩
              have hb' := BD.trans (hbl.mono BD.size)
              refine ⟨?_, HX.out.2.2.1 _ hb', HY.out.2.1 _ hb', hs, hb'⟩
              rw [he, hb]; congr 2
              exact Bool.eq_iff_iff.2 ⟨fun hst => decide_eq_true (HY.out.1 _ (hr.1 hst).2.2), fun e => hr.2 ⟨M.isSome_get.2 HY.out.2.2.1, M.isSome_get.2 HX.out.1, (of_decide_eq_true e) ▸ Stands.self⟩⟩
            have f1 := HX.out.2.2.1 w6.drew BD
            have f2 := HY.out.2.1 w6.drew BD
            clear C2 SD BD g1 g2 g3 g4
            simp only [encStr_eq] at f1 f2
            by_cases e : h = x
            · have HC2 := Lib.hid (C2' true (decide_eq_true e).symm)
              clear C2'
              subst e
              simp only [encStr_eq] at HC2
              cases b1
              · go_wp2
                go_region_held3 (fun w' => w'.cell? ⟨bi, oi + i, none⟩ = some (.string ⟨h.toArray⟩) ∧ w'.cell? ⟨bh, oh + k, none⟩ = some (.string ⟨h.toArray⟩)) (first | exact ⟨f1, f2⟩ | exact ⟨g3, g4⟩)
                  (first | (go_at_call 13; refine HC2.out.mono ?_; rintro e w7 ⟨rfl, g3, g4, H7⟩))
                go_wp2
                go_roundg q
                case measure => omega
                case rel => exact ⟨k + 1, c, by omega, by omega, by go_num, by go_num, H7.out.1, H7.out.2, HK.out c HRR.out (fun hs => absurd (HB1.out hs) (by simp))⟩
              · go_wp2
                go_region_held3 (fun w' => w'.cell? ⟨bi, oi + i, none⟩ = some (.string ⟨h.toArray⟩) ∧ w'.cell? ⟨bh, oh + k, none⟩ = some (.string ⟨h.toArray⟩)) (first | exact ⟨f1, f2⟩ | exact ⟨g3, g4⟩)
                  (first | (go_at_call 13; refine HC2.out.mono ?_; rintro e w7 ⟨rfl, g3, g4, H7⟩))
                go_wp2
                go_roundg q
                case measure => omega
                case rel => exact ⟨k + 1, c + 1, by omega, by omega, by go_num, by go_num, H7.out.1, H7.out.2, HK.out (c + 1) (fun j hj hs => by omega) (fun hs => by omega)⟩
            · have HC2 := Lib.hid (C2' false (decide_eq_false e).symm)
              clear C2'
              simp only [encStr_eq] at HC2
              cases b1
              · go_wp2
                refine wp_region_held_drew (S := fun w' => w'.cell? ⟨bi, oi + i, none⟩ = some (.string ⟨x.toArray⟩) ∧ w'.cell? ⟨bh, oh + k, none⟩ = some (.string ⟨h.toArray⟩)) (by kernel_rfl) ⟨f1, f2⟩ (fun hHeld => ?_)
                refine wpAnyH_take (i := 0) (v := ?_) rfl (by kernel_rfl) (by kernel_rfl) (by kernel_rfl) (fun _ _ _ h => h) (Or.inl ⟨by rfl, ?_⟩) (by assumption) ?_
                rotate_left
                · intro w hSw; (try dsimp only at hSw); go_simp; all_goals with_reducible rfl
                try simp only [Act.put, List.setIfInBounds_toArray, List.set_cons_zero, List.set_cons_succ, List.getElem_toArray, List.getElem_cons_zero]
                refine wpAnyH_take (i := 1) (v := ?_) rfl (by kernel_rfl) (by kernel_rfl) (by kernel_rfl) (fun _ _ _ h => h) (Or.inl ⟨by rfl, ?_⟩) (by assumption) ?_
                rotate_left
                · intro w hSw; (try dsimp only at hSw); go_simp; all_goals with_reducible rfl
                try simp only [Act.put, List.setIfInBounds_toArray, List.set_cons_zero, List.set_cons_succ, List.getElem_toArray, List.getElem_cons_succ, List.getElem_cons_zero]
                refine wpAnyH_take (i := 2) (v := ?_) rfl (by kernel_rfl) (by kernel_rfl) (by kernel_rfl) (fun _ _ _ h => h) (Or.inl ⟨by rfl, ?_⟩) (by assumption) ?_
                rotate_left
                · intro w hSw; (try dsimp only at hSw); go_simp; all_goals with_reducible rfl
                try simp only [Act.put, List.setIfInBounds_toArray, List.set_cons_zero, List.set_cons_succ, List.getElem_toArray, List.getElem_cons_succ, List.getElem_cons_zero]
                refine wpAnyH_take (i := 3) (v := ?_) rfl (by kernel_rfl) (by kernel_rfl) (by kernel_rfl) (fun _ _ _ h => h) (Or.inl ⟨by rfl, ?_⟩) (by assumption) ?_
                rotate_left
                · intro w hSw; (try dsimp only at hSw); go_simp; all_goals with_reducible rfl
                try simp only [Act.put, List.setIfInBounds_toArray, List.set_cons_zero, List.set_cons_succ, List.getElem_toArray, List.getElem_cons_succ, List.getElem_cons_zero]
                refine wpAnyH_take (i := 4) (v := ?_) rfl (by kernel_rfl) (by kernel_rfl) (by kernel_rfl) (fun _ _ _ h => h) (Or.inl ⟨by rfl, ?_⟩) (by assumption) ?_
                rotate_left
                · intro w hSw; (try dsimp only at hSw); go_simp; all_goals with_reducible rfl
                try simp only [Act.put, List.setIfInBounds_toArray, List.set_cons_zero, List.set_cons_succ, List.getElem_toArray, List.getElem_cons_succ, List.getElem_cons_zero]
                refine wpAnyH_take (i := 5) (v := ?_) rfl (by kernel_rfl) (by kernel_rfl) (by kernel_rfl) (fun _ _ _ h => h) (Or.inl ⟨by rfl, ?_⟩) (by assumption) ?_
                rotate_left
                · intro w hSw; (try dsimp only at hSw); go_simp; all_goals with_reducible rfl
                try simp only [Act.put, List.setIfInBounds_toArray, List.set_cons_zero, List.set_cons_succ, List.getElem_toArray, List.getElem_cons_succ, List.getElem_cons_zero]
                refine wpAnyH_take (i := 6) (v := ?_) rfl (by kernel_rfl) (by kernel_rfl) (by kernel_rfl) (fun _ _ _ h => h) (Or.inl ⟨by rfl, ?_⟩) (by assumption) ?_
                rotate_left
                · intro w hSw; (try dsimp only at hSw); go_simp; all_goals with_reducible rfl
                try simp only [Act.put, List.setIfInBounds_toArray, List.set_cons_zero, List.set_cons_succ, List.getElem_toArray, List.getElem_cons_succ, List.getElem_cons_zero]
                refine wpAnyH_take (i := 7) (v := ?_) rfl (by kernel_rfl) (by kernel_rfl) (by kernel_rfl) (fun _ _ _ h => h) (Or.inl ⟨by rfl, ?_⟩) (by assumption) ?_
                rotate_left
                · intro w hSw; (try dsimp only at hSw); go_simp; all_goals with_reducible rfl
                try simp only [Act.put, List.setIfInBounds_toArray, List.set_cons_zero, List.set_cons_succ, List.getElem_toArray, List.getElem_cons_succ, List.getElem_cons_zero]
                refine wpAnyH_take (i := 8) (v := ?_) rfl (by kernel_rfl) (by kernel_rfl) (by kernel_rfl) (fun _ _ _ h => h) (Or.inl ⟨by rfl, ?_⟩) (by assumption) ?_
                rotate_left
                · intro w hSw; (try dsimp only at hSw); go_simp; all_goals with_reducible rfl
                try simp only [Act.put, List.setIfInBounds_toArray, List.set_cons_zero, List.set_cons_succ, List.getElem_toArray, List.getElem_cons_succ, List.getElem_cons_zero]
                refine wpAnyH_ready (rs := [9]) (by kernel_rfl) (by simp) ?_
                refine AllReadyH.cons rfl (fun K hK => ?_) AllReadyH.nil
                go_simp
                (go_at_call 13; refine HC2.out.mono ?_; rintro e w7 ⟨rfl, g3, g4, H7⟩)
                refine hK.out _ _ ⟨g3, g4⟩ (fun hHeld => ?_)
                clear hK K
                try simp only [Act.put, List.setIfInBounds_toArray, List.set_cons_zero, List.set_cons_succ, List.getElem_toArray, List.getElem_cons_succ, List.getElem_cons_zero]
                refine wpAnyH_take (i := 10) (v := ?_) rfl (by kernel_rfl) (by kernel_rfl) (by kernel_rfl) (fun _ _ _ h => h) (Or.inl ⟨by rfl, ?_⟩) (by assumption) ?_
                rotate_left
                · intro w hSw; (try dsimp only at hSw); go_simp; all_goals with_reducible rfl
                try simp only [Act.put, List.setIfInBounds_toArray, List.set_cons_zero, List.set_cons_succ, List.getElem_toArray, List.getElem_cons_succ, List.getElem_cons_zero]
                refine wpAnyH_take (i := 11) (v := undef) rfl (by kernel_rfl) (by kernel_rfl) (by kernel_rfl) (fun _ _ _ h => h) (Or.inr ⟨by rfl, rfl⟩) (by assumption) ?_
                try simp only [Act.put, List.setIfInBounds_toArray, List.set_cons_zero, List.set_cons_succ, List.getElem_toArray, List.getElem_cons_succ, List.getElem_cons_zero]
                refine wpAnyH_take (i := 12) (v := undef) rfl (by kernel_rfl) (by kernel_rfl) (by kernel_rfl) (fun _ _ _ h => h) (Or.inr ⟨by rfl, rfl⟩) (by assumption) ?_
                try simp only [Act.put, List.setIfInBounds_toArray, List.set_cons_zero, List.set_cons_succ, List.getElem_toArray, List.getElem_cons_succ, List.getElem_cons_zero]
                refine wpAnyH_take (i := 13) (v := undef) rfl (by kernel_rfl) (by kernel_rfl) (by kernel_rfl) (fun _ _ _ h => h) (Or.inr ⟨by rfl, rfl⟩) (by assumption) ?_
                try simp only [Act.put, List.setIfInBounds_toArray, List.set_cons_zero, List.set_cons_succ, List.getElem_toArray, List.getElem_cons_succ, List.getElem_cons_zero]
                refine wpAnyH_take (i := 14) (v := undef) rfl (by kernel_rfl) (by kernel_rfl) (by kernel_rfl) (fun _ _ _ h => h) (Or.inr ⟨by rfl, rfl⟩) (by assumption) ?_
                try simp only [Act.put, List.setIfInBounds_toArray, List.set_cons_zero, List.set_cons_succ, List.getElem_toArray, List.getElem_cons_succ, List.getElem_cons_zero]
                refine wpAnyH_take (i := 15) (v := undef) rfl (by kernel_rfl) (by kernel_rfl) (by kernel_rfl) (fun _ _ _ h => h) (Or.inr ⟨by rfl, rfl⟩) (by assumption) ?_
                try simp only [Act.put, List.setIfInBounds_toArray, List.set_cons_zero, List.set_cons_succ, List.getElem_toArray, List.getElem_cons_succ, List.getElem_cons_zero]
                refine wpAnyH_take (i := 16) (v := undef) rfl (by kernel_rfl) (by kernel_rfl) (by kernel_rfl) (fun _ _ _ h => h) (Or.inr ⟨by rfl, rfl⟩) (by assumption) ?_
                try simp only [Act.put, List.setIfInBounds_toArray, List.set_cons_zero, List.set_cons_succ, List.getElem_toArray, List.getElem_cons_succ, List.getElem_cons_zero]
                refine wpAnyH_take (i := 17) (v := undef) rfl (by kernel_rfl) (by kernel_rfl) (by kernel_rfl) (fun _ _ _ h => h) (Or.inr ⟨by rfl, rfl⟩) (by assumption) ?_
                try simp only [Act.put, List.setIfInBounds_toArray, List.set_cons_zero, List.set_cons_succ, List.getElem_toArray, List.getElem_cons_succ, List.getElem_cons_zero]
                refine wpAnyH_take (i := 18) (v := undef) rfl (by kernel_rfl) (by kernel_rfl) (by kernel_rfl) (fun _ _ _ h => h) (Or.inr ⟨by rfl, rfl⟩) (by assumption) ?_
                try simp only [Act.put, List.setIfInBounds_toArray, List.set_cons_zero, List.set_cons_succ, List.getElem_toArray, List.getElem_cons_succ, List.getElem_cons_zero]
                refine wpAnyH_take (i := 19) (v := undef) rfl (by kernel_rfl) (by kernel_rfl) (by kernel_rfl) (fun _ _ _ h => h) (Or.inr ⟨by rfl, rfl⟩) (by assumption) ?_
                try simp only [Act.put, List.setIfInBounds_toArray, List.set_cons_zero, List.set_cons_succ, List.getElem_toArray, List.getElem_cons_succ, List.getElem_cons_zero]
                refine wpAnyH_take (i := 20) (v := ?_) rfl (by kernel_rfl) (by kernel_rfl) (by kernel_rfl) (fun _ _ _ h => h) (Or.inl ⟨by rfl, ?_⟩) (by assumption) ?_
                rotate_left
                · intro w hSw; (try dsimp only at hSw); go_simp; all_goals with_reducible rfl
                try simp only [Act.put, List.setIfInBounds_toArray, List.set_cons_zero, List.set_cons_succ, List.getElem_toArray, List.getElem_cons_succ, List.getElem_cons_zero]
                refine wpAnyH_done (by kernel_rfl) ?_ _
                go_wp2
                go_roundg q
                case measure => omega
                case rel => exact ⟨k + 1, c, by omega, by omega, by go_num, by go_num, H7.out.1, H7.out.2, HK.out c HRR.out (fun hs => absurd (HB1.out hs) (by simp))⟩
              · go_wp2
                refine wp_region_held_drew (S := fun w' => w'.cell? ⟨bi, oi + i, none⟩ = some (.string ⟨x.toArray⟩) ∧ w'.cell? ⟨bh, oh + k, none⟩ = some (.string ⟨h.toArray⟩)) (by kernel_rfl) ⟨f1, f2⟩ (fun hHeld => ?_)
                refine wpAnyH_take (i := 0) (v := ?_) rfl (by kernel_rfl) (by kernel_rfl) (by kernel_rfl) (fun _ _ _ h => h) (Or.inl ⟨by rfl, ?_⟩) (by assumption) ?_
                rotate_left
                · intro w hSw; (try dsimp only at hSw); go_simp; all_goals with_reducible rfl
                try simp only [Act.put, List.setIfInBounds_toArray, List.set_cons_zero, List.set_cons_succ, List.getElem_toArray, List.getElem_cons_zero]
                refine wpAnyH_take (i := 1) (v := ?_) rfl (by kernel_rfl) (by kernel_rfl) (by kernel_rfl) (fun _ _ _ h => h) (Or.inl ⟨by rfl, ?_⟩) (by assumption) ?_
                rotate_left
                · intro w hSw; (try dsimp only at hSw); go_simp; all_goals with_reducible rfl
                try simp only [Act.put, List.setIfInBounds_toArray, List.set_cons_zero, List.set_cons_succ, List.getElem_toArray, List.getElem_cons_succ, List.getElem_cons_zero]
                refine wpAnyH_take (i := 2) (v := ?_) rfl (by kernel_rfl) (by kernel_rfl) (by kernel_rfl) (fun _ _ _ h => h) (Or.inl ⟨by rfl, ?_⟩) (by assumption) ?_
                rotate_left
                · intro w hSw; (try dsimp only at hSw); go_simp; all_goals with_reducible rfl
                try simp only [Act.put, List.setIfInBounds_toArray, List.set_cons_zero, List.set_cons_succ, List.getElem_toArray, List.getElem_cons_succ, List.getElem_cons_zero]
                refine wpAnyH_take (i := 3) (v := ?_) rfl (by kernel_rfl) (by kernel_rfl) (by kernel_rfl) (fun _ _ _ h => h) (Or.inl ⟨by rfl, ?_⟩) (by assumption) ?_
                rotate_left
                · intro w hSw; (try dsimp only at hSw); go_simp; all_goals with_reducible rfl
                try simp only [Act.put, List.setIfInBounds_toArray, List.set_cons_zero, List.set_cons_succ, List.getElem_toArray, List.getElem_cons_succ, List.getElem_cons_zero]
                refine wpAnyH_take (i := 4) (v := ?_) rfl (by kernel_rfl) (by kernel_rfl) (by kernel_rfl) (fun _ _ _ h => h) (Or.inl ⟨by rfl, ?_⟩) (by assumption) ?_
                rotate_left
                · intro w hSw; (try dsimp only at hSw); go_simp; all_goals with_reducible rfl
                try simp only [Act.put, List.setIfInBounds_toArray, List.set_cons_zero, List.set_cons_succ, List.getElem_toArray, List.getElem_cons_succ, List.getElem_cons_zero]
                refine wpAnyH_take (i := 5) (v := ?_) rfl (by kernel_rfl) (by kernel_rfl) (by kernel_rfl) (fun _ _ _ h => h) (Or.inl ⟨by rfl, ?_⟩) (by assumption) ?_
                rotate_left
                · intro w hSw; (try dsimp only at hSw); go_simp; all_goals with_reducible rfl
                try simp only [Act.put, List.setIfInBounds_toArray, List.set_cons_zero, List.set_cons_succ, List.getElem_toArray, List.getElem_cons_succ, List.getElem_cons_zero]
                refine wpAnyH_take (i := 6) (v := ?_) rfl (by kernel_rfl) (by kernel_rfl) (by kernel_rfl) (fun _ _ _ h => h) (Or.inl ⟨by rfl, ?_⟩) (by assumption) ?_
                rotate_left
                · intro w hSw; (try dsimp only at hSw); go_simp; all_goals with_reducible rfl
                try simp only [Act.put, List.setIfInBounds_toArray, List.set_cons_zero, List.set_cons_succ, List.getElem_toArray, List.getElem_cons_succ, List.getElem_cons_zero]
                refine wpAnyH_take (i := 7) (v := ?_) rfl (by kernel_rfl) (by kernel_rfl) (by kernel_rfl) (fun _ _ _ h => h) (Or.inl ⟨by rfl, ?_⟩) (by assumption) ?_
                rotate_left
                · intro w hSw; (try dsimp only at hSw); go_simp; all_goals with_reducible rfl
                try simp only [Act.put, List.setIfInBounds_toArray, List.set_cons_zero, List.set_cons_succ, List.getElem_toArray, List.getElem_cons_succ, List.getElem_cons_zero]
                refine wpAnyH_take (i := 8) (v := ?_) rfl (by kernel_rfl) (by kernel_rfl) (by kernel_rfl) (fun _ _ _ h => h) (Or.inl ⟨by rfl, ?_⟩) (by assumption) ?_
                rotate_left
                · intro w hSw; (try dsimp only at hSw); go_simp; all_goals with_reducible rfl
                try simp only [Act.put, List.setIfInBounds_toArray, List.set_cons_zero, List.set_cons_succ, List.getElem_toArray, List.getElem_cons_succ, List.getElem_cons_zero]
                refine wpAnyH_ready (rs := [9]) (by kernel_rfl) (by simp) ?_
                refine AllReadyH.cons rfl (fun K hK => ?_) AllReadyH.nil
                go_simp
                (go_at_call 13; refine HC2.out.mono ?_; rintro e w7 ⟨rfl, g3, g4, H7⟩)
                refine hK.out _ _ ⟨g3, g4⟩ (fun hHeld => ?_)
                clear hK K
                try simp only [Act.put, List.setIfInBounds_toArray, List.set_cons_zero, List.set_cons_succ, List.getElem_toArray, List.getElem_cons_succ, List.getElem_cons_zero]
                refine wpAnyH_take (i := 10) (v := ?_) rfl (by kernel_rfl) (by kernel_rfl) (by kernel_rfl) (fun _ _ _ h => h) (Or.inl ⟨by rfl, ?_⟩) (by assumption) ?_
                rotate_left
                · intro w hSw; (try dsimp only at hSw); go_simp; all_goals with_reducible rfl
                try simp only [Act.put, List.setIfInBounds_toArray, List.set_cons_zero, List.set_cons_succ, List.getElem_toArray, List.getElem_cons_succ, List.getElem_cons_zero]
                refine wpAnyH_take (i := 11) (v := undef) rfl (by kernel_rfl) (by kernel_rfl) (by kernel_rfl) (fun _ _ _ h => h) (Or.inr ⟨by rfl, rfl⟩) (by assumption) ?_
                try simp only [Act.put, List.setIfInBounds_toArray, List.set_cons_zero, List.set_cons_succ, List.getElem_toArray, List.getElem_cons_succ, List.getElem_cons_zero]
                refine wpAnyH_take (i := 12) (v := undef) rfl (by kernel_rfl) (by kernel_rfl) (by kernel_rfl) (fun _ _ _ h => h) (Or.inr ⟨by rfl, rfl⟩) (by assumption) ?_
                try simp only [Act.put, List.setIfInBounds_toArray, List.set_cons_zero, List.set_cons_succ, List.getElem_toArray, List.getElem_cons_succ, List.getElem_cons_zero]
                refine wpAnyH_take (i := 13) (v := undef) rfl (by kernel_rfl) (by kernel_rfl) (by kernel_rfl) (fun _ _ _ h => h) (Or.inr ⟨by rfl, rfl⟩) (by assumption) ?_
                try simp only [Act.put, List.setIfInBounds_toArray, List.set_cons_zero, List.set_cons_succ, List.getElem_toArray, List.getElem_cons_succ, List.getElem_cons_zero]
                refine wpAnyH_take (i := 14) (v := undef) rfl (by kernel_rfl) (by kernel_rfl) (by kernel_rfl) (fun _ _ _ h => h) (Or.inr ⟨by rfl, rfl⟩) (by assumption) ?_
                try simp only [Act.put, List.setIfInBounds_toArray, List.set_cons_zero, List.set_cons_succ, List.getElem_toArray, List.getElem_cons_succ, List.getElem_cons_zero]
                refine wpAnyH_take (i := 15) (v := undef) rfl (by kernel_rfl) (by kernel_rfl) (by kernel_rfl) (fun _ _ _ h => h) (Or.inr ⟨by rfl, rfl⟩) (by assumption) ?_
                try simp only [Act.put, List.setIfInBounds_toArray, List.set_cons_zero, List.set_cons_succ, List.getElem_toArray, List.getElem_cons_succ, List.getElem_cons_zero]
                refine wpAnyH_take (i := 16) (v := undef) rfl (by kernel_rfl) (by kernel_rfl) (by kernel_rfl) (fun _ _ _ h => h) (Or.inr ⟨by rfl, rfl⟩) (by assumption) ?_
                try simp only [Act.put, List.setIfInBounds_toArray, List.set_cons_zero, List.set_cons_succ, List.getElem_toArray, List.getElem_cons_succ, List.getElem_cons_zero]
                refine wpAnyH_take (i := 17) (v := undef) rfl (by kernel_rfl) (by kernel_rfl) (by kernel_rfl) (fun _ _ _ h => h) (Or.inr ⟨by rfl, rfl⟩) (by assumption) ?_
                try simp only [Act.put, List.setIfInBounds_toArray, List.set_cons_zero, List.set_cons_succ, List.getElem_toArray, List.getElem_cons_succ, List.getElem_cons_zero]
                refine wpAnyH_take (i := 18) (v := undef) rfl (by kernel_rfl) (by kernel_rfl) (by kernel_rfl) (fun _ _ _ h => h) (Or.inr ⟨by rfl, rfl⟩) (by assumption) ?_
                try simp only [Act.put, List.setIfInBounds_toArray, List.set_cons_zero, List.set_cons_succ, List.getElem_toArray, List.getElem_cons_succ, List.getElem_cons_zero]
                refine wpAnyH_take (i := 19) (v := undef) rfl (by kernel_rfl) (by kernel_rfl) (by kernel_rfl) (fun _ _ _ h => h) (Or.inr ⟨by rfl, rfl⟩) (by assumption) ?_
                try simp only [Act.put, List.setIfInBounds_toArray, List.set_cons_zero, List.set_cons_succ, List.getElem_toArray, List.getElem_cons_succ, List.getElem_cons_zero]
                refine wpAnyH_take (i := 20) (v := ?_) rfl (by kernel_rfl) (by kernel_rfl) (by kernel_rfl) (fun _ _ _ h => h) (Or.inl ⟨by rfl, ?_⟩) (by assumption) ?_
                rotate_left
                · intro w hSw; (try dsimp only at hSw); go_simp; all_goals with_reducible rfl
                try simp only [Act.put, List.setIfInBounds_toArray, List.set_cons_zero, List.set_cons_succ, List.getElem_toArray, List.getElem_cons_succ, List.getElem_cons_zero]
                refine wpAnyH_done (by kernel_rfl) ?_ _
                go_wp2
                go_roundg q
                case measure => omega
                case rel => exact ⟨k + 1, c + 1, by omega, by omega, by go_num, by go_num, H7.out.1, H7.out.2, HK.out (c + 1) (fun j hj hs => by omega) (fun hs => by omega)⟩
end Go.Proofs.Ytccpblefebjadaa
