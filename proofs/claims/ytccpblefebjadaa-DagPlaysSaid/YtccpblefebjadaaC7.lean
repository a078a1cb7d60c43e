/- The reference's Heads. -/
import Derived.Test.YtccpblefebjadaaC6
namespace Go.Proofs.Ytccpblefebjadaa
open Go.RowKit Go.Maps Go.WideMaps Go.Sort Go.Shelf
open Go.Proofs (encStr)
open M (Rising keys get Graph Stands Searched)

def below1 (x : Bs) (m : RN) : Bool := m.inn && m.ps.contains x
def isHead (D : List RN) (n : RN) : Bool := n.inn && !(D.any (below1 n.id))
def rheads (D : List RN) : List Bs := (D.filter (isHead D)).map (·.id)
theorem rheads_len (D E : List RN) : ((E.filter (isHead D)).map (·.id)).length ≤ E.length := by rw [List.length_map]; exact List.length_filter_le _ _
theorem rheads_snoc (D E : List RN) (n : RN) : ((E ++ [n]).filter (isHead D)).map (·.id) = ((E.filter (isHead D)).map (·.id)) ++ (if isHead D n = true then [n.id] else []) := by
  rw [List.filter_append, List.map_append]
  by_cases h : isHead D n = true
  · simp [h]
  · simp only [Bool.not_eq_true] at h; simp [h]

theorem contains_snoc (l : List Bs) (p x : Bs) : (l ++ [p]).contains x = (l.contains x || (x == p)) := by
  rw [Bool.eq_iff_iff, Bool.or_eq_true, List.contains_iff_mem, List.contains_iff_mem, List.mem_append, List.mem_singleton, beq_iff_eq]

set_option maxRecDepth 100000 in
set_option maxHeartbeats 4000000 in
theorem rheads_walk (w : World) {R : Nat → Prop} {r : Nat} {v : Value} {D : List RN} (h : RefAt w R r v D) : Calls Try.prog 29 #[.pointer (some ⟨r, 0, none⟩)] w (fun e w' => ∃ u, e = .returned u ∧ OwnS w w' u (rheads D)) := by
  obtain ⟨i0, hi0, hz0, hz1, hz2⟩ := info_parts info30
  obtain ⟨A, cap, rfl⟩ := h.form
  have hlen := h.len
  have H := Lib.hid h
  clear h
  go_enter Try.func29, Try.ntmps29
  go_wp2
  go_loopg [3, 4, 5, 6, 7] D.length (fun d s3 s4 s5 s6 s7 wr => ∃ i : Nat, i + d = D.length ∧ s4 = .int .i64 i ∧ OwnS w wr s3 (((D.take i).filter (isHead D)).map (·.id)))
  case atStart => exact ⟨0, by omega, rfl, OwnS.start w⟩
  case round =>
    obtain ⟨i, hi, rfl, hO⟩ := hrel
    have HR := H.out.below hO.2
    have hc := HR.cell
    cases gk with
    | zero =>
      obtain rfl : i = D.length := by omega
      have hf : ¬ ((D.length : Int) < (D.length : Int)) := by omega
      rw [List.take_length] at hO
      have HO := Lib.hid hO
      clear hO HR
      go_wp2
      go_ret
      exact ⟨_, rfl, HO.out⟩
    | succ d =>
      have hf : ((i : Int) < (D.length : Int)) := by omega
      have hil : i < D.length := by omega
      obtain ⟨g, cap', hv, hno⟩ := HR.node hil
      cases hv
      have k0 := hno.1
      have k2 := hno.2.2
      clear hno
      have hsn := rheads_snoc D (D.take i) (D.getD i default)
      rw [← rtake hil] at hsn
      have hl := rheads_len D (D.take i)
      rw [List.length_take] at hl
      have hcx : ∀ W, Below w.heap.size w W → W.cell? ⟨r, 0, none⟩ = some (.slice (some ⟨g, 0, none⟩) D.length cap) ∧ W.cell? ⟨g, i * 3, none⟩ = some (encStr (D.getD i default).id) := fun W hW => by
        have hR := H.out.below hW
        obtain ⟨g', cap', hv, h0, _⟩ := hR.node hil
        cases hv
        exact ⟨hR.cell, h0⟩
      have hih : isHead D (D.getD i default) = ((D.getD i default).inn && !(D.any (below1 (D.getD i default).id))) := rfl
      have HS := Lib.hid (And.intro hsn (And.intro hcx hih))
      have HO := Lib.hid hO
      clear hsn hcx hih hO HR
      generalize ((D.take i).filter (isHead D)).map (·.id) = o at *
      generalize hiv : isHead D (D.getD i default) = ih at *
      clear hiv
      generalize (D.getD i default).id = x at *
      generalize (D.getD i default).inn = q at *
      clear k0
      obtain ⟨wo, hwo⟩ : ∃ wo : World, wo = wr := ⟨_, rfl⟩
      subst hwo
      go_wp2
      go_loopg [5, 6, 7] D.length (fun e s5 s6 s7 wx => ∃ k : Nat, k + e = D.length ∧ s6 = .int .i64 k ∧ s5 = .bool (q && !((D.take k).any (below1 x))) ∧ Below wo.heap.size wo wx)
      case atStart => exact ⟨0, by omega, rfl, by simp, Below.refl _ _⟩
      case round =>
        obtain ⟨k, hk, rfl, rfl, hB⟩ := hrel
        have hB0 := HO.out.2.trans (hB.mono HO.out.2.size)
        obtain ⟨c0, c4⟩ := HS.out.2.1 wr hB0
        cases gk with
        | zero =>
          obtain rfl : k = D.length := by omega
          have hf2 : ¬ ((D.length : Int) < (D.length : Int)) := by omega
          have hq : (q && !((D.take D.length).any (below1 x))) = ih := by rw [List.take_length]; exact HS.out.2.2.symm
          simp only [encStr_eq] at c4
          have HO2 := Lib.hid (HO.out.next hB)
          have ho := HO2.out.1
          have hsz := HO2.out.2.size
          rw [hq]
          cases ih with
          | true =>
            clear hq hB hB0
            go_wp2_with (at_builtin; refine wpList_append_own _ rfl _ _ 27 rfl w.heap.size 30 i0 (.string ⟨#[]⟩) 1 16 Try.underlying27 hi0 hz0 hz1 hz2 rfl (by decide) _ _ _ rfl (ho.alloc _) ⟨wr.heap.size, 0, none⟩ 1 1 [.string ⟨x.toArray⟩] rfl rfl (cell_one_new _ _ _) (by simp [Value.oneCell']) (by unfold maxLen; omega) (by omega) (by simp; omega) ?_; intro v' w7 hown' hgrow _; have HX := Lib.hid (And.intro hown' hgrow); clear hown' hgrow)
            go_roundg d
            case measure => omega
            case rel => exact ⟨i + 1, by omega, by go_num, by have hsn := HO2.out.snoc HX.out.1 HX.out.2; rw [HS.out.1]; simpa using hsn⟩
          | false =>
            clear hq hB hB0
            go_wp2
            go_roundg d
            case measure => omega
            case rel => exact ⟨i + 1, by omega, by go_num, by have hsn := HO2.out; rw [HS.out.1]; simpa using hsn⟩
        | succ e =>
          have hf2 : ((k : Int) < (D.length : Int)) := by omega
          have hkl : k < D.length := by omega
          have hsk : (D.take (k + 1)).any (below1 x) = ((D.take k).any (below1 x) || below1 x (D.getD k default)) := by rw [rtake hkl, List.any_append]; simp
          have hS := H.out.par _ (rmem hkl)
          have hcells : ∀ W, Below w.heap.size w W → W.cell? ⟨g, k * 3 + 1, none⟩ = some (D.getD k default).pv ∧ W.cell? ⟨g, k * 3 + 2, none⟩ = some (.bool (D.getD k default).inn) := fun W hW => by
            have hR := H.out.below hW
            obtain ⟨g', cap', hv, _, h1, h2⟩ := hR.node hkl
            cases hv
            exact ⟨h1, h2⟩
          have HK := Lib.hid (And.intro hsk (And.intro hS hcells))
          clear hsk hS hcells
          have hD : ∃ n, D.getD k default = n := ⟨_, rfl⟩
          obtain ⟨n, hn⟩ := hD
          rw [hn] at HK
          clear hn
          obtain ⟨nid, pv, ps, inn⟩ := n
          simp only at HK
          obtain ⟨Ap, cp, rfl, hps1⟩ := HK.out.2.1
          generalize (D.take k).any (below1 x) = st at *
          have hpl : ps.length ≤ 1000 := hps1.2.2
          clear hps1
          simp only [encStr_eq] at c4
          go_wp2
          cases inn with
          | false =>
            have HB1 : Hid (below1 x ⟨nid, .slice Ap ps.length cp, ps, false⟩ = false) := Lib.hid rfl
            go_loopg [5, 7] 1 (fun e' s5 s7 wx => s7 = .int .i64 0 ∧ s5 = .bool (q && !st) ∧ Below wo.heap.size wo wx)
            case atStart => exact ⟨rfl, rfl, hB⟩
            case round =>
              obtain ⟨rfl, rfl, hB⟩ := hrel
              have hB0 := HO.out.2.trans (hB.mono HO.out.2.size)
              obtain ⟨c0, _⟩ := HS.out.2.1 wr hB0
              obtain ⟨c1, c2⟩ := HK.out.2.2 wr hB0
              have HBB := Lib.hid hB
              clear hB hB0
              by_cases hz : (0 : Int) < (ps.length : Int)
              · go_wp2
                go_roundg e
                case measure => omega
                case rel => exact ⟨k + 1, by omega, by go_num, by rw [HK.out.1, HB1.out, Bool.or_false], HBB.out⟩
              · go_wp2
                go_roundg e
                case measure => omega
                case rel => exact ⟨k + 1, by omega, by go_num, by rw [HK.out.1, HB1.out, Bool.or_false], HBB.out⟩
          | true =>
            have HB1 : Hid (below1 x ⟨nid, .slice Ap ps.length cp, ps, true⟩ = ps.contains x) := Lib.hid rfl
            go_loopg [5, 7] ps.length (fun e' s5 s7 wx => ∃ j : Nat, j + e' = ps.length ∧ s7 = .int .i64 j ∧ s5 = .bool ((q && !st) && !((ps.take j).contains x)) ∧ Below wo.heap.size wo wx)
            case atStart => exact ⟨0, by omega, rfl, by simp, hB⟩
            case round =>
              obtain ⟨j, hj, rfl, rfl, hB⟩ := hrel
              have hB0 := HO.out.2.trans (hB.mono HO.out.2.size)
              obtain ⟨c0, c4⟩ := HS.out.2.1 wr hB0
              obtain ⟨c1, c2⟩ := HK.out.2.2 wr hB0
              cases gk with
              | zero =>
                obtain rfl : j = ps.length := by omega
                have hf3 : decide ((ps.length : Int) < (ps.length : Int)) = false := decide_eq_false (by omega)
                have HBB := Lib.hid hB
                clear hB hB0
                go_wp2
                go_roundg e
                case measure => omega
                case rel => exact ⟨k + 1, by omega, by go_num, by rw [HK.out.1, HB1.out, List.take_length, Bool.not_or, Bool.and_assoc], HBB.out⟩
              | succ e' =>
                have hf3 : ((j : Int) < (ps.length : Int)) := by omega
                have hjl : j < ps.length := by omega
                obtain ⟨bp, op, rfl⟩ := strs_adr HK.out.2.1 (by omega)
                have c3 := strs_cell HK.out.2.1 rfl hB0 hjl
                have hct : (ps.take (j + 1)).contains x = ((ps.take j).contains x || (x == ps.getD j [])) := by rw [take_succ_getD ps j hjl, contains_snoc]
                have HCT := Lib.hid hct
                have HBB := Lib.hid hB
                clear hB hB0 hct
                generalize ps.getD j [] = p at *
                generalize (ps.take j).contains x = ct at *
                generalize (q && !st) = hd0 at *
                simp only [encStr_eq] at c3 c4
                have d0 : wr.drew.cell? ⟨r, 0, none⟩ = some (.slice (some ⟨g, 0, none⟩) D.length cap) := c0
                cases hh : (hd0 && !ct) with
                | false =>
                  have HH := Lib.hid hh
                  clear hh d0
                  go_wp2
                  refine wp_region_held_drew (S := fun w' => w'.cell? ⟨r, 0, none⟩ = some (.slice (some ⟨g, 0, none⟩) D.length cap) ∧ w'.cell? ⟨g, k * 3 + 1, none⟩ = some (.slice (some ⟨bp, op, none⟩) ps.length cp) ∧ w'.cell? ⟨bp, op + j, none⟩ = some (.string ⟨p.toArray⟩) ∧ w'.cell? ⟨g, i * 3, none⟩ = some (.string ⟨x.toArray⟩)) (by kernel_rfl) ⟨c0, c1, c3, c4⟩ (fun hHeld => ?_)
                  refine wpAnyH_take (i := 0) (v := ?_) rfl (by kernel_rfl) (by kernel_rfl) (by kernel_rfl) (fun _ _ _ h => h) (Or.inl ⟨by rfl, ?_⟩) (by assumption) ?_
                  rotate_left
                  · intro w hSw; (try dsimp only at hSw); go_simp; all_goals with_reducible rfl
                  try simp only [Act.put, List.setIfInBounds_toArray, List.set_cons_zero, List.set_cons_succ, List.getElem_toArray, List.getElem_cons_zero]
                  refine wpAnyH_take (i := 1) (v := ?_) rfl (by kernel_rfl) (by kernel_rfl) (by kernel_rfl) (fun _ _ _ h => h) (Or.inl ⟨by rfl, ?_⟩) (by assumption) ?_
                  rotate_left
                  · intro w hSw; (try dsimp only at hSw); go_simp; all_goals with_reducible rfl
                  try simp only [Act.put, List.setIfInBounds_toArray, List.set_cons_zero, List.set_cons_succ, List.getElem_toArray, List.getElem_cons_succ, List.getElem_cons_zero]
                  refine wpAnyH_take (i := 2) (v := undef) rfl (by kernel_rfl) (by kernel_rfl) (by kernel_rfl) (fun _ _ _ h => h) (Or.inr ⟨by rfl, rfl⟩) (by assumption) ?_
                  try simp only [Act.put, List.setIfInBounds_toArray, List.set_cons_zero, List.set_cons_succ, List.getElem_toArray, List.getElem_cons_succ, List.getElem_cons_zero]
                  refine wpAnyH_take (i := 3) (v := undef) rfl (by kernel_rfl) (by kernel_rfl) (by kernel_rfl) (fun _ _ _ h => h) (Or.inr ⟨by rfl, rfl⟩) (by assumption) ?_
                  try simp only [Act.put, List.setIfInBounds_toArray, List.set_cons_zero, List.set_cons_succ, List.getElem_toArray, List.getElem_cons_succ, List.getElem_cons_zero]
                  refine wpAnyH_take (i := 4) (v := undef) rfl (by kernel_rfl) (by kernel_rfl) (by kernel_rfl) (fun _ _ _ h => h) (Or.inr ⟨by rfl, rfl⟩) (by assumption) ?_
                  try simp only [Act.put, List.setIfInBounds_toArray, List.set_cons_zero, List.set_cons_succ, List.getElem_toArray, List.getElem_cons_succ, List.getElem_cons_zero]
                  refine wpAnyH_take (i := 5) (v := undef) rfl (by kernel_rfl) (by kernel_rfl) (by kernel_rfl) (fun _ _ _ h => h) (Or.inr ⟨by rfl, rfl⟩) (by assumption) ?_
                  try simp only [Act.put, List.setIfInBounds_toArray, List.set_cons_zero, List.set_cons_succ, List.getElem_toArray, List.getElem_cons_succ, List.getElem_cons_zero]
                  refine wpAnyH_take (i := 6) (v := undef) rfl (by kernel_rfl) (by kernel_rfl) (by kernel_rfl) (fun _ _ _ h => h) (Or.inr ⟨by rfl, rfl⟩) (by assumption) ?_
                  try simp only [Act.put, List.setIfInBounds_toArray, List.set_cons_zero, List.set_cons_succ, List.getElem_toArray, List.getElem_cons_succ, List.getElem_cons_zero]
                  refine wpAnyH_take (i := 7) (v := undef) rfl (by kernel_rfl) (by kernel_rfl) (by kernel_rfl) (fun _ _ _ h => h) (Or.inr ⟨by rfl, rfl⟩) (by assumption) ?_
                  try simp only [Act.put, List.setIfInBounds_toArray, List.set_cons_zero, List.set_cons_succ, List.getElem_toArray, List.getElem_cons_succ, List.getElem_cons_zero]
                  refine wpAnyH_take (i := 8) (v := undef) rfl (by kernel_rfl) (by kernel_rfl) (by kernel_rfl) (fun _ _ _ h => h) (Or.inr ⟨by rfl, rfl⟩) (by assumption) ?_
                  try simp only [Act.put, List.setIfInBounds_toArray, List.set_cons_zero, List.set_cons_succ, List.getElem_toArray, List.getElem_cons_succ, List.getElem_cons_zero]
                  refine wpAnyH_take (i := 9) (v := undef) rfl (by kernel_rfl) (by kernel_rfl) (by kernel_rfl) (fun _ _ _ h => h) (Or.inr ⟨by rfl, rfl⟩) (by assumption) ?_
                  try simp only [Act.put, List.setIfInBounds_toArray, List.set_cons_zero, List.set_cons_succ, List.getElem_toArray, List.getElem_cons_succ, List.getElem_cons_zero]
                  refine wpAnyH_take (i := 10) (v := undef) rfl (by kernel_rfl) (by kernel_rfl) (by kernel_rfl) (fun _ _ _ h => h) (Or.inr ⟨by rfl, rfl⟩) (by assumption) ?_
                  try simp only [Act.put, List.setIfInBounds_toArray, List.set_cons_zero, List.set_cons_succ, List.getElem_toArray, List.getElem_cons_succ, List.getElem_cons_zero]
                  refine wpAnyH_take (i := 11) (v := undef) rfl (by kernel_rfl) (by kernel_rfl) (by kernel_rfl) (fun _ _ _ h => h) (Or.inr ⟨by rfl, rfl⟩) (by assumption) ?_
                  try simp only [Act.put, List.setIfInBounds_toArray, List.set_cons_zero, List.set_cons_succ, List.getElem_toArray, List.getElem_cons_succ, List.getElem_cons_zero]
                  refine wpAnyH_take (i := 12) (v := undef) rfl (by kernel_rfl) (by kernel_rfl) (by kernel_rfl) (fun _ _ _ h => h) (Or.inr ⟨by rfl, rfl⟩) (by assumption) ?_
                  try simp only [Act.put, List.setIfInBounds_toArray, List.set_cons_zero, List.set_cons_succ, List.getElem_toArray, List.getElem_cons_succ, List.getElem_cons_zero]
                  refine wpAnyH_take (i := 13) (v := undef) rfl (by kernel_rfl) (by kernel_rfl) (by kernel_rfl) (fun _ _ _ h => h) (Or.inr ⟨by rfl, rfl⟩) (by assumption) ?_
                  try simp only [Act.put, List.setIfInBounds_toArray, List.set_cons_zero, List.set_cons_succ, List.getElem_toArray, List.getElem_cons_succ, List.getElem_cons_zero]
                  refine wpAnyH_take (i := 14) (v := undef) rfl (by kernel_rfl) (by kernel_rfl) (by kernel_rfl) (fun _ _ _ h => h) (Or.inr ⟨by rfl, rfl⟩) (by assumption) ?_
                  try simp only [Act.put, List.setIfInBounds_toArray, List.set_cons_zero, List.set_cons_succ, List.getElem_toArray, List.getElem_cons_succ, List.getElem_cons_zero]
                  refine wpAnyH_take (i := 15) (v := undef) rfl (by kernel_rfl) (by kernel_rfl) (by kernel_rfl) (fun _ _ _ h => h) (Or.inr ⟨by rfl, rfl⟩) (by assumption) ?_
                  try simp only [Act.put, List.setIfInBounds_toArray, List.set_cons_zero, List.set_cons_succ, List.getElem_toArray, List.getElem_cons_succ, List.getElem_cons_zero]
                  refine wpAnyH_take (i := 16) (v := undef) rfl (by kernel_rfl) (by kernel_rfl) (by kernel_rfl) (fun _ _ _ h => h) (Or.inr ⟨by rfl, rfl⟩) (by assumption) ?_
                  try simp only [Act.put, List.setIfInBounds_toArray, List.set_cons_zero, List.set_cons_succ, List.getElem_toArray, List.getElem_cons_succ, List.getElem_cons_zero]
                  refine wpAnyH_take (i := 17) (v := undef) rfl (by kernel_rfl) (by kernel_rfl) (by kernel_rfl) (fun _ _ _ h => h) (Or.inr ⟨by rfl, rfl⟩) (by assumption) ?_
                  try simp only [Act.put, List.setIfInBounds_toArray, List.set_cons_zero, List.set_cons_succ, List.getElem_toArray, List.getElem_cons_succ, List.getElem_cons_zero]
                  refine wpAnyH_take (i := 18) (v := undef) rfl (by kernel_rfl) (by kernel_rfl) (by kernel_rfl) (fun _ _ _ h => h) (Or.inr ⟨by rfl, rfl⟩) (by assumption) ?_
                  try simp only [Act.put, List.setIfInBounds_toArray, List.set_cons_zero, List.set_cons_succ, List.getElem_toArray, List.getElem_cons_succ, List.getElem_cons_zero]
                  refine wpAnyH_take (i := 19) (v := undef) rfl (by kernel_rfl) (by kernel_rfl) (by kernel_rfl) (fun _ _ _ h => h) (Or.inr ⟨by rfl, rfl⟩) (by assumption) ?_
                  try simp only [Act.put, List.setIfInBounds_toArray, List.set_cons_zero, List.set_cons_succ, List.getElem_toArray, List.getElem_cons_succ, List.getElem_cons_zero]
                  refine wpAnyH_take (i := 20) (v := undef) rfl (by kernel_rfl) (by kernel_rfl) (by kernel_rfl) (fun _ _ _ h => h) (Or.inr ⟨by rfl, rfl⟩) (by assumption) ?_
                  try simp only [Act.put, List.setIfInBounds_toArray, List.set_cons_zero, List.set_cons_succ, List.getElem_toArray, List.getElem_cons_succ, List.getElem_cons_zero]
                  refine wpAnyH_take (i := 21) (v := undef) rfl (by kernel_rfl) (by kernel_rfl) (by kernel_rfl) (fun _ _ _ h => h) (Or.inr ⟨by rfl, rfl⟩) (by assumption) ?_
                  try simp only [Act.put, List.setIfInBounds_toArray, List.set_cons_zero, List.set_cons_succ, List.getElem_toArray, List.getElem_cons_succ, List.getElem_cons_zero]
                  refine wpAnyH_take (i := 22) (v := ?_) rfl (by kernel_rfl) (by kernel_rfl) (by kernel_rfl) (fun _ _ _ h => h) (Or.inl ⟨by rfl, ?_⟩) (by assumption) ?_
                  rotate_left
                  · intro w hSw; (try dsimp only at hSw); go_simp; all_goals with_reducible rfl
                  try simp only [Act.put, List.setIfInBounds_toArray, List.set_cons_zero, List.set_cons_succ, List.getElem_toArray, List.getElem_cons_succ, List.getElem_cons_zero]
                  refine wpAnyH_take (i := 23) (v := ?_) rfl (by kernel_rfl) (by kernel_rfl) (by kernel_rfl) (fun _ _ _ h => h) (Or.inl ⟨by rfl, ?_⟩) (by assumption) ?_
                  rotate_left
                  · intro w hSw; (try dsimp only at hSw); go_simp; all_goals with_reducible rfl
                  try simp only [Act.put, List.setIfInBounds_toArray, List.set_cons_zero, List.set_cons_succ, List.getElem_toArray, List.getElem_cons_succ, List.getElem_cons_zero]
                  refine wpAnyH_done (by kernel_rfl) ?_ _
                  go_wp2
                  go_roundg e'
                  case measure => omega
                  case rel => exact ⟨j + 1, by omega, by go_num, by rw [HCT.out, Bool.not_or, ← Bool.and_assoc, HH.out]; rfl, HBB.out.drew⟩
                | true =>
                  have HH := Lib.hid hh
                  clear hh
                  by_cases e0 : p = x
                  · have he : (p == x) = true := by simp [e0]
                    have HE : Hid ((x == p) = true) := Lib.hid (by simp [e0])
                    clear e0
                    go_wp2
                    go_region_held3 (fun w' => w'.cell? ⟨r, 0, none⟩ = some (.slice (some ⟨g, 0, none⟩) D.length cap) ∧ w'.cell? ⟨g, k * 3 + 1, none⟩ = some (.slice (some ⟨bp, op, none⟩) ps.length cp) ∧ w'.cell? ⟨bp, op + j, none⟩ = some (.string ⟨p.toArray⟩) ∧ w'.cell? ⟨g, i * 3, none⟩ = some (.string ⟨x.toArray⟩)) (first | exact ⟨c0, c1, c3, c4⟩) (fail)
                    go_wp2
                    go_roundg e'
                    case measure => omega
                    case rel => exact ⟨j + 1, by omega, by go_num, by rw [HCT.out, HE.out, Bool.or_true]; simp, HBB.out.drew⟩
                  · have he : (p == x) = false := by simp [e0]
                    have HE : Hid ((x == p) = false) := Lib.hid (by simp [Ne.symm e0])
                    clear e0
                    go_wp2
                    go_region_held3 (fun w' => w'.cell? ⟨r, 0, none⟩ = some (.slice (some ⟨g, 0, none⟩) D.length cap) ∧ w'.cell? ⟨g, k * 3 + 1, none⟩ = some (.slice (some ⟨bp, op, none⟩) ps.length cp) ∧ w'.cell? ⟨bp, op + j, none⟩ = some (.string ⟨p.toArray⟩) ∧ w'.cell? ⟨g, i * 3, none⟩ = some (.string ⟨x.toArray⟩)) (first | exact ⟨c0, c1, c3, c4⟩) (fail)
                    go_wp2
                    go_roundg e'
                    case measure => omega
                    case rel => exact ⟨j + 1, by omega, by go_num, by rw [HCT.out, HE.out, Bool.or_false, HH.out], HBB.out.drew⟩
end Go.Proofs.Ytccpblefebjadaa
