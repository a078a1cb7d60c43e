/- grapevinelaw15.DagChain. -/
import Derived.Test.YtccpblefebjadaaL3
import Derived.Test.YtccpblefebjadaaM6
import Derived.Laws.IdiomStrings
namespace Go.Proofs.Ytccpblefebjadaa
open Go.RowKit Go.Maps Go.WideMaps Go.Sort Go.Shelf
open Go.Proofs (encStr)
open M (Rising keys get Graph Stands Searched)

theorem Strs.lt {w : World} {S : Nat → Prop} {v : Value} {l : List Bs} (h : Strs w S v l) : Strs w (fun b => S b ∧ b < w.heap.size) v l := by
  obtain ⟨A, c, rfl, h1, h2⟩ := h
  exact ⟨A, c, rfl, fun hp => let ⟨b, off, e, hs, hl, hc⟩ := h1 hp; ⟨b, off, e, ⟨hs, hl⟩, hl, hc⟩, h2⟩

theorem cid_conv (w : World) (i : Nat) (hi : i < 100) : (convert 32 9 (.slice (some ⟨w.heap.size, 0, none⟩) 1 1)).run Try.prog (w.alloc (.cells #[.int .u8 (122 - (i : Int))] 5)) = .ok (.string ⟨(cid i).toArray⟩) (w.alloc (.cells #[.int .u8 (122 - (i : Int))] 5)) := by
  refine run_convert_bytes_back _ 32 9 5 ⟨w.heap.size, 0, none⟩ 1 (cid i) Try.underlying32 Try.underlying5 Try.underlying9 (fun j hj => ?_)
  obtain rfl : j = 0 := by simp [cid] at hj; exact hj
  have := World.alloc_heap_new w (.cells #[.int .u8 (122 - (i : Int))] 5)
  have e : ((UInt8.ofNat (122 - i)).toNat : Int) = 122 - (i : Int) := by
    rw [UInt8.toNat_ofNat']
    omega
  show (w.alloc _).cell? ⟨w.heap.size, 0, none⟩ = _
  unfold World.cell?
  rw [this]
  simp only [cid, List.getElem_cons_zero, e]
  rfl
theorem wants_succ (i : Nat) : wants (i + 1) = wants i ++ [cid i] := by simp [wants, List.range_succ]

/-- At a round of the second loop: m of them are added; B: where the heap ended. -/
def ChainSt (w : World) (g B k : Nat) (v : Value) (m : Nat) (wr : World) : Prop :=
  ∃ F : Nat → Prop, Stood w.heap.size w wr F g (chainG (k + 1) m) ∧ Strs wr (fun b => ¬ F b ∧ b < B) v (wants (k + 1)) ∧ B ≤ wr.heap.size
theorem ChainSt.next {w wr w' : World} {g B k m : Nat} {v : Value} (h : ChainSt w g B k v m wr) (hb : Below wr.heap.size wr w') : ChainSt w g B k v m w' := by
  obtain ⟨F, S, V, hB⟩ := h
  exact ⟨F, S.next hb, V.below hb, Nat.le_trans hB hb.size⟩
theorem wrap_small (d : Nat) (h : d ≤ 1000) : IntKind.i64.wrap (d : Int) = d := by
  simp [IntKind.wrap, IntKind.signed, IntKind.bits]
  omega
theorem wants_len (n : Nat) : (wants n).length = n := by simp [wants]
theorem wants_at {n i : Nat} (h : i < n) : (wants n).getD i [] = cid i := by simp [wants, List.getD_eq_getElem?_getD, h]
theorem ChainSt.cell {w wr : World} {g B k m b o c : Nat} (h : ChainSt w g B k (.slice (some ⟨b, o, none⟩) (k + 1) c) m wr) {j : Nat} (hj : j < k + 1) : wr.cell? ⟨b, o + j, none⟩ = some (encStr (cid j)) := by
  obtain ⟨F, S, V, hB⟩ := h
  have := strs_at V rfl (Below.refl _ _) (k := j) (by rw [wants_len]; exact hj)
  rwa [wants_at hj] at this
theorem cid_len (i : Nat) : (cid i).length ≤ 1000 := by simp [cid]

/-- Behind all: the graph, the slice that was wanted, the one that came. -/
def FinSt (w : World) (g k : Nat) (v u : Value) (wr : World) : Prop :=
  ∃ F : Nat → Prop, Stood w.heap.size w wr F g (chainAll (k + 1)) ∧ Strs wr (fun _ => True) v (wants (k + 1)) ∧ Strs wr (fun _ => True) u (wants (k + 1))
theorem FinSt.next {w wr w' : World} {g k : Nat} {v u : Value} (h : FinSt w g k v u wr) (hb : Below wr.heap.size wr w') : FinSt w g k v u w' := by
  obtain ⟨F, S, V, U⟩ := h
  exact ⟨F, S.next hb, V.below hb, U.below hb⟩
theorem FinSt.cell {w wr : World} {g k b o c : Nat} {u : Value} (h : FinSt w g k (.slice (some ⟨b, o, none⟩) (k + 1) c) u wr) {j : Nat} (hj : j < k + 1) : wr.cell? ⟨b, o + j, none⟩ = some (encStr (cid j)) := by
  obtain ⟨F, S, V, _⟩ := h
  have := strs_at V rfl (Below.refl _ _) (k := j) (by rw [wants_len]; exact hj)
  rwa [wants_at hj] at this

set_option maxRecDepth 100000 in
set_option maxHeartbeats 4000000 in
theorem chain_law (w : World) (many : Nat) (hmany : many ≤ 255) : Calls Try.prog 4 #[.int .u8 many] w (RetBel (.bool true) w) := by
  have hmod : (many : Int).tmod 12 = ((many % 12 : Nat) : Int) := by
    rw [Int.natCast_emod]; exact Int.tmod_eq_emod_of_nonneg (by omega)
  have hk : many % 12 < 12 := Nat.mod_lt _ (by omega)
  generalize many % 12 = k at *
  obtain ⟨i0, hi0, hz0, hz1, hz2⟩ := info_parts info30
  go_enter Try.func4, Try.ntmps4
  go_wp2_with fail
  refine (awake_walk w).mono ?_
  rintro e w1 ⟨rfl, hb1⟩
  have HB := Lib.hid hb1
  clear hb1
  go_wp2_with fail
  refine (new_dag _).mono ?_
  rintro e w2 hd
  obtain rfl := hd.1
  have S2 := Stood.new hd
  have S2' := Lib.hid (show Stood w.heap.size w w2 _ _ Graph.empty from ⟨S2.dag, fun i hi => Nat.le_trans HB.out.size (S2.lo i hi), HB.out.trans (S2.bel.mono HB.out.size), Nat.le_trans HB.out.size S2.at'⟩)
  clear hd S2
  go_wp2
  go_loopg [6, 7] (k + 1) (fun d s6 s7 wr => ∃ i : Nat, i + d = k + 1 ∧ s7 = .int .i64 i ∧ wr.ownsRow w2.heap.size 30 1 s6 i ((wants i).map encStr) ∧ Below w2.heap.size w2 wr)
  case atStart => exact ⟨0, by omega, rfl, World.ownsRow_nil _ _ _ _, Below.refl _ _⟩
  case round =>
    obtain ⟨i, hi, rfl, ho, hb⟩ := hrel
    cases gk with
    | zero =>
      obtain rfl : i = k + 1 := by omega
      have hf : ¬ (((k + 1 : Nat) : Int) < 1 + (k : Int)) := by omega
      have hV := (Strs.of_own (l := wants (k + 1)) (by rw [wants_len]; exact ho) (fun x hx => by obtain ⟨j, _, rfl⟩ := List.mem_map.1 hx; exact cid_len j) (by rw [wants_len]; omega)).lt
      have hst : ChainSt w (w1.heap.size + 3) wr.heap.size k u6 0 wr :=
        ⟨_, S2'.out.next hb, hV.mono (fun b hb' => ⟨fun hF => by have := S2'.out.dag.lt b hF; omega, hb'.2⟩), Nat.le_refl _⟩
      obtain ⟨Aw, cw, rfl, _⟩ := strs_form hV
      rw [wants_len] at hst ⊢
      have HST := Lib.hid hst
      have hB0 : ∃ B0, B0 = wr.heap.size := ⟨_, rfl⟩
      obtain ⟨B0, hB0⟩ := hB0
      rw [← hB0] at HST
      clear hst hV ho hb S2' hB0
      have hc0 : (1 : Int) + (k : Int) - 1 = (k : Int) := by omega
      go_wp2
      go_loopg [8, 9] k (fun d s8 s9 wx => d ≤ k ∧ s8 = .int .i64 d ∧ ChainSt w (w1.heap.size + 3) B0 k (.slice Aw (k + 1) cw) (k - d) wx)
      case atStart => exact ⟨Nat.le_refl _, rfl, by rw [Nat.sub_self]; exact HST.out⟩
      case round =>
        obtain ⟨hdk, rfl, hst⟩ := hrel
        cases gk with
        | zero =>
          have hf2 : ¬ (((0 : Nat) : Int) > 0) := by omega
          rw [Nat.sub_zero] at hst
          obtain ⟨F, S, V, hB⟩ := hst
          obtain ⟨bw, ow, rfl⟩ := strs_addr (n := k + 1) V (by rw [wants_len]; omega)
          have g1 := strs_at V rfl (Below.refl _ _) (k := 0) (by rw [wants_len]; omega)
          rw [wants_at (by omega), Nat.add_zero] at g1
          have hcnt := (chain_cnt (n := k + 1) k).2
          have C1 := S.add (by omega) (cid 0) (cid_len _) (strs_nil wr)
          obtain ⟨e1, e2, e3, e4, e5⟩ := chain_end (n := k + 1) (by omega) (by omega)
          rw [show k + 1 - 1 = k by omega] at e1 e5
          have e6 : ((chainG (k + 1) k).add (cid 0) []).1 = chainAll (k + 1) := rfl
          rw [e1, e6] at C1
          have C1' : Calls Try.prog (15 : Nat) #[.pointer (some ⟨w1.heap.size + 3, 0, none⟩), encStr (cid 0), .slice none 0 0] wr (fun e w' => ∃ u, e = .returned u ∧ FinSt w (w1.heap.size + 3) k (.slice (some ⟨bw, ow, none⟩) (k + 1) cw) u w') := by
            refine C1.mono ?_
            rintro e w' ⟨u, rfl, F', S', hu, _, hfr⟩
            exact ⟨u, rfl, F', S', (V.frame hfr (fun i _ h hf => h.1 hf)).mono (fun _ _ => trivial), hu.mono (fun _ _ => trivial)⟩
          have HE := Lib.hid (And.intro e2 (And.intro e3 (And.intro e4 e5)))
          clear C1 S V hB hcnt e1 e2 e3 e4 e5 e6
          simp only [encStr_eq] at g1 C1'
          have HC1 := Lib.hid C1'
          clear C1'
          generalize hc00 : cid 0 = x0 at *
          clear hc00
          go_wp2_with fail
          refine HC1.out.mono ?_
          rintro e w5 ⟨u, rfl, H5⟩
          have HF := Lib.hid H5
          clear H5 HC1
          go_wp2
          go_loopg [11] (k + 1) (fun d s11 wx => ∃ i : Nat, i + d = k + 1 ∧ s11 = .int .i64 i ∧ Aside (FinSt w (w1.heap.size + 3) k (.slice (some ⟨bw, ow, none⟩) (k + 1) cw) u wx))
          case atStart => exact ⟨0, by omega, rfl, HF.out⟩
          case round =>
            obtain ⟨i, hi, rfl, H⟩ := hrel
            cases gk with
            | zero =>
              obtain rfl : i = k + 1 := by omega
              have hf3 : ¬ (((k + 1 : Nat) : Int) < 1 + (k : Int)) := by omega
              have hxk : ∃ xk, cid k = xk := ⟨_, rfl⟩
              obtain ⟨xk, hxk⟩ := hxk
              have hxl : xk.length ≤ 1000 := by rw [← hxk]; exact cid_len k
              have hone : ∀ W : World, FinSt w (w1.heap.size + 3) k (.slice (some ⟨bw, ow, none⟩) (k + 1) cw) u W → ∀ o : Obj, W.cell? ⟨bw, ow + k, none⟩ = some (.string ⟨xk.toArray⟩) ∧ (W.alloc o).cell? ⟨bw, ow + k, none⟩ = some (.string ⟨xk.toArray⟩) := fun W h o => by
                have h1 := h.cell (j := k) (by omega)
                have h2 := (h.next ((Below.refl _ _).alloc (Nat.le_refl _) o)).cell (j := k) (by omega)
                rw [hxk] at h1 h2
                exact ⟨h1, h2⟩
              have e5 := HE.out.2.2.2
              rw [hxk] at e5
              have HD := H.out.next (Below.refl _ _).drew
              have f5 := (hone _ HD (.map #[] 0)).1
              have hwr := wrap_small k (by omega)
              have hb1 : (k : Int) < (k : Int) + 1 := by omega
              have hb0 : (0 : Int) ≤ (k : Int) := by omega
              have D1 : Calls Try.prog (18 : Nat) #[u, .slice (some ⟨bw, ow, none⟩) (k + 1) cw] wr.drew (fun e w' => e = .returned (.bool true) ∧ w'.cell? ⟨bw, ow + k, none⟩ = some (.string ⟨xk.toArray⟩) ∧ Aside (∀ o, (w'.alloc o).cell? ⟨bw, ow + k, none⟩ = some (.string ⟨xk.toArray⟩)) ∧ Aside (FinSt w (w1.heap.size + 3) k (.slice (some ⟨bw, ow, none⟩) (k + 1) cw) u w')) := by
                obtain ⟨F6, S6, V6, U6⟩ := id HD
                refine (ids_same _ U6 V6).mono ?_
                rintro e w' ⟨rfl, hb⟩
                have hch := HD.next hb
                exact ⟨by simp, (hone _ hch (.map #[] 0)).1, (fun o => (hone _ hch o).2), hch⟩
              have D2 : ∀ W : World, Aside (FinSt w (w1.heap.size + 3) k (.slice (some ⟨bw, ow, none⟩) (k + 1) cw) u W) → Calls Try.prog (17 : Nat) #[.pointer (some ⟨w1.heap.size + 3, 0, none⟩)] W (fun e w' => ∃ A c, e = .returned (.slice A 0 c) ∧ w'.cell? ⟨bw, ow + k, none⟩ = some (.string ⟨xk.toArray⟩) ∧ Aside (∀ o, (w'.alloc o).cell? ⟨bw, ow + k, none⟩ = some (.string ⟨xk.toArray⟩)) ∧ Aside (FinSt w (w1.heap.size + 3) k (.slice (some ⟨bw, ow, none⟩) (k + 1) cw) u w')) := by
                intro W hW
                obtain ⟨F6, S6, V6, U6⟩ := id hW
                refine S6.waiting.mono ?_
                rintro e w' ⟨u', rfl, _, hu, hb⟩
                rw [HE.out.2.1] at hu
                obtain ⟨A, c, rfl, _⟩ := hu
                have hch := hW.out.next hb
                exact ⟨A, c, rfl, (hone _ hch (.map #[] 0)).1, (fun o => (hone _ hch o).2), hch⟩
              have D3 : ∀ W : World, Aside (FinSt w (w1.heap.size + 3) k (.slice (some ⟨bw, ow, none⟩) (k + 1) cw) u W) → Calls Try.prog (19 : Nat) #[.pointer (some ⟨w1.heap.size + 3, 0, none⟩)] W (fun e w' => ∃ A c, e = .returned (.slice A 0 c) ∧ w'.cell? ⟨bw, ow + k, none⟩ = some (.string ⟨xk.toArray⟩) ∧ Aside (∀ o, (w'.alloc o).cell? ⟨bw, ow + k, none⟩ = some (.string ⟨xk.toArray⟩)) ∧ Aside (FinSt w (w1.heap.size + 3) k (.slice (some ⟨bw, ow, none⟩) (k + 1) cw) u w')) := by
                intro W hW
                obtain ⟨F6, S6, V6, U6⟩ := id hW
                refine (S6.lacks (by rw [HE.out.2.2.1]; simp)).mono ?_
                rintro e w' ⟨u', rfl, _, hu, hb⟩
                rw [HE.out.2.2.1] at hu
                obtain ⟨A, c, rfl, _⟩ := hu
                have hch := hW.out.next hb
                exact ⟨A, c, rfl, (hone _ hch (.map #[] 0)).1, (fun o => (hone _ hch o).2), hch⟩
              have D4 : ∀ W : World, Aside (FinSt w (w1.heap.size + 3) k (.slice (some ⟨bw, ow, none⟩) (k + 1) cw) u W) → Calls Try.prog (12 : Nat) #[.pointer (some ⟨w1.heap.size + 3, 0, none⟩)] W (fun e w' => ∃ A c, e = .returned (.slice A 1 c) ∧ w'.cell? ⟨bw, ow + k, none⟩ = some (.string ⟨xk.toArray⟩) ∧ Aside (∀ o, (w'.alloc o).cell? ⟨bw, ow + k, none⟩ = some (.string ⟨xk.toArray⟩)) ∧ Aside (FinSt w (w1.heap.size + 3) k (.slice (some ⟨bw, ow, none⟩) (k + 1) cw) u w' ∧ Strs w' (fun _ => True) (.slice A 1 c) [xk])) := by
                intro W hW
                obtain ⟨F6, S6, V6, U6⟩ := id hW
                refine S6.heads.mono ?_
                rintro e w' ⟨u', rfl, _, hu, hb⟩
                rw [e5] at hu
                have hu' := hu.mono (T := fun _ => True) (fun _ _ => trivial)
                obtain ⟨A, c, rfl, _⟩ := hu
                have hch := hW.out.next hb
                exact ⟨A, c, rfl, (hone _ hch (.map #[] 0)).1, (fun o => (hone _ hch o).2), hch, hu'⟩
              have D4b : ∀ W : World, Aside (FinSt w (w1.heap.size + 3) k (.slice (some ⟨bw, ow, none⟩) (k + 1) cw) u W) → Calls Try.prog (12 : Nat) #[.pointer (some ⟨w1.heap.size + 3, 0, none⟩)] (W.alloc (.cells #[.string ⟨xk.toArray⟩] 30)) (fun e w' => ∃ A c, e = .returned (.slice A 1 c) ∧ w'.cell? ⟨bw, ow + k, none⟩ = some (.string ⟨xk.toArray⟩) ∧ Aside (FinSt w (w1.heap.size + 3) k (.slice (some ⟨bw, ow, none⟩) (k + 1) cw) u w' ∧ Strs w' (fun _ => True) (.slice A 1 c) [xk] ∧ Strs w' (fun _ => True) (.slice (some ⟨W.heap.size, 0, none⟩) 1 1) [xk])) := by
                intro W hW
                have hba : Below W.heap.size W (W.alloc (.cells #[encStr xk] 30)) := (Below.refl _ _).alloc (Nat.le_refl _) _
                have hW2 := hW.out.next hba
                obtain ⟨F6, S6, V6, U6⟩ := id hW2
                refine S6.heads.mono ?_
                rintro e w' ⟨u', rfl, _, hu, hb⟩
                rw [e5] at hu
                have hu' := hu.mono (T := fun _ => True) (fun _ _ => trivial)
                obtain ⟨A, c, rfl, _⟩ := hu
                have hch := hW2.next hb
                exact ⟨A, c, rfl, (hone _ hch (.map #[] 0)).1, hch, hu', ((strs_one W xk hxl).below hb).mono (fun _ _ => trivial)⟩
              have D5 : ∀ (W : World) (A : Option Addr) (c : Nat), Aside (FinSt w (w1.heap.size + 3) k (.slice (some ⟨bw, ow, none⟩) (k + 1) cw) u W ∧ Strs W (fun _ => True) (.slice A 1 c) [xk]) → Calls Try.prog (18 : Nat) #[.slice A 1 c, .slice (some ⟨W.heap.size, 0, none⟩) 1 1] (W.alloc (.cells #[.string ⟨xk.toArray⟩] 30)) (fun e w' => e = .returned (.bool true) ∧ w'.cell? ⟨bw, ow + k, none⟩ = some (.string ⟨xk.toArray⟩) ∧ Aside (FinSt w (w1.heap.size + 3) k (.slice (some ⟨bw, ow, none⟩) (k + 1) cw) u w')) := by
                rintro W A c ⟨hW, hu⟩
                have hba : Below W.heap.size W (W.alloc (.cells #[encStr xk] 30)) := (Below.refl _ _).alloc (Nat.le_refl _) _
                refine (ids_same _ (hu.below hba) (strs_one W xk hxl)).mono ?_
                rintro e w' ⟨rfl, hb⟩
                have hch := (hW.next hba).next hb
                exact ⟨by simp, (hone _ hch (.map #[] 0)).1, hch⟩
              have D5b : ∀ (W : World) (A B : Option Addr) (c : Nat), Aside (FinSt w (w1.heap.size + 3) k (.slice (some ⟨bw, ow, none⟩) (k + 1) cw) u W ∧ Strs W (fun _ => True) (.slice A 1 c) [xk] ∧ Strs W (fun _ => True) (.slice B 1 1) [xk]) → Calls Try.prog (18 : Nat) #[.slice A 1 c, .slice B 1 1] W (fun e w' => e = .returned (.bool true) ∧ w'.cell? ⟨bw, ow + k, none⟩ = some (.string ⟨xk.toArray⟩) ∧ Aside (FinSt w (w1.heap.size + 3) k (.slice (some ⟨bw, ow, none⟩) (k + 1) cw) u w')) := by
                rintro W A B c ⟨hW, hu, hv⟩
                refine (ids_same _ hu hv).mono ?_
                rintro e w' ⟨rfl, hb⟩
                have hch := hW.next hb
                exact ⟨by simp, (hone _ hch (.map #[] 0)).1, hch⟩
              have HD1 := Lib.hid D1
              have HD2 := Lib.hid D2
              have HD3 := Lib.hid D3
              have HD4 := Lib.hid D4
              have HD4b := Lib.hid D4b
              have HD5 := Lib.hid D5
              have HD5b := Lib.hid D5b
              clear D1 D2 D3 D4 D4b D5 D5b hone e5 HD hxk hxl
              go_wp2
              go_region_held3 (fun w' => w'.cell? ⟨bw, ow + k, none⟩ = some (.string ⟨xk.toArray⟩)) (first | exact f5 | exact f6 | exact f6o.out _ | exact f7 | exact f7o.out _ | exact f8 | exact f8o.out _ | exact f9 | exact f9o.out _ | exact f10)
                (first
                  | (go_at_call 17; (with_reducible refine (HD2.out _ H6).mono ?_); rintro e w7 ⟨A7, c7, rfl, f7, f7o, H7⟩)
                  | (go_at_call 19; (with_reducible refine (HD3.out _ H7).mono ?_); rintro e w8 ⟨A8, c8, rfl, f8, f8o, H8⟩)
                  | (go_at_call 12; (with_reducible refine (HD4.out _ H8).mono ?_); rintro e w9 ⟨A9, c9, rfl, f9, f9o, H9⟩)
                  | (go_at_call 12; (with_reducible refine (HD4b.out _ H8).mono ?_); rintro e w9 ⟨A9, c9, rfl, f9, H9⟩)
                  | (go_at_call 18; (with_reducible refine (HD5.out _ _ _ H9).mono ?_); rintro e w10 ⟨rfl, f10, H10⟩)
                  | (go_at_call 18; (with_reducible refine (HD5b.out _ _ _ _ H9).mono ?_); rintro e w10 ⟨rfl, f10, H10⟩)
                  | (go_at_call 18; (with_reducible refine HD1.out.mono ?_); rintro e w6 ⟨rfl, f6, f6o, H6⟩))
              all_goals obtain ⟨F10, S10, _, _⟩ := H10
              all_goals have SB := Lib.hid S10.bel
              all_goals clear S10
              all_goals go_wp2
              all_goals go_ret
              all_goals exact ⟨rfl, SB.out⟩
            | succ d =>
              have hf3 : ((i : Int) < 1 + (k : Int)) := by omega
              have hb1 : (i : Int) < (k : Int) + 1 := by omega
              have g1 := H.out.cell (j := i) (by omega)
              obtain ⟨F6, S6, _, _⟩ := id H.out
              have C2 := S6.level (cid i) (cid_len i)
              rw [HE.out.1 i (by omega)] at C2
              clear S6
              generalize cid i = xi at *
              simp only [encStr_eq] at g1 C2
              have HC2 := Lib.hid C2
              clear C2
              go_wp2_with fail
              refine HC2.out.mono ?_
              rintro e w6 ⟨rfl, rfl⟩
              go_wp2
              go_roundg d
              case measure => omega
              case rel => exact ⟨i + 1, by omega, by go_num, H⟩
        | succ d =>
          have hf2 : (((d + 1 : Nat) : Int) > 0) := by omega
          obtain ⟨F, S, V, hB⟩ := hst
          obtain ⟨bw, ow, rfl⟩ := strs_addr (n := k + 1) V (by rw [wants_len]; omega)
          have SD := S.drew
          have VD := V.below (Below.refl _ _).drew
          have g1 := strs_at VD rfl (Below.refl _ _) (k := d + 1) (by rw [wants_len]; omega)
          have g2 := strs_at VD rfl (Below.refl _ _) (k := d) (by rw [wants_len]; omega)
          have hba : Below wr.heap.size wr (wr.alloc (.cells #[encStr (cid d)] 30)).drew := ((Below.refl _ _).alloc (Nat.le_refl _) _).drew
          have SA := S.next hba
          have VA := V.below hba
          have g3 := strs_at VA rfl (Below.refl _ _) (k := d + 1) (by rw [wants_len]; omega)
          have g4 := strs_at VA rfl (Below.refl _ _) (k := d) (by rw [wants_len]; omega)
          have hcnt := (chain_cnt (n := k + 1) (k - (d + 1))).2
          have C1 := SA.add (by omega) (cid (d + 1)) (cid_len _) ((strs_one wr (cid d) (cid_len d)).below (Below.refl _ _).drew)
          obtain ⟨e1, e2, e3, e4⟩ := chain_step (n := k + 1) (m := k - (d + 1)) (by omega) (by omega)
          rw [show k + 1 - 1 - (k - (d + 1)) = d + 1 by omega, show k + 1 - 2 - (k - (d + 1)) = d by omega] at e1
          rw [show k + 1 - 2 - (k - (d + 1)) = d by omega] at e4
          have e5 : ((chainG (k + 1) (k - (d + 1))).add (cid (d + 1)) [cid d]).1 = chainG (k + 1) (k - d) := by
            rw [show k - d = (k - (d + 1)) + 1 by omega]
            show _ = ((chainG (k + 1) (k - (d + 1))).add (cid (k + 1 - 1 - (k - (d + 1)))) [cid (k + 1 - 2 - (k - (d + 1)))]).1
            rw [show k + 1 - 1 - (k - (d + 1)) = d + 1 by omega, show k + 1 - 2 - (k - (d + 1)) = d by omega]
          rw [e1, e5] at C1
          rw [show k - (d + 1) + 1 = k - d by omega] at e2 e3 e4
          have C1' : Calls Try.prog (15 : Nat) #[.pointer (some ⟨w1.heap.size + 3, 0, none⟩), encStr (cid (d + 1)), .slice (some ⟨wr.heap.size, 0, none⟩) 1 1] (wr.alloc (.cells #[encStr (cid d)] 30)).drew (fun e w' => ∃ A c, e = .returned (.slice A 0 c) ∧ w'.cell? ⟨bw, ow + (d + 1), none⟩ = some (encStr (cid (d + 1))) ∧ w'.cell? ⟨bw, ow + d, none⟩ = some (encStr (cid d)) ∧ Aside (ChainSt w (w1.heap.size + 3) B0 k (.slice (some ⟨bw, ow, none⟩) (k + 1) cw) (k - d) w')) := by
            refine C1.mono ?_
            rintro e w' ⟨u, rfl, F', S', hu, hF', hfr⟩
            obtain ⟨A, c, rfl, _⟩ := hu
            have VV := VA.frame hfr (fun i _ h hf => h.1 hf)
            have hsz : B0 ≤ (wr.alloc (.cells #[encStr (cid d)] 30)).drew.heap.size := Nat.le_trans hB hba.size
            have h1 := strs_at VV rfl (Below.refl _ _) (k := d + 1) (by rw [wants_len]; omega)
            have h2 := strs_at VV rfl (Below.refl _ _) (k := d) (by rw [wants_len]; omega)
            rw [wants_at (by omega)] at h1 h2
            exact ⟨A, c, rfl, h1, h2, F', S', VV.mono (fun b hb => ⟨fun hf => (hF' b hf).elim hb.1 (fun h => by have := hb.2; omega), hb.2⟩), Nat.le_trans hsz hfr.size⟩
          rw [wants_at (by omega)] at g1 g2 g3 g4
          have HE := Lib.hid (And.intro e2 (And.intro e3 e4))
          clear S V SD VD hB C1 e1 e2 e3 e4 e5 hba SA VA hcnt
          obtain ⟨j, hj⟩ : ∃ j, j = d + 1 := ⟨_, rfl⟩
          rw [← hj] at g1 g3 hf2 C1' ⊢
          have hj1 : (j : Int) - 1 = (d : Int) := by omega
          have hb1 : (j : Int) < (k : Int) + 1 := by omega
          have hb0 : (0 : Int) ≤ (j : Int) - 1 := by omega
          have hb3 : (j : Int) - 1 < (k : Int) + 1 := by omega
          have hb2 : (d : Int) < (k : Int) + 1 := by omega
          have HJ := Lib.hid hj
          have hwr := wrap_small d (by omega)
          have hjk : j ≤ 12 := by omega
          clear hj
          generalize hcj : cid j = xj at *
          generalize hcd : cid d = xd at *
          have HCJ := Lib.hid (And.intro hcj hcd)
          simp only [encStr_eq] at g1 g2 g3 g4 C1'
          have HC1 := Lib.hid C1'
          clear hcj hcd C1'
          go_wp2
          go_region_held3 (fun w' => w'.cell? ⟨bw, ow + j, none⟩ = some (.string ⟨xj.toArray⟩) ∧ w'.cell? ⟨bw, ow + d, none⟩ = some (.string ⟨xd.toArray⟩)) (first | exact ⟨g1, g2⟩ | exact ⟨g3, g4⟩ | exact ⟨g5, g6⟩)
            (first | (go_at_call 15; (with_reducible refine HC1.out.mono ?_); rintro e w5 ⟨A5, c5, rfl, g5, g6, H5⟩))
          go_wp2
          obtain ⟨F5, S5, V5, hB5⟩ := id H5
          have f5 := (H5.out.next (Below.refl _ _).drew).cell (j := d) (by omega)
          obtain ⟨m, hm⟩ : ∃ m : Nat, m = k - d := ⟨_, rfl⟩
          rw [← hm] at HE S5 H5
          have hmi : (m : Int) = 1 + (k : Int) - (j : Int) := by have := HJ.out; omega
          have hwr2 : IntKind.i64.wrap (1 + (k : Int) - (j : Int)) = 1 + (k : Int) - (j : Int) := by rw [← hmi]; exact wrap_small m (by omega)
          have C2 := many_dag S5.drew.dag
          rw [HE.out.1] at C2
          have hone : ∀ W : World, ChainSt w (w1.heap.size + 3) B0 k (.slice (some ⟨bw, ow, none⟩) (k + 1) cw) m W → ∀ o : Obj, W.cell? ⟨bw, ow + d, none⟩ = some (.string ⟨xd.toArray⟩) ∧ (W.alloc o).cell? ⟨bw, ow + d, none⟩ = some (.string ⟨xd.toArray⟩) := fun W h o => by
            have h1 := h.cell (j := d) (by omega)
            have h2 := (h.next ((Below.refl _ _).alloc (Nat.le_refl _) o)).cell (j := d) (by omega)
            rw [HCJ.out.2] at h1 h2
            exact ⟨h1, h2⟩
          have C3 : Calls Try.prog (17 : Nat) #[.pointer (some ⟨w1.heap.size + 3, 0, none⟩)] w5.drew (fun e w' => ∃ A c, e = .returned (.slice A m c) ∧ w'.cell? ⟨bw, ow + d, none⟩ = some (.string ⟨xd.toArray⟩) ∧ Aside (∀ o, (w'.alloc o).cell? ⟨bw, ow + d, none⟩ = some (.string ⟨xd.toArray⟩)) ∧ Aside (ChainSt w (w1.heap.size + 3) B0 k (.slice (some ⟨bw, ow, none⟩) (k + 1) cw) m w')) := by
            refine (S5.drew.waiting).mono ?_
            rintro e w' ⟨u, rfl, _, hu, hb⟩
            obtain ⟨A, c, rfl, _⟩ := hu
            have hch := (H5.out.next (Below.refl _ _).drew).next hb
            have hlen := HE.out.2.1
            exact ⟨A, c, by rw [hlen], (hone _ hch (.map #[] 0)).1, (fun o => (hone _ hch o).2), hch⟩
          have C4 : ∀ W : World, Aside (ChainSt w (w1.heap.size + 3) B0 k (.slice (some ⟨bw, ow, none⟩) (k + 1) cw) m W) → Calls Try.prog (19 : Nat) #[.pointer (some ⟨w1.heap.size + 3, 0, none⟩)] W (fun e w' => ∃ A c, e = .returned (.slice A 1 c) ∧ w'.cell? ⟨bw, ow + d, none⟩ = some (.string ⟨xd.toArray⟩) ∧ Aside (∀ o, (w'.alloc o).cell? ⟨bw, ow + d, none⟩ = some (.string ⟨xd.toArray⟩)) ∧ Aside (ChainSt w (w1.heap.size + 3) B0 k (.slice (some ⟨bw, ow, none⟩) (k + 1) cw) m w' ∧ Strs w' (fun _ => True) (.slice A 1 c) [xd])) := by
            intro W hW
            obtain ⟨FW, SW, VW, hBW⟩ := id hW
            have hlk := HE.out.2.2
            refine (SW.lacks (by rw [hlk]; simp)).mono ?_
            rintro e w' ⟨u, rfl, _, hu, hb⟩
            rw [hlk] at hu
            have hu' := hu.mono (T := fun _ => True) (fun _ _ => trivial)
            obtain ⟨A, c, rfl, _⟩ := hu
            have hch := hW.out.next hb
            exact ⟨A, c, rfl, (hone _ hch (.map #[] 0)).1, (fun o => (hone _ hch o).2), hch, hu'⟩
          have C5 : ∀ (W : World) (A : Option Addr) (c : Nat), Aside (ChainSt w (w1.heap.size + 3) B0 k (.slice (some ⟨bw, ow, none⟩) (k + 1) cw) m W ∧ Strs W (fun _ => True) (.slice A 1 c) [xd]) → Calls Try.prog (18 : Nat) #[.slice A 1 c, .slice (some ⟨W.heap.size, 0, none⟩) 1 1] (W.alloc (.cells #[.string ⟨xd.toArray⟩] 30)) (fun e w' => e = .returned (.bool true) ∧ w'.cell? ⟨bw, ow + d, none⟩ = some (.string ⟨xd.toArray⟩) ∧ Aside (ChainSt w (w1.heap.size + 3) B0 k (.slice (some ⟨bw, ow, none⟩) (k + 1) cw) m w')) := by
            rintro W A c ⟨hW, hu⟩
            have hba : Below W.heap.size W (W.alloc (.cells #[encStr xd] 30)) := (Below.refl _ _).alloc (Nat.le_refl _) _
            have hxl : xd.length ≤ 1000 := by rw [← HCJ.out.2]; exact cid_len d
            refine (ids_same _ (hu.below hba) (strs_one W xd hxl)).mono ?_
            rintro e w' ⟨rfl, hb⟩
            have hch := (hW.next hba).next hb
            exact ⟨by simp, (hone _ hch (.map #[] 0)).1, hch⟩
          have C4b : ∀ W : World, Aside (ChainSt w (w1.heap.size + 3) B0 k (.slice (some ⟨bw, ow, none⟩) (k + 1) cw) m W) → Calls Try.prog (19 : Nat) #[.pointer (some ⟨w1.heap.size + 3, 0, none⟩)] (W.alloc (.cells #[.string ⟨xd.toArray⟩] 30)) (fun e w' => ∃ A c, e = .returned (.slice A 1 c) ∧ w'.cell? ⟨bw, ow + d, none⟩ = some (.string ⟨xd.toArray⟩) ∧ Aside (ChainSt w (w1.heap.size + 3) B0 k (.slice (some ⟨bw, ow, none⟩) (k + 1) cw) m w' ∧ Strs w' (fun _ => True) (.slice A 1 c) [xd] ∧ Strs w' (fun _ => True) (.slice (some ⟨W.heap.size, 0, none⟩) 1 1) [xd])) := by
            intro W hW
            have hba : Below W.heap.size W (W.alloc (.cells #[encStr xd] 30)) := (Below.refl _ _).alloc (Nat.le_refl _) _
            have hW2 := hW.out.next hba
            obtain ⟨FW, SW, VW, hBW⟩ := id hW2
            have hlk := HE.out.2.2
            refine (SW.lacks (by rw [hlk]; simp)).mono ?_
            rintro e w' ⟨u, rfl, _, hu, hb⟩
            rw [hlk] at hu
            have hu' := hu.mono (T := fun _ => True) (fun _ _ => trivial)
            obtain ⟨A, c, rfl, _⟩ := hu
            have hch := hW2.next hb
            have hxl : xd.length ≤ 1000 := by rw [← HCJ.out.2]; exact cid_len d
            exact ⟨A, c, rfl, (hone _ hch (.map #[] 0)).1, hch, hu', ((strs_one W xd hxl).below hb).mono (fun _ _ => trivial)⟩
          have C5b : ∀ (W : World) (A B : Option Addr) (c : Nat), Aside (ChainSt w (w1.heap.size + 3) B0 k (.slice (some ⟨bw, ow, none⟩) (k + 1) cw) m W ∧ Strs W (fun _ => True) (.slice A 1 c) [xd] ∧ Strs W (fun _ => True) (.slice B 1 1) [xd]) → Calls Try.prog (18 : Nat) #[.slice A 1 c, .slice B 1 1] W (fun e w' => e = .returned (.bool true) ∧ w'.cell? ⟨bw, ow + d, none⟩ = some (.string ⟨xd.toArray⟩) ∧ Aside (ChainSt w (w1.heap.size + 3) B0 k (.slice (some ⟨bw, ow, none⟩) (k + 1) cw) m w')) := by
            rintro W A B c ⟨hW, hu, hv⟩
            refine (ids_same _ hu hv).mono ?_
            rintro e w' ⟨rfl, hb⟩
            have hch := hW.next hb
            exact ⟨by simp, (hone _ hch (.map #[] 0)).1, hch⟩
          rw [HCJ.out.2] at f5
          simp only [encStr_eq] at f5
          have HC2 : Hid (Calls Try.prog (16 : Nat) _ _ _) := Lib.hid C2
          have HC3 := Lib.hid C3
          have HC4 := Lib.hid C4
          have HC5 := Lib.hid C5
          have HC4b := Lib.hid C4b
          have HC5b := Lib.hid C5b
          have HM := Lib.hid hm
          clear C2 C3 C4 C5 C4b C5b g1 g2 g3 g4 g5 g6 S5 V5 hB5 hm hone HC1
          go_region_held3 (fun w' => w'.cell? ⟨bw, ow + d, none⟩ = some (.string ⟨xd.toArray⟩)) (first | exact f5 | exact f6 | exact f6o.out _ | exact f7 | exact f7o.out _ | exact f8)
            (first
              | (go_at_call 16; (with_reducible refine HC2.out.mono ?_); rintro e w6 ⟨rfl, rfl⟩)
              | (go_at_call 17; (with_reducible refine HC3.out.mono ?_); rintro e w6 ⟨A6, c6, rfl, f6, f6o, H6⟩)
              | (go_at_call 19; (with_reducible refine (HC4.out _ H6).mono ?_); rintro e w7 ⟨A7, c7, rfl, f7, f7o, H7⟩)
              | (go_at_call 19; (with_reducible refine (HC4b.out _ H6).mono ?_); rintro e w7 ⟨A7, c7, rfl, f7, H7⟩)
              | (go_at_call 18; (with_reducible refine (HC5.out _ _ _ H7).mono ?_); rintro e w8 ⟨rfl, f8, H8⟩)
              | (go_at_call 18; (with_reducible refine (HC5b.out _ _ _ _ H7).mono ?_); rintro e w8 ⟨rfl, f8, H8⟩))
          all_goals go_wp2
          all_goals go_roundg d
          all_goals first
            | exact ⟨by omega, by have := HJ.out; go_num, by rw [← HM.out]; exact H8⟩
            | omega
    | succ d =>
      have hf : ((i : Int) < 1 + (k : Int)) := by omega
      have hconv := cid_conv wr i (by omega)
      have hbs := hb.size
      have HW := Lib.hid hb
      have HSU := Lib.hid (wants_succ i)
      clear hb
      go_wp2_with (at_builtin; refine wpList_append_own _ rfl _ _ 27 rfl w2.heap.size 30 i0 (.string ⟨#[]⟩) 1 16 Try.underlying27 hi0 hz0 hz1 hz2 rfl (by decide) _ _ _ rfl ((ho.alloc _).alloc _) ⟨wr.heap.size + 1, 0, none⟩ 1 1 [.string ⟨(cid i).toArray⟩] rfl rfl (by simpa using cell_one_new (wr.alloc (.cells #[.int .u8 (122 - (i : Int))] 5)) (.string ⟨(cid i).toArray⟩) 30) (by simp [Value.oneCell']) (by unfold maxLen; omega) (by omega) (by simp; omega) ?_; intro v' w7 hown' hgrow _; have HO := Lib.hid (And.intro hown' hgrow); clear hown' hgrow)
      go_roundg d
      case measure => omega
      case rel => exact ⟨i + 1, by omega, by go_num, by rw [HSU.out, List.map_append]; exact HO.out.1, ((HW.out.alloc hbs _).alloc (by simp; omega) _).grown HO.out.2 (by simp; omega) (fun j e => by
          rcases ho.2 with ⟨rfl, _⟩ | ⟨gb, cap, cur, rfl, hb, _⟩
          · cases e
          · cases e; exact hb)⟩
end Go.Proofs.Ytccpblefebjadaa
