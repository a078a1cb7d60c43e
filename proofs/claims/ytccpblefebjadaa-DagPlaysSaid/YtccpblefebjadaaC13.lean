/- The reference's Add, walked. -/
import Derived.Test.YtccpblefebjadaaC12
namespace Go.Proofs.Ytccpblefebjadaa
open Go.RowKit Go.Maps Go.WideMaps Go.Sort Go.Shelf
open Go.Proofs (encStr)
open M (Rising keys get Graph Stands Searched)

def raddD (D : List RN) (x : Bs) (ps : List Bs) (pv : Value) : List RN × List Bs :=
  if rready D (M.norm ps) = true then rsettle (waits (rins ⟨x, pv, M.norm ps, rready D (M.norm ps)⟩ D)) (rins ⟨x, pv, M.norm ps, rready D (M.norm ps)⟩ D) [x] else (rins ⟨x, pv, M.norm ps, rready D (M.norm ps)⟩ D, [])
def RAddPost (w : World) (R : Nat → Prop) (r : Nat) (D : List RN) (x : Bs) (ps : List Bs) (e : Ending) (w' : World) : Prop :=
  ∃ pv, RAdded w R r (raddD D x ps pv).1 (raddD D x ps pv).2 e w'

/-- At a round of the second loop. -/
structure SetSt (w wx : World) (R' : Nat → Prop) (r B N : Nat) (vE : Value) (Df : List RN) (outf : List Bs) (D : List RN) (out : List Bs) (vo : Value) : Prop where
  ref : RefAt wx R' r vE D
  own : wx.ownsRow B 30 1 vo out.length (out.map encStr)
  fr : Frame (· = r) w wx
  set' : ∃ n, rsettle n D out = (Df, outf) ∧ waits D ≤ n
  ox : (∀ y ∈ out, y.length ≤ 1000) ∧ out.length + waits D ≤ 200
  lo : B ≤ wx.heap.size
  hN : D.length = N

theorem SetSt.next {w wx w7 : World} {R' : Nat → Prop} {r B N : Nat} {vE : Value} {Df : List RN} {outf : List Bs} {D : List RN} {out : List Bs} {vo v' : Value} (h : SetSt w wx R' r B N vE Df outf D out vo) {g i cap : Nat} {y : Bs}
    (hg : w.heap.size ≤ g) (hgB : g < B) (hm : RefAt (wx.setCell ⟨g, i * 3 + 2, none⟩ (.bool true)) R' r vE (mark D i)) (hlt : ∀ i, R' i → i < B) (hw : w.heap.size ≤ B)
    (hown : w7.ownsRow B 30 1 v' (out.length + 1) (out.map encStr ++ [.string ⟨y.toArray⟩])) (hgr : ((wx.setCell ⟨g, i * 3 + 2, none⟩ (.bool true)).alloc (.cells #[.string ⟨y.toArray⟩] 30)).grownBy w7 vo.ownBlock)
    (hy : y.length ≤ 1000) (hwt : waits (mark D i) + 1 = waits D) (hnx : rnext D = some i) (hset : ∀ k, rsettle (k + 1) D out = rsettle k (mark D i) (out ++ [y])) : SetSt w w7 R' r B N vE Df outf (mark D i) (out ++ [y]) v' := by
  have hsz : (wx.setCell ⟨g, i * 3 + 2, none⟩ (.bool true)).heap.size = wx.heap.size := by simp [World.setCell]
  have hlo := own_lo h.own
  have hs7 := hgr.size
  rw [World.size_alloc, hsz] at hs7
  have hblk : ∀ j, j < wx.heap.size → j < B → w7.heap[j]? = (wx.setCell ⟨g, i * 3 + 2, none⟩ (.bool true)).heap[j]? := fun j hj hjB => by
    rw [hgr.block j (by rw [World.size_alloc, hsz]; omega) (fun e => by have := hlo j e.symm; omega)]
    exact Below.heap_alloc _ _ j (by rw [hsz]; exact hj)
  refine ⟨?_, by simpa [encStr_eq] using hown, ?_, ?_, ⟨?_, ?_⟩, ?_, by rw [mark_len]; exact h.hN⟩
  · exact hm.same (by rw [hsz]; omega) (fun j hj hR => hblk j (by rw [hsz] at hj; exact hj) (hlt j hR))
  · refine ⟨hgr.os.trans h.fr.os, hgr.tape.trans h.fr.tape, hgr.output.trans h.fr.output, by have := h.fr.size; omega, fun j hj hn => ?_⟩
    rw [hblk j (by have := h.fr.size; omega) (by omega), Below.heap_setCell _ _ _ _ (by show j ≠ g; omega)]
    exact h.fr.block j hj hn
  · obtain ⟨n, h1, h2⟩ := h.set'
    cases n with
    | zero => omega
    | succ k => exact ⟨k, by rw [← hset k]; exact h1, by omega⟩
  · intro z hz
    rcases List.mem_append.1 hz with hz | hz
    · exact h.ox.1 z hz
    · simp at hz; subst hz; exact hy
  · have := h.ox.2
    simp; omega
  · have := h.lo; omega

set_option maxRecDepth 100000 in
set_option maxHeartbeats 4000000 in
theorem radd_new (w : World) {R : Nat → Prop} {r : Nat} {v : Value} {D : List RN} (h : RefAt w R r v D) (hlen : D.length < 100) (x : Bs) (hx : x.length ≤ 1000) {S : Nat → Prop} {pv : Value} {ps : List Bs} (hp : Strs w S pv ps) (hps : ps.length ≤ 6) (hnew : place D x = none) :
    Calls Try.prog 21 #[.pointer (some ⟨r, 0, none⟩), encStr x, pv] w (RAddPost w R r D x ps) := by
  obtain ⟨i42, hi, hz, hz1, hz2⟩ := info42
  have hfd := find_walk w h x
  have e1 : placeI D x = -1 := by unfold placeI; rw [hnew]
  rw [e1] at hfd
  have hso := sorted_walk w hp (by omega)
  have hrl : r < w.heap.size := h.lt r h.pr
  obtain ⟨A, cap, rfl⟩ := h.form
  have H := Lib.hid (And.intro h hnew)
  simp only [encStr_eq] at hfd ⊢
  have HF := Lib.hid hfd
  have HSO := Lib.hid hso
  clear h hfd hso hnew e1
  go_enter Try.func21, Try.ntmps21
  go_wp2_with fail
  refine HF.out.mono ?_
  rintro e w' ⟨rfl, rfl⟩
  go_wp2_with fail
  refine HSO.out.mono ?_
  rintro e w2 ⟨u, rfl, hu, hb2⟩
  obtain ⟨Au, cu, rfl, hul⟩ := strs_fm hu
  have HU := Lib.hid (And.intro hu hb2)
  obtain ⟨m, hm⟩ : ∃ m, m = (M.norm ps).length := ⟨_, rfl⟩
  rw [← hm] at HU ⊢
  have HM := Lib.hid hm
  have hb3 : Below w.heap.size w (w2.alloc (.cells #[.string ⟨x.toArray⟩, .slice Au m cu, .bool false] 42)) := hb2.alloc hb2.size _
  have hrd := rready_walk _ (H.out.1.below hb3) ((HU.out.1).below ((Below.refl _ _).alloc (Nat.le_refl _) (.cells #[.string ⟨x.toArray⟩, .slice Au m cu, .bool false] 42)))
  have HR := Lib.hid hrd
  clear hrd hm hu hb2 hul HSO
  go_wp2_with fail
  refine HR.out.mono ?_
  rintro e w' ⟨rfl, rfl⟩
  generalize hbv : rready D (M.norm ps) = bi at *
  have HBV := Lib.hid hbv
  clear hbv HR
  have hb4 : Below w.heap.size w (w2.alloc (.cells #[.string ⟨x.toArray⟩, .slice Au m cu, .bool bi] 42)) := HU.out.2.alloc HU.out.2.size _
  have HB4 := Lib.hid hb4
  clear hb3 hb4
  obtain ⟨gx, hgx⟩ : ∃ gx, gx = w2.heap.size := ⟨_, rfl⟩
  have hx0 := World.alloc_heap_new w2 (.cells #[.string ⟨x.toArray⟩, .slice Au m cu, .bool bi] 42)
  have hxs : gx < (w2.alloc (.cells #[.string ⟨x.toArray⟩, .slice Au m cu, .bool bi] 42)).heap.size := by rw [hgx]; simp
  have hu4 := HU.out.1.lt2.below ((Below.refl _ _).alloc (Nat.le_refl _) (.cells #[.string ⟨x.toArray⟩, .slice Au m cu, .bool bi] 42))
  rw [← hgx] at hx0 hu4
  have HGX := Lib.hid hgx
  clear hgx
  go_wp2
  rw [← HGX.out]
  generalize (w2.alloc (.cells #[.string ⟨x.toArray⟩, .slice Au m cu, .bool bi] 42)) = w4 at *
  have HX4 := Lib.hid (And.intro hx0 (And.intro hxs hu4))
  clear hx0 hxs hu4
  obtain ⟨n, hn⟩ : ∃ n : RN, n = ⟨x, .slice Au m cu, M.norm ps, bi⟩ := ⟨_, rfl⟩
  have HN := Lib.hid hn
  go_loopg [8, 9, 10] D.length (fun d s8 s9 s10 wr => ∃ k : Nat, k + d = D.length ∧ s10 = .int .i64 k ∧ s9 = .bool (rst n (D.take k)).2 ∧ OwnN w4 wr s8 (rst n (D.take k)).1)
  case atStart => exact ⟨0, by omega, rfl, rfl, OwnN.start w4⟩
  case round =>
    obtain ⟨k, hk, rfl, rfl, hO⟩ := hrel
    have hbw := HB4.out.trans (hO.2.mono HB4.out.size)
    have hR := H.out.1.below hbw
    have hc := hR.cell
    have hxc : ∀ W, Below w4.heap.size w4 W → W.cell? ⟨gx, 0, none⟩ = some (.string ⟨x.toArray⟩) ∧ W.cell? ⟨gx, 1, none⟩ = some (.slice Au m cu) ∧ W.cell? ⟨gx, 2, none⟩ = some (.bool bi) := fun W hW => by
      have hb := hW.block gx HX4.out.2.1
      refine ⟨?_, ?_, ?_⟩ <;> (unfold World.cell?; rw [hb, HX4.out.1]; rfl)
    obtain ⟨q0, q1, q2⟩ := hxc wr hO.2
    cases gk with
    | zero =>
      obtain rfl : k = D.length := by omega
      have hf : ¬ ((D.length : Int) < (D.length : Int)) := by omega
      rw [List.take_length] at hO ⊢
      have hE : rfin n (rst n D) = rins n D := by have := rst_ins n D []; simpa [rst] using this
      have hpl := rst_len n D
      clear hR
      obtain ⟨dn, hdn⟩ : ∃ dn, (rst n D).2 = dn := ⟨_, rfl⟩
      rw [hdn]
      go_upto_if 65 with fail
      go_cut [8] from 66 to 69 (fun s8 wc => OwnN w4 wc s8 (rins n D))
      case first =>
        cases dn with
        | true =>
          have HE : Hid (OwnN w4 wr u8 (rins n D)) := Lib.hid (by rw [← hE]; unfold rfin; rw [if_pos hdn]; exact hO)
          clear hO hE hdn
          go_wp2_with fail
          go_meet
          case rel => exact HE.out
        | false =>
          have HE : Hid (rins n D = (rst n D).1 ++ [n]) := Lib.hid (by rw [← hE]; unfold rfin; rw [hdn, if_neg (by simp)])
          clear hE hdn
          generalize (rst n D).1 = o at *
          have HO := Lib.hid hO
          have ho : wr.ownsRow w4.heap.size 42 3 u8 o.length (rcells o) := hO.1
          have hsz := hO.2.size
          clear hO
          go_wp2_with (at_builtin; refine wpList_append_own _ rfl _ _ 22 rfl w4.heap.size 42 i42 _ 3 48 Try.underlying22 hi hz hz1 hz2 zero42 (by decide) _ _ _ rfl (ho.alloc _) ⟨wr.heap.size, 0, none⟩ 1 1 [.string ⟨x.toArray⟩, .slice Au m cu, .bool bi] rfl rfl (cells3_new _ _ _ _) (by simp [Value.oneCell']) (by unfold maxLen; omega) (by omega) (by simp; omega) ?_; intro v' w7 hown' hgrow _; have HX := Lib.hid (And.intro hown' hgrow); clear hown' hgrow)
          go_meet
          case rel => rw [HE.out]; exact OwnN.snoc (n := n) HO.out (by rw [HN.out]; exact HX.out.1) (by rw [HN.out]; exact HX.out.2)
      case rest =>
        obtain ⟨R', hRS, hsub, hfr⟩ := H.out.1.stored HB4.out hcut (by rw [hn]; exact H.out.2) (by rw [hn]; exact (HX4.out.2.2.mono (fun b hb => ⟨hb.1, Nat.lt_trans hb.2 HX4.out.2.1⟩)).below (hcut.2)) (by rw [hn]; exact hx) (by rw [hn]; exact Nat.le_trans (M.length_norm ps) hps) hlen
        have hcr : wc.cell? ⟨r, 0, none⟩ = some (.slice A D.length cap) := ((HB4.out.trans (hcut.2.mono HB4.out.size)).cell (p := ⟨r, 0, none⟩) hrl).trans H.out.1.cell
        have hfz : wc.frozen? ⟨r, 0, none⟩ = false := ((HB4.out.trans (hcut.2.mono HB4.out.size)).frozen (p := ⟨r, 0, none⟩) hrl).trans H.out.1.fz
        have hxw : (wc.setCell ⟨r, 0, none⟩ u8).cell? ⟨gx, 2, none⟩ = some (.bool bi) := by
          rw [World.cell?_setCell_other]
          · exact (hxc wc hcut.2).2.2
          · intro e
            have := congrArg Addr.block e
            simp at this
            have := HGX.out
            have := HU.out.2.size
            omega
        obtain ⟨gE, capE, hvE, _⟩ := hRS.node (j := 0) (by rw [rins_len]; omega)
        subst hvE
        have hgE : w.heap.size ≤ gE := Nat.le_trans HB4.out.size (own_lo3 hcut.1 gE rfl)
        obtain ⟨N, hN⟩ : ∃ N, N = (rins n D).length := ⟨_, rfl⟩
        have hN1 : N = D.length + 1 := by rw [hN, rins_len]
        rw [← hN] at hRS hfr hxw ⊢
        have HNN := Lib.hid (And.intro hN hN1)
        have hN100 : N ≤ 100 := by omega
        clear hN hN1
        have HRS := Lib.hid (And.intro hRS (And.intro hsub hfr))
        have hwsz : (wc.setCell ⟨r, 0, none⟩ (.slice (some ⟨gE, 0, none⟩) N capE)).heap.size = wc.heap.size := by simp [World.setCell]
        have hbase : w.heap.size ≤ wc.heap.size := Nat.le_trans HB4.out.size hcut.2.size
        clear hRS hsub hfr hxc hcut
        cases bi with
        | false =>
          have hrd : raddD D x ps (.slice Au m cu) = (rins n D, []) := by unfold raddD; rw [HBV.out, if_neg (by simp), hn]
          have HRD := Lib.hid hrd
          clear hrd hn
          go_wp2
          go_ret
          refine ⟨.slice Au m cu, _, .slice (some ⟨gE, 0, none⟩) N capE, R', rfl, ?_, HRS.out.2.1, ?_, ?_⟩
          · rw [HRD.out]; exact HRS.out.1
          · exact HRS.out.2.2
          · rw [HRD.out]; exact ⟨none, 0, rfl, fun h => absurd h (by simp), by simp, by simp⟩
        | true =>
          have hrd : raddD D x ps (.slice Au m cu) = rsettle (waits (rins n D)) (rins n D) [x] := by unfold raddD; rw [HBV.out, if_pos rfl, hn]
          have HRD := Lib.hid hrd
          clear hrd hn
          obtain ⟨i0, hi0, hy0, hy1, hy2⟩ := info_parts info30
          obtain ⟨W6, hW6⟩ : ∃ W6, W6 = wc.setCell ⟨r, 0, none⟩ (.slice (some ⟨gE, 0, none⟩) N capE) := ⟨_, rfl⟩
          obtain ⟨⟨Df, outf⟩, hfin⟩ : ∃ q, rsettle (waits (rins n D)) (rins n D) [x] = q := ⟨_, rfl⟩
          have hst : SetSt w (W6.alloc (.cells #[.string ⟨x.toArray⟩] 30)) R' r W6.heap.size N (.slice (some ⟨gE, 0, none⟩) N capE) Df outf (rins n D) [x] (.slice (some ⟨W6.heap.size, 0, none⟩) 1 1) := by
            obtain ⟨h1, h2, h3⟩ := HRS.out
            rw [← hW6] at h1 h3
            have hba : Below W6.heap.size W6 (W6.alloc (.cells #[.string ⟨x.toArray⟩] 30)) := (Below.refl _ _).alloc (Nat.le_refl _) _
            refine ⟨h1.below hba, World.ownsRow_lit W6 #[.string ⟨x.toArray⟩] 1 (Nat.le_refl _) (by unfold maxLen; omega) rfl, h3.trans ((Frame.of_below hba).mono (fun _ _ h => h.elim)), ⟨_, hfin, Nat.le_refl _⟩, ⟨by simpa using hx, ?_⟩, by simp, HNN.out.1.symm⟩
            have : waits (rins n D) ≤ (rins n D).length := List.countP_le_length
            rw [rins_len] at this
            simp; omega
          have hlt6 : ∀ i, R' i → i < W6.heap.size := by rw [hW6]; exact HRS.out.1.lt
          obtain ⟨B6, hB6⟩ : ∃ B6, B6 = W6.heap.size := ⟨_, rfl⟩
          have hB7 : wc.heap.size = B6 := by rw [hB6, hW6, hwsz]
          have hw6 : w.heap.size ≤ B6 := by rw [← hB7]; exact hbase
          rw [← hB6] at hst hlt6
          have HST := Lib.hid (And.intro hst (And.intro hlt6 hfin))
          have HW6 := Lib.hid (And.intro hW6 hB7)
          clear hst hlt6 hfin hW6 hB6 hB7
          go_wp2
          rw [HW6.out.2, ← HW6.out.1]
          go_loopg [11, 12, 13] (waits (rins n D) * (N + 1) + N) (fun gk s11 s12 s13 wx => ∃ (D2 : List RN) (out : List Bs) (i : Nat), s12 = .int .i64 i ∧ i ≤ N ∧ Aside (SetSt w wx R' r B6 N (.slice (some ⟨gE, 0, none⟩) N capE) Df outf D2 out s11 ∧ (∀ j, j < i → rwant D2 (D2.getD j default) = false) ∧ waits D2 * (N + 1) + (N - i) ≤ gk))
          case atStart => exact ⟨rins n D, [x], 0, rfl, Nat.zero_le _, HST.out.1, (fun j hj => by omega), by rw [Nat.sub_zero]; exact Nat.le_refl _⟩
          case round =>
            obtain ⟨D2, out, i, rfl, hiN, HO⟩ := hrel
            have hR := HO.out.1.ref
            have hc := hR.cell
            have hD2 := HO.out.1.hN
            by_cases hi2 : i = N
            · subst hi2
              have hf2 : ¬ ((i : Int) < (i : Int)) := by omega
              have hrn : rnext D2 = none := rnext_none (fun j hj => HO.out.2.1 j (by omega))
              have hend : (D2, out) = (Df, outf) := by
                obtain ⟨k, hk, _⟩ := HO.out.1.set'
                rw [← hk]
                cases k with
                | zero => rfl
                | succ k => unfold rsettle; rw [hrn]
              have HEND : Hid (raddD D x ps (.slice Au m cu) = (D2, out)) := Lib.hid (by rw [HRD.out, HST.out.2.2, ← hend])
              clear hrn hend hR
              go_wp2
              go_ret
              refine ⟨.slice Au m cu, _, .slice (some ⟨gE, 0, none⟩) i capE, R', rfl, ?_, HRS.out.2.1, HO.out.1.fr, ?_⟩
              · rw [HEND.out]; exact HO.out.1.ref
              · rw [HEND.out]; exact (Strs.of_own (w := wr) (base := B6) HO.out.1.own HO.out.1.ox.1 (by have := HO.out.1.ox.2; omega)).mono (fun _ _ => trivial)
            · have hil : i < D2.length := by omega
              have hf2 : ((i : Int) < (N : Int)) := by omega
              obtain ⟨g', cap', hv, c0, c1, c2⟩ := hR.node hil
              have hv2 := hv
              simp only [Value.slice.injEq, Option.some.injEq, Addr.mk.injEq, and_true] at hv
              obtain ⟨rfl, hND, rfl⟩ := hv
              have HND := Lib.hid hND
              have hol := HO.out.1.ox
              have hgk : 0 < gk := by have := HO.out.2.2; omega
              have hlo := HO.out.1.lo
              clear hND
              clear hv2
              have hS := hR.par _ (rmem hil)
              have hrw : rwant D2 (D2.getD i default) = (!(D2.getD i default).inn && rready D2 (D2.getD i default).ps) := rfl
              have hmk := hR.mark hil (g := gE) (cap := capE) (by rw [hD2])
              have hwm := fun hq => waits_mark (D := D2) hil hq
              have hnx : rwant D2 (D2.getD i default) = true → rnext D2 = some i := fun hq => rnext_some hil hq HO.out.2.1
              have hno : rwant D2 (D2.getD i default) = false → ∀ j, j < i + 1 → rwant D2 (D2.getD j default) = false := fun hq j hj => by
                by_cases e : j = i
                · subst e; exact hq
                · exact HO.out.2.1 j (by omega)
              have hidl := hR.ids _ (rmem hil)
              obtain ⟨Ay, cy, hpy, _⟩ := strs_fm hS
              have hrd := rready_walk wr hR hS
              have HK := Lib.hid (And.intro hmk (And.intro hwm (And.intro hnx (And.intro hno hidl))))
              have hset : ∀ k, rnext D2 = some i → rsettle (k + 1) D2 out = rsettle k (mark D2 i) (out ++ [(D2.getD i default).id]) := fun k hq => by
                conv => lhs; unfold rsettle
                rw [hq]
              have HSET := Lib.hid hset
              clear hmk hwm hnx hno hidl hS hset
              have hN3 : ∃ m', D2.getD i default = m' := ⟨_, rfl⟩
              obtain ⟨m', hm'⟩ := hN3
              rw [hm'] at HK HSET c0 c1 c2 hpy hrd hrw
              obtain ⟨y, yv, yp, yi⟩ := m'
              simp only at c0 c1 c2 hpy hrd hrw
              subst hpy
              simp only [encStr_eq] at c0
              have HM' := Lib.hid hm'
              clear hm' hR hD2
              have ho := HO.out.1.own
              generalize yp.length = yl at *
              cases yi with
              | true =>
                have HW : Hid (rwant D2 ⟨y, .slice Ay yl cy, yp, true⟩ = false) := Lib.hid (by rw [hrw]; rfl)
                clear hrw hrd
                go_wp2
                go_roundg (gk - 1)
                case measure => omega
                case rel => exact ⟨D2, out, i + 1, by go_num, by omega, HO.out.1, HK.out.2.2.2.1 HW.out, by have := HO.out.2.2; omega⟩
              | false =>
                simp only [Bool.not_false, Bool.true_and] at hrw
                cases hb : rready D2 yp with
                | false =>
                  rw [hb] at hrw hrd
                  have HW := Lib.hid hrw
                  have HRD2 := Lib.hid hrd
                  clear hrw hrd hb
                  go_wp2_with fail
                  refine HRD2.out.mono ?_
                  rintro e w' ⟨rfl, rfl⟩
                  go_wp2
                  go_roundg (gk - 1)
                  case measure => omega
                  case rel => exact ⟨D2, out, i + 1, by go_num, by omega, HO.out.1, HK.out.2.2.2.1 HW.out, by have := HO.out.2.2; omega⟩
                | true =>
                  rw [hb] at hrw hrd
                  have HW := Lib.hid hrw
                  have HRD2 := Lib.hid hrd
                  clear hrw hrd hb
                  obtain ⟨⟨hm1, hm2, hm3, hm4⟩, hwm, hnx, _, hyl⟩ := HK.out
                  have hwt := hwm rfl
                  have hgB : gE < B6 := HST.out.2.1 gE hm3
                  have ho3 : (wr.setCell ⟨gE, i * 3 + 2, none⟩ (.bool true)).ownsRow B6 30 1 u11 out.length (out.map encStr) := ownsRow_setCell_below (a := ⟨gE, i * 3 + 2, none⟩) ho hgB _
                  have q0 : (wr.setCell ⟨gE, i * 3 + 2, none⟩ (.bool true)).cell? ⟨r, 0, none⟩ = some (.slice (some ⟨gE, 0, none⟩) N capE) := hm1.cell
                  have q1 : (wr.setCell ⟨gE, i * 3 + 2, none⟩ (.bool true)).cell? ⟨gE, i * 3, none⟩ = some (.string ⟨y.toArray⟩) := by
                    rw [World.cell?_setCell_other]
                    · exact c0
                    · intro e; have := congrArg Addr.off e; simp at this
                  have HSZ : (wr.setCell ⟨gE, i * 3 + 2, none⟩ (.bool true)).heap.size = wr.heap.size := by simp [World.setCell]
                  have HMM := Lib.hid (And.intro hm1 (And.intro hwt (hnx HW.out)))
                  have HSZ2 := Lib.hid HSZ
                  have hol2 : out.length ≤ 200 := by omega
                  clear hm1 hwm hnx hwt HSZ
                  go_wp2_with (first
                    | (go_at_call 43; refine HRD2.out.mono ?_; rintro e w' ⟨rfl, rfl⟩)
                    | (at_builtin; refine wpList_append_own _ rfl _ _ 27 rfl B6 30 i0 (.string ⟨#[]⟩) 1 16 Try.underlying27 hi0 hy0 hy1 hy2 rfl (by decide) _ _ _ rfl (ho3.alloc _) ⟨wr.heap.size, 0, none⟩ 1 1 [.string ⟨y.toArray⟩] rfl rfl (by simpa [World.setCell] using cell_one_new (wr.setCell ⟨gE, i * 3 + 2, none⟩ (.bool true)) (.string ⟨y.toArray⟩) 30) (by simp [Value.oneCell']) (by unfold maxLen; omega) (by omega) (by simp [World.setCell]; omega) ?_; intro v' w7 hown' hgrow _; have HX := Lib.hid (And.intro hown' hgrow); clear hown' hgrow))
                  go_roundg (gk - 1)
                  case measure => omega
                  case rel =>
                    obtain ⟨hm1, hwt, hnxt⟩ := HMM.out
                    refine ⟨mark D2 i, out ++ [y], 0, rfl, Nat.zero_le _, ?_, (fun j hj => by omega), ?_⟩
                    · exact HO.out.1.next (g := gE) (i := i) (y := y) (cap := capE) hgE hgB hm1 HST.out.2.1 hw6 HX.out.1 HX.out.2 hyl hwt hnxt (fun k => HSET.out k hnxt)
                    · have h1 := HO.out.2.2
                      rw [← hwt, Nat.add_mul, Nat.one_mul] at h1
                      omega
    | succ d =>
      have hf : ((k : Int) < (D.length : Int)) := by omega
      have hkl : k < D.length := by omega
      obtain ⟨g, cap', hv, hno⟩ := hR.node hkl
      cases hv
      have hst : rst n (D.take (k + 1)) = rstep n (rst n (D.take k)) (D.getD k default) := by rw [rtake hkl, rst_snoc]
      have hpl := rst_len n (D.take k)
      rw [List.length_take] at hpl
      have hcells : ∀ W, Below w4.heap.size w4 W → W.cell? ⟨r, 0, none⟩ = some (.slice (some ⟨g, 0, none⟩) D.length cap) ∧ W.cell? ⟨g, k * 3, none⟩ = some (encStr (D.getD k default).id) ∧ W.cell? ⟨g, k * 3 + 1, none⟩ = some (D.getD k default).pv ∧ W.cell? ⟨g, k * 3 + 2, none⟩ = some (.bool (D.getD k default).inn) := fun W hW => by
        have hR := H.out.1.below (HB4.out.trans (hW.mono HB4.out.size))
        obtain ⟨g', cap', hv, h0, h1, h2⟩ := hR.node hkl
        cases hv
        exact ⟨hR.cell, h0, h1, h2⟩
      obtain ⟨Ay, cy, hpv, _⟩ := strs_fm (H.out.1.par _ (rmem hkl))
      have hyl := H.out.1.ids _ (rmem hkl)
      have hless := rless_walk wr x (D.getD k default).id hx hyl
      have HS := Lib.hid (And.intro hst (And.intro hcells hxc))
      have hDn : ∃ m, D.getD k default = m := ⟨_, rfl⟩
      obtain ⟨m', hm'⟩ := hDn
      rw [hm'] at HS hno hpv hless hyl
      clear hst hcells hxc hR hm'
      generalize rst n (D.take k) = s at *
      obtain ⟨o, dn⟩ := s
      obtain ⟨y, yv, yp, yi⟩ := m'
      simp only at hpv hyl hless hpl
      subst hpv
      obtain ⟨p0, p1, p2⟩ := hno
      simp only [encStr_eq] at p0 hless
      generalize yp.length = yl at *
      have HO := Lib.hid hO
      have ho : wr.ownsRow w4.heap.size 42 3 u8 o.length (rcells o) := hO.1
      have hsz := hO.2.size
      clear hO
      cases dn with
      | true =>
        have HP : Hid (rstep n (o, true) ⟨y, .slice Ay yl cy, yp, yi⟩ = (o ++ [⟨y, .slice Ay yl cy, yp, yi⟩], true)) := Lib.hid (by simp [rstep])
        clear hless
        go_wp2_with (at_builtin; refine wpList_append_own _ rfl _ _ 22 rfl w4.heap.size 42 i42 _ 3 48 Try.underlying22 hi hz hz1 hz2 zero42 (by decide) _ _ _ rfl (ho.alloc _) ⟨wr.heap.size, 0, none⟩ 1 1 [.string ⟨y.toArray⟩, .slice Ay yl cy, .bool yi] rfl rfl (cells3_new _ _ _ _) (by simp [Value.oneCell']) (by unfold maxLen; omega) (by omega) (by simp; omega) ?_; intro v' w7 hown' hgrow _; have HX := Lib.hid (And.intro hown' hgrow); clear hown' hgrow)
        go_roundg d
        case measure => omega
        case rel => exact ⟨k + 1, by omega, by go_num, by rw [HS.out.1, HP.out], by rw [HS.out.1, HP.out]; exact OwnN.snoc (n := ⟨y, .slice Ay yl cy, yp, yi⟩) HO.out HX.out.1 HX.out.2⟩
      | false =>
        by_cases hlt : x < y
        · rw [decide_eq_true hlt] at hless
          have HP : Hid (rstep n (o, false) ⟨y, .slice Ay yl cy, yp, yi⟩ = ((o ++ [n]) ++ [⟨y, .slice Ay yl cy, yp, yi⟩], true)) := Lib.hid (by have : n.id < y := (by rw [HN.out]; exact hlt); simp [rstep, this])
          have HL := Lib.hid hless
          clear hless hlt
          go_wp2_with (first
            | (go_at_call 44; refine HL.out.mono ?_; rintro e w5 ⟨rfl, hb5⟩; have HO5 := Lib.hid (HO.out.next hb5); have ho5 := HO5.out.1; have hs5 := HO5.out.2.size; obtain ⟨a0, a1, a2, a3⟩ := HS.out.2.1 w5 HO5.out.2; obtain ⟨b0, b1, b2⟩ := HS.out.2.2 w5 HO5.out.2; simp only [encStr_eq] at a1; clear hb5)
            | (at_builtin; refine wpList_append_own _ rfl _ _ 22 rfl w4.heap.size 42 i42 _ 3 48 Try.underlying22 hi hz hz1 hz2 zero42 (by decide) _ _ _ rfl (ho5.alloc _) ⟨w5.heap.size, 0, none⟩ 1 1 [.string ⟨x.toArray⟩, .slice Au m cu, .bool bi] rfl rfl (cells3_new _ _ _ _) (by simp [Value.oneCell']) (by unfold maxLen; omega) (by omega) (by simp; omega) ?_; intro v' w6 hown' hgrow _; have HX6 := Lib.hid (And.intro hown' hgrow); clear hown' hgrow; have HO6 := Lib.hid (OwnN.snoc (n := n) HO5.out (by rw [HN.out]; exact HX6.out.1) (by rw [HN.out]; exact HX6.out.2)); have ho6 := HO6.out.1; have hs6 := HO6.out.2.size; obtain ⟨a0, a1, a2, a3⟩ := HS.out.2.1 w6 HO6.out.2; simp only [encStr_eq, List.length_append, List.length_cons, List.length_nil] at a1 ho6)
            | (at_builtin; refine wpList_append_own _ rfl _ _ 22 rfl w4.heap.size 42 i42 _ 3 48 Try.underlying22 hi hz hz1 hz2 zero42 (by decide) _ _ _ rfl (ho6.alloc _) ⟨w6.heap.size, 0, none⟩ 1 1 [.string ⟨y.toArray⟩, .slice Ay yl cy, .bool yi] rfl rfl (cells3_new _ _ _ _) (by simp [Value.oneCell']) (by unfold maxLen; omega) (by omega) (by simp; omega) ?_; intro v' w7 hown' hgrow _; have HX := Lib.hid (And.intro hown' hgrow); clear hown' hgrow))
          go_roundg d
          case measure => omega
          case rel => exact ⟨k + 1, by omega, by go_num, by rw [HS.out.1, HP.out], by rw [HS.out.1, HP.out]; exact OwnN.snoc (n := ⟨y, .slice Ay yl cy, yp, yi⟩) HO6.out (by rw [List.length_append]; exact HX.out.1) HX.out.2⟩
        · rw [decide_eq_false hlt] at hless
          have HP : Hid (rstep n (o, false) ⟨y, .slice Ay yl cy, yp, yi⟩ = (o ++ [⟨y, .slice Ay yl cy, yp, yi⟩], false)) := Lib.hid (by have : ¬ n.id < y := (by rw [HN.out]; exact hlt); simp [rstep, this])
          have HL := Lib.hid hless
          clear hless hlt
          go_wp2_with (first
            | (go_at_call 44; refine HL.out.mono ?_; rintro e w5 ⟨rfl, hb5⟩; have HO5 := Lib.hid (HO.out.next hb5); have ho5 := HO5.out.1; have hs5 := HO5.out.2.size; obtain ⟨a0, a1, a2, a3⟩ := HS.out.2.1 w5 HO5.out.2; simp only [encStr_eq] at a1; clear hb5)
            | (at_builtin; refine wpList_append_own _ rfl _ _ 22 rfl w4.heap.size 42 i42 _ 3 48 Try.underlying22 hi hz hz1 hz2 zero42 (by decide) _ _ _ rfl (ho5.alloc _) ⟨w5.heap.size, 0, none⟩ 1 1 [.string ⟨y.toArray⟩, .slice Ay yl cy, .bool yi] rfl rfl (cells3_new _ _ _ _) (by simp [Value.oneCell']) (by unfold maxLen; omega) (by omega) (by simp; omega) ?_; intro v' w7 hown' hgrow _; have HX := Lib.hid (And.intro hown' hgrow); clear hown' hgrow))
          go_roundg d
          case measure => omega
          case rel => exact ⟨k + 1, by omega, by go_num, by rw [HS.out.1, HP.out], by rw [HS.out.1, HP.out]; exact OwnN.snoc (n := ⟨y, .slice Ay yl cy, yp, yi⟩) HO5.out HX.out.1 HX.out.2⟩
end Go.Proofs.Ytccpblefebjadaa
