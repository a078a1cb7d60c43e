/- The reference's Levels. -/
import Derived.Test.YtccpblefebjadaaC7
import Derived.StillTailTactics
import Derived.OwnWalk
namespace Go.Proofs.Ytccpblefebjadaa
open Go.RowKit Go.Maps Go.WideMaps Go.Sort Go.Shelf
open Go.Proofs (encStr)
open M (Rising keys get Graph Stands Searched)

/-- L: the levels by place: whoever is in stands one above its highest parent, who waits, at 0. -/
structure LevOk (D : List RN) (L : Nat → Nat) : Prop where
  l1 : ∀ i, i < D.length → (D.getD i default).inn = true → ∀ p ∈ (D.getD i default).ps, ∃ j, place D p = some j ∧ L j + 1 ≤ L i
  l2 : ∀ i, i < D.length → L i = 0 ∨ ((D.getD i default).inn = true ∧ ∃ p ∈ (D.getD i default).ps, ∃ j, place D p = some j ∧ L i = L j + 1)
  l4 : ∀ i, i < D.length → L i ≤ D.length

/-- t turns are done. -/
structure TurnSt (D : List RN) (L : Nat → Nat) (t : Nat) (o : List Nat) : Prop where
  len : o.length = D.length
  le : ∀ j, j < D.length → o.getD j 0 ≤ L j
  eq : ∀ j, j < D.length → L j ≤ t → o.getD j 0 = L j
theorem TurnSt.start {D : List RN} {L : Nat → Nat} : TurnSt D L 0 (List.replicate D.length 0) where
  len := by simp
  le j hj := by simp [List.getD_eq_getElem?_getD, hj]
  eq j hj h := by simp [List.getD_eq_getElem?_getD, hj]; omega
def InTurn (D : List RN) (L : Nat → Nat) (t i : Nat) (o : List Nat) : Prop := TurnSt D L t o ∧ ∀ j, j < i → j < D.length → L j ≤ t + 1 → o.getD j 0 = L j
def AtNode (D : List RN) (L : Nat → Nat) (t i k : Nat) (o : List Nat) : Prop := InTurn D L t i o ∧ ∀ p ∈ (D.getD i default).ps.take k, ∀ j, place D p = some j → L j ≤ t → L j + 1 ≤ o.getD i 0
theorem getD_set {o : List Nat} {i j a : Nat} (hi : i < o.length) : (o.set i a).getD j 0 = if i = j then a else o.getD j 0 := by
  simp only [List.getD_eq_getElem?_getD, List.getElem?_set]
  by_cases e : i = j
  · subst e; simp [hi]
  · simp [e]
theorem AtNode.start {D : List RN} {L : Nat → Nat} {t i : Nat} {o : List Nat} (h : InTurn D L t i o) : AtNode D L t i 0 o := ⟨h, fun p hp => by simp at hp⟩
theorem AtNode.step {D : List RN} {L : Nat → Nat} (hL : LevOk D L) {t i k j : Nat} {o : List Nat} (h : AtNode D L t i k o) (hi : i < D.length) (hin : (D.getD i default).inn = true) (hk : k < (D.getD i default).ps.length)
    (hp : place D ((D.getD i default).ps.getD k []) = some j) : AtNode D L t i (k + 1) (o.set i (max (o.getD i 0) (o.getD j 0 + 1))) := by
  obtain ⟨⟨⟨hlen, hle, heq⟩, hin2⟩, hpar⟩ := h
  obtain ⟨j', hj', hlev⟩ := hL.l1 i hi hin _ (getD_mem hk)
  rw [hp] at hj'; cases hj'
  have hjl := (place_at hp).1
  have hil : i < o.length := by omega
  have hoj := hle j hjl
  have hoi := hle i hi
  refine ⟨⟨⟨by simpa using hlen, fun a ha => ?_, fun a ha hat => ?_⟩, fun a ha1 ha hat => ?_⟩, fun p hpm a hpa hat => ?_⟩
  · rw [getD_set hil]; split
    · subst i; omega
    · exact hle a ha
  · rw [getD_set hil]; split
    · subst i; have := heq a ha hat; omega
    · exact heq a ha hat
  · rw [getD_set hil, if_neg (by omega)]
    exact hin2 a ha1 ha hat
  · rw [getD_set hil, if_pos rfl]
    rw [take_succ_getD _ k hk] at hpm
    rcases List.mem_append.1 hpm with hpm | hpm
    · have := hpar p hpm a hpa hat; omega
    · simp at hpm; subst hpm
      simp only [List.getD_eq_getElem?_getD] at hp
      rw [hp] at hpa; cases hpa
      have := heq j hjl hat
      omega
theorem AtNode.done {D : List RN} {L : Nat → Nat} (hL : LevOk D L) {t i : Nat} {o : List Nat} (h : AtNode D L t i (D.getD i default).ps.length o) (hi : i < D.length) : InTurn D L t (i + 1) o := by
  obtain ⟨⟨⟨hlen, hle, heq⟩, hin2⟩, hpar⟩ := h
  refine ⟨⟨hlen, hle, heq⟩, fun a ha1 ha hat => ?_⟩
  by_cases e : a = i
  · subst e
    have := hle a ha
    rcases hL.l2 a ha with h0 | ⟨_, p, hp, j, hpj, hlj⟩
    · omega
    · have := hpar p (by rw [List.take_length]; exact hp) j hpj (by omega)
      omega
  · exact hin2 a (by omega) ha hat
theorem InTurn.out {D : List RN} {L : Nat → Nat} (hL : LevOk D L) {t i : Nat} {o : List Nat} (h : InTurn D L t i o) (hi : i < D.length) (hn : (D.getD i default).inn = false) : InTurn D L t (i + 1) o := by
  refine ⟨h.1, fun a ha1 ha hat => ?_⟩
  by_cases e : a = i
  · subst e
    rcases hL.l2 a ha with h0 | ⟨h1, _⟩
    · have := h.1.le a ha; omega
    · rw [hn] at h1; cases h1
  · exact h.2 a (by omega) ha hat
theorem InTurn.done {D : List RN} {L : Nat → Nat} {t : Nat} {o : List Nat} (h : InTurn D L t D.length o) : TurnSt D L (t + 1) o := ⟨h.1.len, h.1.le, fun j hj hjt => h.2 j hj hj hjt⟩

def ints (o : List Nat) : List Value := o.map fun (n : Nat) => .int .i64 (n : Int)
/-- The row of levels. -/
def OwnI (w0 w : World) (g : Nat) (o : List Nat) : Prop := w.ownsRow w0.heap.size 3 1 (.slice (some ⟨g, 0, none⟩) o.length o.length) o.length (ints o) ∧ Below w0.heap.size w0 w ∧ w0.heap.size ≤ g
theorem OwnI.at' {w0 w : World} {g : Nat} {o : List Nat} (h : OwnI w0 w g o) {j : Nat} (hj : j < o.length) : w.cell? ⟨g, j, none⟩ = some (.int .i64 (o.getD j 0 : Nat)) := by
  rw [h.1.cellAt j (by omega)]
  simp [ints, List.getD_eq_getElem?_getD, hj]
theorem OwnI.fz {w0 w : World} {g : Nat} {o : List Nat} (h : OwnI w0 w g o) (j : Nat) : w.frozen? ⟨g, j, none⟩ = false := h.1.frozenAt j
theorem OwnI.set {w0 w : World} {g : Nat} {o : List Nat} (h : OwnI w0 w g o) (j a : Nat) : OwnI w0 (w.setCell ⟨g, j, none⟩ (.int .i64 (a : Nat))) g (o.set j a) := by
  obtain ⟨h1, h2⟩ := h.1.stored j (.int .i64 (a : Nat))
  refine ⟨?_, h.2.1.setCell h.2.2 _, h.2.2⟩
  have e : ints (o.set j a) = (ints o).set j (.int .i64 (a : Nat)) := by simp [ints, List.map_set]
  rw [e, List.length_set]; exact h1
theorem OwnI.drew {w0 w : World} {g : Nat} {o : List Nat} (h : OwnI w0 w g o) : OwnI w0 w.drew g o := ⟨h.1, h.2.1.drew, h.2.2⟩

def LevPost (w : World) (g : Nat) (D : List RN) (L : Nat → Nat) (e : Ending) (w' : World) : Prop := ∃ o, e = .returned (.slice (some ⟨g, 0, none⟩) D.length D.length) ∧ OwnI w w' g o ∧ TurnSt D L D.length o

set_option maxRecDepth 100000 in
set_option maxHeartbeats 4000000 in
theorem rlevels_walk (w : World) {R : Nat → Prop} {r : Nat} {v : Value} {D : List RN} (h : RefAt w R r v D) {L : Nat → Nat} (hL : LevOk D L) :
    Calls Try.prog 46 #[.pointer (some ⟨r, 0, none⟩)] w (LevPost w w.heap.size D L) := by
  obtain ⟨i3, hi3, hz3, hz31, hz32⟩ : ∃ i3, Try.prog.info? 3 = some i3 ∧ i3.zero = some (.int .i64 0) ∧ i3.size = 1 ∧ i3.bytes = 8 := ⟨_, rfl, by kernel_rfl, by kernel_rfl, by kernel_rfl⟩
  obtain ⟨A, cap, rfl⟩ := h.form
  have hlen := h.len
  have hc := h.cell
  have hmk := run_make_full (P := Try.prog) w w.heap.size 66 3 i3 (.int .i64 0) 1 Try.underlying66 hi3 hz3 hz31 .i64 .i64 D.length (by rw [hz32]; omega) (by unfold maxLen; omega) (Nat.le_refl _)
  obtain ⟨w1, hmk, hown, hgr⟩ := hmk
  have H := Lib.hid (And.intro h hL)
  have HM := Lib.hid (And.intro hown hgr)
  clear h hL hown hgr
  go_enter Try.func46, Try.ntmps46
  obtain ⟨g, hg⟩ : ∃ g, g = w.heap.size := ⟨_, rfl⟩
  have hst : OwnI w w1 g (List.replicate D.length 0) := by
    rw [hg]
    refine ⟨?_, (Below.refl _ _).grown HM.out.2 (Nat.le_refl _) (fun j e => by cases e), Nat.le_refl _⟩
    have h1 := HM.out.1
    rw [List.length_replicate]
    have e : ints (List.replicate D.length 0) = (madeCells (Value.int IntKind.i64 0).cells (D.length * 1)).toList := by
      show List.map _ (List.replicate D.length 0) = (madeCells #[.int .i64 0] (D.length * 1)).toList
      rw [toList_madeCells_one, List.map_replicate, Nat.mul_one]; rfl
    rw [e]; exact h1
  have HST := Lib.hid hst
  rw [← hg] at hmk ⊢
  clear hst HM hg
  go_wp2
  go_loopg [4, 5, 6] D.length (fun d s4 s5 s6 wr => ∃ (t : Nat) (o : List Nat), t + d = D.length ∧ s4 = .int .i64 t ∧ Aside (OwnI w wr g o ∧ TurnSt D L t o))
  case atStart => exact ⟨0, _, by omega, rfl, HST.out, TurnSt.start⟩
  case round =>
    clear hmk HST hc
    obtain ⟨t, o, ht, rfl, HO⟩ := hrel
    have hc := (H.out.1.below HO.out.1.2.1).cell
    cases gk with
    | zero =>
      obtain rfl : t = D.length := by omega
      have hf : ¬ ((D.length : Int) < (D.length : Int)) := by omega
      go_wp2
      go_ret
      exact ⟨o, rfl, HO.out.1, HO.out.2⟩
    | succ d =>
      have hf : ((t : Int) < (D.length : Int)) := by omega
      go_wp2
      go_loopg [5, 6] D.length (fun d s5 s6 wr => ∃ (i : Nat) (o : List Nat), i + d = D.length ∧ s5 = .int .i64 i ∧ Aside (OwnI w wr g o ∧ InTurn D L t i o))
      case atStart => exact ⟨0, o, by omega, rfl, HO.out.1, HO.out.2, fun j hj => by omega⟩
      case round =>
        clear hc HO
        obtain ⟨i, o, hi, rfl, HO⟩ := hrel
        have hR := H.out.1.below HO.out.1.2.1
        have hc := hR.cell
        cases gk with
        | zero =>
          obtain rfl : i = D.length := by omega
          have hf2 : ¬ ((D.length : Int) < (D.length : Int)) := by omega
          clear hR
          go_wp2
          go_roundg d
          case measure => omega
          case rel => exact ⟨t + 1, o, by omega, by go_num, HO.out.1, HO.out.2.done⟩
        | succ e =>
          have hf2 : ((i : Int) < (D.length : Int)) := by omega
          have hil : i < D.length := by omega
          obtain ⟨b, cap', hv, hno⟩ := hR.node hil
          clear hno
          cases hv
          have hcells : ∀ W, Below w.heap.size w W → W.cell? ⟨r, 0, none⟩ = some (.slice (some ⟨b, 0, none⟩) D.length cap) ∧ W.cell? ⟨b, i * 3 + 1, none⟩ = some (D.getD i default).pv ∧ W.cell? ⟨b, i * 3 + 2, none⟩ = some (.bool (D.getD i default).inn) := fun W hW => by
            have hR := H.out.1.below hW
            obtain ⟨g', cap', hv, _, h1, h2⟩ := hR.node hil
            cases hv
            exact ⟨hR.cell, h1, h2⟩
          have hS := H.out.1.par _ (rmem hil)
          obtain ⟨Ap, cp, hpv, _, _, hpl⟩ := id hS
          have HK := Lib.hid (And.intro hcells (And.intro hS hpv))
          clear hcells hS hR
          go_wp2
          cases hin : (D.getD i default).inn with
          | false =>
            have HIN := Lib.hid hin
            clear hin
            go_loopg [6] 1 (fun e' s6 wx => s6 = .int .i64 0 ∧ Aside (OwnI w wx g o))
            case atStart => exact ⟨rfl, HO.out.1⟩
            case round =>
              obtain ⟨rfl, HO2⟩ := hrel
              obtain ⟨c0, c1, c2⟩ := HK.out.1 wr HO2.out.2.1
              rw [HK.out.2.2] at c1
              rw [HIN.out] at c2
              generalize (D.getD i default).ps.length = pl at *
              by_cases hz : (0 : Int) < (pl : Int)
              · go_wp2
                go_roundg e
                case measure => omega
                case rel => exact ⟨i + 1, o, by omega, by go_num, HO2.out, HO.out.2.out H.out.2 hil HIN.out⟩
              · have hz2 : decide ((0 : Int) < (pl : Int)) = false := decide_eq_false hz
                go_wp2
                go_roundg e
                case measure => omega
                case rel => exact ⟨i + 1, o, by omega, by go_num, HO2.out, HO.out.2.out H.out.2 hil HIN.out⟩
          | true =>
            have HIN := Lib.hid hin
            clear hin
            go_loopg [6] (D.getD i default).ps.length (fun e' s6 wx => ∃ (k : Nat) (o : List Nat), k + e' = (D.getD i default).ps.length ∧ s6 = .int .i64 k ∧ Aside (OwnI w wx g o ∧ AtNode D L t i k o))
            case atStart => exact ⟨0, o, by omega, rfl, HO.out.1, AtNode.start HO.out.2⟩
            case round =>
              clear HO
              obtain ⟨k, o, hk, rfl, HO⟩ := hrel
              obtain ⟨c0, c1, c2⟩ := HK.out.1 wr HO.out.1.2.1
              rw [HK.out.2.2] at c1
              rw [HIN.out] at c2
              cases gk with
              | zero =>
                have hkk : k = (D.getD i default).ps.length := by omega
                have HD : Hid (InTurn D L t (i + 1) o) := Lib.hid (AtNode.done H.out.2 (by have := HO.out.2; rwa [hkk] at this) hil)
                have hf3 : decide ((k : Int) < ((D.getD i default).ps.length : Int)) = false := decide_eq_false (by omega)
                generalize (D.getD i default).ps.length = pl at *
                go_wp2
                go_roundg e
                case measure => omega
                case rel => exact ⟨i + 1, o, by omega, by go_num, HO.out.1, HD.out⟩
              | succ e' =>
                have hf3 : ((k : Int) < ((D.getD i default).ps.length : Int)) := by omega
                have hkl : k < (D.getD i default).ps.length := by omega
                have hpv := HK.out.2.2
                have hS := HK.out.2.1
                rw [hpv] at hS
                obtain ⟨bp, op, rfl⟩ := strs_adr hS (by omega)
                have c3 := strs_cell hS rfl HO.out.1.2.1 hkl
                obtain ⟨j, hj, _⟩ := H.out.2.l1 i hil HIN.out _ (getD_mem hkl)
                have hjl := (place_at hj).1
                have hol := HO.out.2.1.1.len
                have hpi : placeI D ((D.getD i default).ps.getD k []) = j := by unfold placeI; rw [hj]
                have hfd := find_walk wr.drew ((H.out.1.below HO.out.1.2.1).below (Below.refl _ _).drew) ((D.getD i default).ps.getD k [])
                rw [hpi] at hfd
                have c4 := HO.out.1.at' (j := i) (by omega)
                have c5 := HO.out.1.at' (j := j) (by omega)
                have c6 : wr.drew.frozen? ⟨g, i, none⟩ = false := HO.out.1.fz i
                have hle1 := HO.out.2.1.1.le i hil
                have hle2 := HO.out.2.1.1.le j hjl
                have hle3 := H.out.2.l4 i hil
                have hle4 := H.out.2.l4 j hjl
                have HN := Lib.hid (And.intro (AtNode.step H.out.2 HO.out.2 hil HIN.out hkl hj) (HO.out.1.set i (max (o.getD i 0) (o.getD j 0 + 1))).drew)
                clear hS hpv hpi hj
                generalize (D.getD i default).ps.getD k [] = p at *
                generalize (D.getD i default).ps.length = pl at *
                generalize o.getD i 0 = oi at *
                generalize o.getD j 0 = oj at *
                have hil' : (i : Int) < (D.length : Int) := by omega
                have hjl' : (j : Int) < (D.length : Int) := by omega
                have hi0 : (0 : Int) ≤ (i : Int) := by omega
                have hj0 : (0 : Int) ≤ (j : Int) := by omega
                simp only [encStr_eq] at c3 hfd
                have hfd' : Calls Try.prog (41 : Nat) #[.pointer (some ⟨r, 0, none⟩), .string ⟨p.toArray⟩] wr.drew (fun e w' => e = .returned (.int .i64 (j : Int)) ∧ w' = wr.drew) := hfd.mono (fun e w' h => ⟨h.1, h.2.symm⟩)
                have HFD := Lib.hid hfd'
                clear hfd hfd'
                go_wp2
                refine wp_region_still_tail 25 (by kernel_rfl) (by kernel_rfl) ?_
                simp only [List.take_succ_cons, List.take_zero, List.drop_succ_cons, List.drop_zero]
                repeat still_step
                still_call HFD.out
                repeat still_step
                refine wpStill_nil ?_
                change wpList _ _ _ _ _ wr.drew
                have e1 : max ((oi : Nat) : Int) ((oj : Nat) + 1 : Int) = ((max oi (oj + 1) : Nat) : Int) := by omega
                go_wp2
                go_roundg e'
                case measure => omega
                case rel => exact ⟨k + 1, o.set i (max oi (oj + 1)), by omega, by go_num, HN.out.2, HN.out.1⟩

def rlevel (D : List RN) (L : Nat → Nat) (x : Bs) : Int := match place D x with | some i => if (D.getD i default).inn = true then (L i : Int) else -1 | none => -1
set_option maxRecDepth 100000 in
set_option maxHeartbeats 2000000 in
theorem rlevel_walk (w : World) {R : Nat → Prop} {r : Nat} {v : Value} {D : List RN} (h : RefAt w R r v D) {L : Nat → Nat} (hL : LevOk D L) (x : Bs) : Calls Try.prog 26 #[.pointer (some ⟨r, 0, none⟩), encStr x] w (RetBel (.int .i64 (rlevel D L x)) w) := by
  have hh := rhas_walk w h x
  cases hb : rhas D x with
  | false =>
    rw [hb] at hh
    have e : rlevel D L x = -1 := by
      unfold rlevel; unfold rhas at hb
      cases hp : place D x with
      | none => rfl
      | some i => rw [hp] at hb; simp only at hb ⊢; rw [if_neg (by rw [hb]; simp)]
    rw [e]
    have HH := Lib.hid hh
    clear hh hb e h
    simp only [encStr_eq] at HH ⊢
    go_enter Try.func26, Try.ntmps26
    go_wp2_with fail
    refine HH.out.mono ?_
    rintro e w' ⟨rfl, rfl⟩
    go_wp2
    go_ret
    exact ⟨rfl, Below.refl _ _⟩
  | true =>
    rw [hb] at hh
    have hp : ∃ i, place D x = some i := by
      unfold rhas at hb
      cases hp : place D x with
      | none => rw [hp] at hb; cases hb
      | some i => exact ⟨i, rfl⟩
    obtain ⟨i, hp⟩ := hp
    have hin : (D.getD i default).inn = true := by unfold rhas at hb; rw [hp] at hb; exact hb
    obtain ⟨hi, _⟩ := place_at hp
    have e : rlevel D L x = L i := by unfold rlevel; rw [hp]; simp only; rw [if_pos hin]
    have e1 : placeI D x = i := by unfold placeI; rw [hp]
    have hlen := h.len
    rw [e]
    have HH := Lib.hid hh
    have HL := Lib.hid (rlevels_walk w h hL)
    have hall : ∀ (w' : World) (o : List Nat), OwnI w w' w.heap.size o → TurnSt D L D.length o → (Calls Try.prog (41 : Nat) #[.pointer (some ⟨r, 0, none⟩), encStr x] w' (RetSame (.int .i64 (i : Int)) w')) ∧ w'.cell? ⟨w.heap.size, i, none⟩ = some (.int .i64 (L i : Nat)) := fun w' o ho ht => by
      have hf := find_walk w' (h.below ho.2.1) x
      rw [e1] at hf
      refine ⟨hf, ?_⟩
      have := ho.at' (j := i) (by rw [ht.len]; exact hi)
      rw [this, ht.eq i hi (hL.l4 i hi)]
    have HA := Lib.hid hall
    clear hh hb h hp hin e e1 hall
    simp only [encStr_eq] at HH HA ⊢
    go_enter Try.func26, Try.ntmps26
    go_wp2_with fail
    refine HH.out.mono ?_
    rintro e w' ⟨rfl, rfl⟩
    go_wp2_with fail
    refine HL.out.mono ?_
    rintro e w5 ⟨o, rfl, ho, ht⟩
    obtain ⟨hf, hcell⟩ := HA.out w5 o ho ht
    have HF := Lib.hid hf
    have HO := Lib.hid ho
    have hil : (i : Int) < (D.length : Int) := by omega
    clear hf ho ht HA HL
    go_wp2_with fail
    refine HF.out.mono ?_
    rintro e w' ⟨rfl, rfl⟩
    go_wp2
    go_ret
    exact ⟨rfl, HO.out.2.1⟩
end Go.Proofs.Ytccpblefebjadaa
