/- A slice of strings in memory; the graph in memory; what the small methods of dag do. -/
import Derived.Test.YtccpblefebjadaaA1
import Derived.Test.YtccpblefebjadaaM1
import Derived.Test.YtccpblefebjadaaProg
import Derived.WalkKit
import Derived.Outline
import Derived.WalkLawsBesides
import Derived.WalkSpells
import Derived.Lib.Hide
import Derived.Deep.QuietTactic
import Derived.BigQuiet
namespace Go.Proofs.Ytccpblefebjadaa
open Go.RowKit Go.Maps Go.WideMaps
open Go.ChangeMaps (heap_setBlock_same)
open Go.Proofs (encStr)

/-- THE SLICE v HOLDS THE STRINGS l, in a block of which S holds. -/
def Strs (w : World) (S : Nat → Prop) (v : Value) (l : List Bs) : Prop :=
  ∃ A c, v = .slice A l.length c ∧ (0 < l.length → ∃ b off, A = some ⟨b, off, none⟩ ∧ S b ∧ b < w.heap.size ∧ ∀ j, j < l.length → w.cell? ⟨b, off + j, none⟩ = some (encStr (l.getD j []))) ∧ (∀ x ∈ l, x.length ≤ 1000) ∧ l.length ≤ 1000

theorem encStr_eq (x : Bs) : encStr x = .string ⟨x.toArray⟩ := rfl

/-- It hands back v; nothing has turned. -/
def RetSame (v : Value) (w : World) (e : Ending) (w' : World) : Prop := e = .returned v ∧ w = w'
theorem RetSame.mk {v v' : Value} {w : World} (h : v' = v) : RetSame v w (.returned v') w := ⟨by rw [h], rfl⟩
theorem vbool {a b : Bool} (h : a = b) : Value.bool a = Value.bool b := by rw [h]

theorem size_ok {x : Bs} (h : x.length ≤ 1000) : (⟨x.toArray⟩ : ByteArray).size ≤ maxLen := by
  show x.toArray.size ≤ _
  unfold maxLen; simp; omega

def okS : Value → Bool
  | .slice .. => true
  | _ => false
def okI : Value → Bool
  | .int .i64 _ => true
  | _ => false
def okB : Value → Bool
  | .bool _ => true
  | _ => false

theorem zeroS (u : World) : (zeroValue 27).run Try.prog u = .ok (.slice none 0 0) u := by kernel_rfl
theorem zeroI (u : World) : (zeroValue 3).run Try.prog u = .ok (.int .i64 0) u := by kernel_rfl
theorem zeroB (u : World) : (zeroValue 4).run Try.prog u = .ok (.bool false) u := by kernel_rfl

set_option maxRecDepth 100000 in
/-- '(*Dag).Has' by its one look-up. -/
theorem has_any (g bi n : Nat) (f : Bs → Option Value) (x : Bs) (hx : x.length ≤ 1000) (w : World)
    (hc : w.cell? ⟨g, 0, none⟩ = some (.map (some bi))) (hm : MapAt w Try.prog 30 okS bi n f) :
    Calls Try.prog 24 #[.pointer (some ⟨g, 0, none⟩), encStr x] w (RetSame (.bool (f x).isSome) w) := by
  have hl := (hm.look_ok Try.underlying30 Try.underlying49 (zeroS w) rfl ⟨x.toArray⟩ (size_ok hx)).1
  simp only [encStr_eq]
  go_enter Try.func24, Try.ntmps24
  go_wp2
  go_ret
  exact RetSame.mk rfl

set_option maxRecDepth 100000 in
/-- '(*Dag).ready': all parents are in. -/
theorem ready_any (g bi n : Nat) (f : Bs → Option Value) (S : Nat → Prop) (v : Value) (ps : List Bs) (w : World)
    (hc : w.cell? ⟨g, 0, none⟩ = some (.map (some bi))) (hm : MapAt w Try.prog 30 okS bi n f) (hv : Strs w S v ps) :
    Calls Try.prog 38 #[.pointer (some ⟨g, 0, none⟩), v] w (RetSame (.bool (ps.all fun p => (f p).isSome)) w) := by
  obtain ⟨A, c, rfl, hA, hlen, hmax⟩ := hv
  go_enter Try.func38, Try.ntmps38
  go_wp2
  go_loop [9] (fun i => ∃ k : Nat, k ≤ ps.length ∧ i = .int .i64 k ∧ (ps.take k).all (fun p => (f p).isSome) = true) (fun i => ps.length - (intOf i).toNat)
  case atStart => exact ⟨0, Nat.zero_le _, rfl, by simp⟩
  case round =>
    obtain ⟨k, hk, rfl, hr⟩ := hrel
    by_cases hlt : k < ps.length
    · obtain ⟨b, off, rfl, _, _, hcell⟩ := hA (by omega)
      have hck := hcell k hlt
      have hx := hlen (ps.getD k []) (by simp [List.getD_eq_getElem?_getD, hlt])
      have hsn : (ps.take (k + 1)).all (fun p => (f p).isSome) = (f (ps.getD k [])).isSome := by
        rw [List.take_succ_eq_append_getElem hlt, List.all_append, hr]; simp [List.getD_eq_getElem?_getD, hlt]
      have hfin : (f (ps.getD k [])).isSome = false → ps.all (fun p => (f p).isSome) = false := fun h => by
        rw [List.all_eq_false]; exact ⟨ps.getD k [], by simp [List.getD_eq_getElem?_getD, hlt], by rw [h]; simp⟩
      generalize ps.getD k [] = x at hck hx hsn hfin
      have h24 := has_any g bi n f x hx w hc hm
      have HS := Lib.hid hsn
      have HF := Lib.hid hfin
      clear hA hcell hsn hfin hr
      cases hb : (f x).isSome <;> rw [hb] at h24
      all_goals
        have HB := Lib.hid hb
        clear hb
        have H24 := Lib.hid h24
        clear h24
        go_wp2_with (go_at_call 24; refine H24.out.mono ?_; rintro e w' ⟨rfl, rfl⟩)
      · go_ret
        exact RetSame.mk (vbool (HF.out HB.out).symm)
      · go_round
        case rel => exact ⟨k + 1, by omega, by go_num, by rw [HS.out, HB.out]⟩
        case measure => simp [intOf]; omega
    · obtain rfl : k = ps.length := by omega
      rw [List.take_length] at hr
      have HR := Lib.hid hr
      clear hr
      go_wp2
      go_ret
      exact RetSame.mk (vbool HR.out.symm)

/-- w' IS w BUT FOR THE BLOCKS OF S, and for new ones. -/
structure Frame (S : Nat → Prop) (w w' : World) : Prop where
  os : w'.os = w.os
  tape : w'.tape = w.tape
  output : w'.output = w.output
  size : w.heap.size ≤ w'.heap.size
  block : ∀ i, i < w.heap.size → ¬ S i → w'.heap[i]? = w.heap[i]?
theorem Frame.refl (S : Nat → Prop) (w : World) : Frame S w w := ⟨rfl, rfl, rfl, Nat.le_refl _, fun _ _ _ => rfl⟩
theorem Frame.trans {S : Nat → Prop} {a b c : World} (h : Frame S a b) (k : Frame S b c) : Frame S a c :=
  ⟨k.os.trans h.os, k.tape.trans h.tape, k.output.trans h.output, Nat.le_trans h.size k.size, fun i hi hs => (k.block i (Nat.lt_of_lt_of_le hi h.size) hs).trans (h.block i hi hs)⟩
theorem Frame.mono {S T : Nat → Prop} {a b : World} (h : Frame S a b) (hst : ∀ i, i < a.heap.size → S i → T i) : Frame T a b :=
  ⟨h.os, h.tape, h.output, h.size, fun i hi hs => h.block i hi (fun e => hs (hst i hi e))⟩
theorem Frame.setBlock {S : Nat → Prop} (w : World) (b : Nat) (o : Obj) (hb : S b) : Frame S w (ChangeMaps.setBlock w b o) :=
  ⟨rfl, rfl, rfl, by simp [ChangeMaps.setBlock], fun i _ hi => by
    have hne : b ≠ i := fun e => hi (e ▸ hb)
    simp [ChangeMaps.setBlock, hne]⟩
theorem Frame.drew (S : Nat → Prop) (w : World) : Frame S w w.drew := ⟨rfl, rfl, rfl, Nat.le_refl _, fun _ _ _ => rfl⟩
theorem Frame.of_turned {w w' : World} {b : Nat} (h : w.mapTurned w' b) : Frame (· = b) w w' :=
  ⟨h.grown.os, h.grown.tape, h.grown.output, h.grown.size, fun i hi hs => h.grown.block i hi (fun e => hs (by cases e; rfl))⟩
theorem Frame.of_below {w w' : World} (h : Below w.heap.size w w') : Frame (fun _ => False) w w' := ⟨h.os, h.tape, h.output, h.size, fun i hi _ => h.block i hi⟩
theorem Frame.cell {S : Nat → Prop} {w w' : World} (h : Frame S w w') {a : Addr} {v : Value} (hc : w.cell? a = some v) (hs : ¬ S a.block) : w'.cell? a = some v := by
  have hlt := World.block_lt_of_cell? w a hc
  unfold World.cell? at hc ⊢
  rw [h.block _ hlt hs]; exact hc
theorem Frame.map {S : Nat → Prop} {w w' : World} (h : Frame S w w') {P : Program} {k : TypeId} {ok : Value → Bool} {b n : Nat} {f : Bs → Option Value} (hm : MapAt w P k ok b n f) (hs : ¬ S b) : MapAt w' P k ok b n f :=
  hm.same (h.block b hm.lt hs)

/-- WHAT THE STORES OF 'enter' DO, one behind the other. -/
theorem enter_stores (bi bl bw ni nl nw : Nat) (fi fl fw : Bs → Option Value) (x : Bs) (hx : x.length ≤ 1000) (v : Value) (hv : okS v = true) (L : Int) (w : World)
    (hni : ni < 1000) (hnl : nl < 1000) (hil : bi ≠ bl) (hiw : bi ≠ bw) (hlw : bl ≠ bw)
    (mi : MapAt w Try.prog 30 okS bi ni fi) (ml : MapAt w Try.prog 30 okI bl nl fl) (mw : MapAt w Try.prog 30 okS bw nw fw) :
    ∃ (v1 v3 : Value) (s1 s3 : Int) (W1 W2 W3 W4 W5 : World),
      (Instr.mapEntry 49 (.map (some bi)) (.string ⟨x.toArray⟩)).run Try.prog w.drew = .ok (.tuple #[v1, goInt s1]) W1 ∧
      (Instr.entryStore 49 (.map (some bi)) (goInt s1) v).run Try.prog W1 = .ok () W2 ∧
      (Instr.mapEntry 50 (.map (some bl)) (.string ⟨x.toArray⟩)).run Try.prog W2 = .ok (.tuple #[v3, goInt s3]) W3 ∧
      (Instr.entryStore 50 (.map (some bl)) (goInt s3) (.int .i64 L)).run Try.prog W3 = .ok () W4 ∧
      ((Builtin.delete_ #[49, 30] 0 #[.map (some bw), .string ⟨x.toArray⟩]).run Try.prog W4 = .ok (.tuple #[]) W5) ∧
      Frame (· = bi) w.drew W1 ∧ Frame (· = bi) W1 W2 ∧ Frame (· = bl) W2 W3 ∧ Frame (· = bl) W3 W4 ∧ Frame (· = bw) W4 W5 ∧
      MapAt W5 Try.prog 30 okS bi (ni + 1) (upd fi x (some v)) ∧ MapAt W5 Try.prog 30 okI bl (nl + 1) (upd fl x (some (.int .i64 L))) ∧ MapAt W5 Try.prog 30 okS bw nw (upd fw x none) := by
  have e0 : (⟨x.toArray⟩ : ByteArray).data.toList = x := by simp
  have hxs := size_ok hx
  obtain ⟨v1, s1, es1, c1, r1, k1⟩ := (show MapAt w.drew Try.prog 30 okS bi ni fi from mi).entry Try.underlying30 Try.underlying49 zeroS (by unfold maxLen; omega) ⟨x.toArray⟩ hxs hv
  have b0 : w.drew.heap[bi]? ≠ none := by obtain ⟨es, c, h⟩ := mi.isMap; show w.heap[bi]? ≠ none; rw [h]; simp
  have F1 : Frame (· = bi) w.drew (ChangeMaps.setBlock w.drew bi (.map es1 c1)) := Frame.setBlock _ _ _ rfl
  have hb1 : (ChangeMaps.setBlock w.drew bi (.map es1 c1)).heap[bi]? = some (.map es1 c1) := by
    obtain ⟨es, c, h⟩ := mi.isMap; exact heap_setBlock_same (w := w.drew) h _
  obtain ⟨es2, c2, r2, k2⟩ := k1 _ hb1
  generalize ChangeMaps.setBlock w.drew bi (.map es1 c1) = W1 at *
  have F2 : Frame (· = bi) W1 (ChangeMaps.setBlock W1 bi (.map es2 c2)) := Frame.setBlock _ _ _ rfl
  have hb2 : (ChangeMaps.setBlock W1 bi (.map es2 c2)).heap[bi]? = some (.map es2 c2) := heap_setBlock_same hb1 _
  generalize ChangeMaps.setBlock W1 bi (.map es2 c2) = W2 at *
  have m2 := k2 W2 hb2
  have ml2 : MapAt W2 Try.prog 30 okI bl nl fl := F2.map (F1.map (w := w.drew) ml (fun e => hil e.symm)) (fun e => hil e.symm)
  have mw2 : MapAt W2 Try.prog 30 okS bw nw fw := F2.map (F1.map (w := w.drew) mw (fun e => hiw e.symm)) (fun e => hiw e.symm)
  obtain ⟨v3, s3, es3, c3, r3, k3⟩ := ml2.entry Try.underlying30 Try.underlying50 zeroI (by unfold maxLen; omega) ⟨x.toArray⟩ hxs (v := .int .i64 L) rfl
  have F3 : Frame (· = bl) W2 (ChangeMaps.setBlock W2 bl (.map es3 c3)) := Frame.setBlock _ _ _ rfl
  have hb3 : (ChangeMaps.setBlock W2 bl (.map es3 c3)).heap[bl]? = some (.map es3 c3) := by
    obtain ⟨es, c, h⟩ := ml2.isMap; exact heap_setBlock_same h _
  obtain ⟨es4, c4, r4, k4⟩ := k3 _ hb3
  generalize ChangeMaps.setBlock W2 bl (.map es3 c3) = W3 at *
  have F4 : Frame (· = bl) W3 (ChangeMaps.setBlock W3 bl (.map es4 c4)) := Frame.setBlock _ _ _ rfl
  have hb4 : (ChangeMaps.setBlock W3 bl (.map es4 c4)).heap[bl]? = some (.map es4 c4) := heap_setBlock_same hb3 _
  generalize ChangeMaps.setBlock W3 bl (.map es4 c4) = W4 at *
  have m4 := k4 W4 hb4
  have mi4 := F4.map (F3.map m2 hil) hil
  have mw4 := F4.map (F3.map mw2 (fun e => hlw e.symm)) (fun e => hlw e.symm)
  obtain ⟨W5, r5, m5, t5⟩ := mw4.drop Try.underlying30 Try.underlying49 ⟨x.toArray⟩ hxs 0
  have F5 := Frame.of_turned t5
  rw [e0] at m4 mi4 m5
  exact ⟨v1, v3, s1, s3, W1, W2, W3, W4, W5, r1, r2, r3, r4, r5, F1, F2, F3, F4, F5, F5.map mi4 hiw, F5.map m4 hlw, m5⟩

/-- levels by a function. -/
def levB (lev : Bs → Nat) (ps : List Bs) : Nat := ps.foldl (fun l p => max l (lev p + 1)) 0
theorem levB_snoc (lev : Bs → Nat) (ps : List Bs) (p : Bs) : levB lev (ps ++ [p]) = max (levB lev ps) (lev p + 1) := by simp [levB]
theorem levB_le (lev : Bs → Nat) (B : Nat) (h : ∀ p, lev p ≤ B) (ps : List Bs) : levB lev ps ≤ B + 1 := by
  suffices ∀ a, a ≤ B + 1 → ps.foldl (fun l p => max l (lev p + 1)) a ≤ B + 1 from this 0 (by omega)
  induction ps with
  | nil => intro a ha; exact ha
  | cons p r ih => intro a ha; exact ih _ (by have := h p; show max a (lev p + 1) ≤ _; omega)

/-- What 'enter' leaves. -/
structure Entered (bi bl bw ni nl nw : Nat) (fi fl fw : Bs → Option Value) (x : Bs) (v : Value) (L : Nat) (w w' : World) : Prop where
  fr : Frame (fun i => i = bi ∨ i = bl ∨ i = bw) w w'
  mi : MapAt w' Try.prog 30 okS bi (ni + 1) (upd fi x (some v))
  ml : MapAt w' Try.prog 30 okI bl (nl + 1) (upd fl x (some (.int .i64 L)))
  mw : MapAt w' Try.prog 30 okS bw nw (upd fw x none)
def EnterPost (bi bl bw ni nl nw : Nat) (fi fl fw : Bs → Option Value) (x : Bs) (v : Value) (L : Nat) (w : World) (e : Ending) (w' : World) : Prop :=
  e = .returned (.tuple #[]) ∧ Entered bi bl bw ni nl nw fi fl fw x v L w w'

set_option maxRecDepth 100000 in
set_option maxHeartbeats 1000000 in
theorem enter_any (g bi bl bw ni nl nw : Nat) (fi fl fw : Bs → Option Value) (x : Bs) (hx : x.length ≤ 1000) (S : Nat → Prop) (v : Value) (ps : List Bs) (lev : Bs → Nat) (w : World)
    (hc0 : w.cell? ⟨g, 0, none⟩ = some (.map (some bi))) (hc1 : w.cell? ⟨g, 1, none⟩ = some (.map (some bw))) (hc2 : w.cell? ⟨g, 2, none⟩ = some (.map (some bl)))
    (hni : ni < 1000) (hnl : nl < 1000) (hil : bi ≠ bl) (hiw : bi ≠ bw) (hlw : bl ≠ bw)
    (mi : MapAt w Try.prog 30 okS bi ni fi) (ml : MapAt w Try.prog 30 okI bl nl fl) (mw : MapAt w Try.prog 30 okS bw nw fw) (hv : Strs w S v ps)
    (hlev : ∀ p ∈ ps, (fl p).getD (.int .i64 0) = .int .i64 (lev p)) (hB : ∀ p, lev p ≤ 100000) :
    Calls Try.prog 39 #[.pointer (some ⟨g, 0, none⟩), encStr x, v] w (EnterPost bi bl bw ni nl nw fi fl fw x v (levB lev ps) w) := by
  have hgi : g ≠ bi := by
    rintro rfl; obtain ⟨es, c, h⟩ := mi.isMap; unfold World.cell? at hc0; rw [h] at hc0; cases hc0
  have hgl : g ≠ bl := by
    rintro rfl; obtain ⟨es, c, h⟩ := ml.isMap; unfold World.cell? at hc0; rw [h] at hc0; cases hc0
  obtain ⟨A, c, rfl, hA, hlen, hmax⟩ := hv
  obtain ⟨v1, v3, s1, s3, W1, W2, W3, W4, W5, r1, r2, r3, r4, r5, F1, F2, F3, F4, F5, m1, m2, m3⟩ := enter_stores bi bl bw ni nl nw fi fl fw x hx (.slice A ps.length c) rfl (levB lev ps) w hni hnl hil hiw hlw mi ml mw
  have c1 : W4.cell? ⟨g, 1, none⟩ = some (.map (some bw)) := F4.cell (F3.cell (F2.cell (F1.cell (w := w.drew) hc1 hgi) hgi) hgl) hgl
  have hE : Entered bi bl bw ni nl nw fi fl fw x (.slice A ps.length c) (levB lev ps) w W5 := ⟨(((((Frame.drew _ w).trans (F1.mono (fun i _ h => .inl h))).trans (F2.mono (fun i _ h => .inl h))).trans (F3.mono (fun i _ h => .inr (.inl h)))).trans (F4.mono (fun i _ h => .inr (.inl h)))).trans (F5.mono (fun i _ h => .inr (.inr h))), m1, m2, m3⟩
  have HE := Lib.hid hE
  clear hE F1 F2 F3 F4 F5 m1 m2 m3 hil hiw hlw hgi hgl hni hnl
  simp only [encStr_eq, goInt] at *
  go_enter Try.func39, Try.ntmps39
  go_wp2
  go_loop [6, 11] (fun l i => ∃ k : Nat, k ≤ ps.length ∧ i = .int .i64 k ∧ l = .int .i64 (levB lev (ps.take k))) (fun _ i => ps.length - (intOf i).toNat)
  case atStart => exact ⟨0, Nat.zero_le _, rfl, rfl⟩
  case round =>
    obtain ⟨k, hk, rfl, rfl⟩ := hrel
    have hlb := levB_le lev 100000 hB (ps.take k)
    by_cases hlt : k < ps.length
    · obtain ⟨b, off, rfl, _, _, hcell⟩ := hA (by omega)
      have hck := hcell k hlt
      have hmem : ps.getD k [] ∈ ps := by simp [List.getD_eq_getElem?_getD, hlt]
      have hx := hlen (ps.getD k []) hmem
      have hsn : levB lev (ps.take (k + 1)) = max (levB lev (ps.take k)) (lev (ps.getD k []) + 1) := by
        rw [List.take_succ_eq_append_getElem hlt, levB_snoc]; simp [List.getD_eq_getElem?_getD, hlt]
      have hlook := ml.look Try.underlying30 Try.underlying50 (zeroI w) rfl ⟨(ps.getD k []).toArray⟩ (size_ok hx)
      rw [hlev _ hmem] at hlook
      have hB1 := hB (ps.getD k [])
      generalize ps.getD k [] = y at *
      generalize lev y = ly at *
      generalize levB lev (ps.take k) = q at *
      have HS := Lib.hid hsn
      clear hA hcell hsn hlen hlev mi mw ml
      go_wp2
      go_round
      case rel => exact ⟨k + 1, by omega, by go_num, by rw [HS.out]; congr 1; split <;> omega⟩
      case measure => simp [intOf]; omega
    · obtain rfl : k = ps.length := by omega
      rw [List.take_length] at *
      clear hA mi ml mw hlev hlen
      generalize levB lev ps = L at *
      go_wp2
      go_outline
      go_region
      all_goals go_wp2
      all_goals go_end0
      all_goals exact ⟨rfl, HE.out⟩
end Go.Proofs.Ytccpblefebjadaa
