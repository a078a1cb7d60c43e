/- grapevinelaw15.awake. -/
import Derived.Test.YtccpblefebjadaaA18
namespace Go.Proofs.Ytccpblefebjadaa
open Go.RowKit Go.Maps Go.WideMaps Go.Sort Go.Shelf
open Go.Proofs (encStr)
open M (Rising keys get Graph Stands Searched)

/-- One round: the heap has grown, below N nothing has turned, the graph lies from N on. -/
structure Stood (N : Nat) (w0 w : World) (F : Nat → Prop) (g : Nat) (G : Graph) : Prop where
  dag : DagAt w F g G
  lo : ∀ i, F i → N ≤ i
  bel : Below N w0 w
  at' : N ≤ w.heap.size
theorem Stood.next {N : Nat} {w0 w w' : World} {F : Nat → Prop} {g : Nat} {G : Graph} (h : Stood N w0 w F g G) (hb : Below w.heap.size w w') : Stood N w0 w' F g G :=
  ⟨h.dag.below hb, h.lo, h.bel.trans (hb.mono h.at'), Nat.le_trans h.at' hb.size⟩
theorem Stood.alloc {N : Nat} {w0 w : World} {F : Nat → Prop} {g : Nat} {G : Graph} (h : Stood N w0 w F g G) (o : Obj) : Stood N w0 (w.alloc o) F g G :=
  h.next ((Below.refl _ _).alloc (Nat.le_refl _) o)
theorem Stood.new {w w' : World} {e : Ending} (h : NewDag w e w') : Stood w.heap.size w w' (fun b => w.heap.size ≤ b ∧ b < w.heap.size + 4) (w.heap.size + 3) Graph.empty :=
  ⟨h.2.2.2, fun _ h => h.1, h.2.1, h.2.1.size⟩
/-- Behind Add. -/
theorem Stood.added {N : Nat} {w0 w w' : World} {F : Nat → Prop} {g : Nat} {G G' : Graph} {out : List Bs} {e : Ending} (h : Stood N w0 w F g G) (k : Added w F g G' out e w') :
    ∃ v F', e = .returned v ∧ Stood N w0 w' F' g G' ∧ Strs w' (fun b => w.heap.size ≤ b ∧ ¬ F' b) v out ∧ (∀ i, F' i → F i ∨ w.heap.size ≤ i) ∧ Frame F w w' := by
  obtain ⟨v, he, F', hd, hs, _, hf, hv⟩ := k
  exact ⟨v, F', he, ⟨hd, fun i hi => (hs i hi).elim (h.lo i) (fun q => Nat.le_trans h.at' q), frame_below h.bel h.at' h.lo hf, Nat.le_trans h.at' hf.size⟩, hv, hs, hf⟩

theorem strs_one (w : World) (x : Bs) (hx : x.length ≤ 1000) : Strs (w.alloc (.cells #[encStr x] 30)) (fun b => b = w.heap.size) (.slice (some ⟨w.heap.size, 0, none⟩) 1 1) [x] :=
  ⟨_, 1, rfl, fun _ => ⟨w.heap.size, 0, rfl, rfl, by simp, fun j hj => by
    obtain rfl : j = 0 := by simp at hj; exact hj
    have := World.alloc_heap_new w (.cells #[encStr x] 30)
    unfold World.cell?; rw [this]; rfl⟩, by simpa using hx, by simp⟩
theorem strs_two (w : World) (x y : Bs) (hx : x.length ≤ 1000) (hy : y.length ≤ 1000) : Strs (w.alloc (.cells #[encStr x, encStr y] 30)) (fun b => b = w.heap.size) (.slice (some ⟨w.heap.size, 0, none⟩) 2 2) [x, y] :=
  ⟨_, 2, rfl, fun _ => ⟨w.heap.size, 0, rfl, rfl, by simp, fun j hj => by
    have := World.alloc_heap_new w (.cells #[encStr x, encStr y] 30)
    match j, hj with
    | 0, _ => unfold World.cell?; rw [this]; rfl
    | 1, _ => unfold World.cell?; rw [this]; rfl⟩, by simpa using ⟨hx, hy⟩, by simp⟩
theorem strs_nil (w : World) : Strs w (fun _ => False) (.slice none 0 0) [] := ⟨none, 0, rfl, fun h => absurd h (by simp), by simp, by simp⟩

def aG1 : Graph := (Graph.empty.add [98] [[97]]).1
def aG2 : Graph := (aG1.add [97] []).1
theorem a0 : Graph.empty.inn.length + Graph.empty.wai.length < 500 := by decide
theorem a1 : (Graph.empty.add [98] [[97]]).2 = [] := by decide
theorem a2 : aG1.lacks = [[97]] := by decide
theorem a2' : aG1.lacks.length ≤ 1000 := by rw [a2]; simp
theorem a3 : (aG1.add [97] []).2 = [[97], [98]] := by decide
theorem a4 : aG2.level [98] = 1 := by decide
theorem a5 : aG2.has [97] = true := by decide
theorem a6 : aG2.has [98] = true := by decide
theorem a7 : aG2.parents [98] = [[97]] := by decide
theorem a8 : Stands aG2 [97] [98] := .step (p := [97]) (by rw [a7]; simp) .self
theorem a9 : aG2.heads = [[98]] := by decide
theorem a10 : aG2.ids.length = 2 := by decide
theorem a11 : aG1.inn.length + aG1.wai.length < 500 := by decide

/-- What Add does to a graph that stands. -/
theorem Stood.add {N : Nat} {w0 w : World} {F : Nat → Prop} {g : Nat} {G : Graph} (h : Stood N w0 w F g G) (hcnt : G.inn.length + G.wai.length < 500) (x : Bs) (hx : x.length ≤ 1000) {S : Nat → Prop} {v : Value} {ps : List Bs} (hv : Strs w S v ps) :
    Calls Try.prog 15 #[.pointer (some ⟨g, 0, none⟩), encStr x, v] w (fun e w' => ∃ u, e = .returned u ∧ ∃ F', Stood N w0 w' F' g (G.add x ps).1 ∧ Strs w' (fun b => w.heap.size ≤ b ∧ ¬ F' b) u (G.add x ps).2 ∧ (∀ i, F' i → F i ∨ w.heap.size ≤ i) ∧ Frame F w w') :=
  (add_dag h.dag hcnt x hx hv).mono fun _ _ k => let ⟨u, F', he, r⟩ := h.added k; ⟨u, he, F', r⟩

theorem Stood.lacks {N : Nat} {w0 w : World} {F : Nat → Prop} {g : Nat} {G : Graph} (h : Stood N w0 w F g G) (hl : G.lacks.length ≤ 1000) :
    Calls Try.prog 19 #[.pointer (some ⟨g, 0, none⟩)] w (fun e w' => ∃ u, e = .returned u ∧ Stood N w0 w' F g G ∧ Strs w' (fun b => w.heap.size ≤ b) u G.lacks ∧ Below w.heap.size w w') :=
  (lacks_dag h.dag hl).mono fun _ _ ⟨u, he, hs, hb⟩ => ⟨u, he, h.next hb, hs, hb⟩
theorem Stood.heads {N : Nat} {w0 w : World} {F : Nat → Prop} {g : Nat} {G : Graph} (h : Stood N w0 w F g G) :
    Calls Try.prog 12 #[.pointer (some ⟨g, 0, none⟩)] w (fun e w' => ∃ u, e = .returned u ∧ Stood N w0 w' F g G ∧ Strs w' (fun b => w.heap.size ≤ b) u G.heads ∧ Below w.heap.size w w') :=
  (heads_dag h.dag).mono fun _ _ ⟨u, he, hs, hb⟩ => ⟨u, he, h.next hb, hs, hb⟩
theorem Stood.ids {N : Nat} {w0 w : World} {F : Nat → Prop} {g : Nat} {G : Graph} (h : Stood N w0 w F g G) :
    Calls Try.prog 11 #[.pointer (some ⟨g, 0, none⟩)] w (fun e w' => ∃ u, e = .returned u ∧ Stood N w0 w' F g G ∧ Strs w' (fun b => w.heap.size ≤ b) u G.ids ∧ Below w.heap.size w w') :=
  (ids_dag h.dag).mono fun _ _ ⟨u, he, hs, hb⟩ => ⟨u, he, h.next hb, hs, hb⟩
theorem Stood.waiting {N : Nat} {w0 w : World} {F : Nat → Prop} {g : Nat} {G : Graph} (h : Stood N w0 w F g G) :
    Calls Try.prog 17 #[.pointer (some ⟨g, 0, none⟩)] w (fun e w' => ∃ u, e = .returned u ∧ Stood N w0 w' F g G ∧ Strs w' (fun b => w.heap.size ≤ b) u G.waiting ∧ Below w.heap.size w w') :=
  (waiting_dag h.dag).mono fun _ _ ⟨u, he, hs, hb⟩ => ⟨u, he, h.next hb, hs, hb⟩
theorem Stood.parents {N : Nat} {w0 w : World} {F : Nat → Prop} {g : Nat} {G : Graph} (h : Stood N w0 w F g G) (x : Bs) (hx : x.length ≤ 1000) :
    Calls Try.prog 27 #[.pointer (some ⟨g, 0, none⟩), encStr x] w (fun e w' => ∃ u, e = .returned u ∧ Stood N w0 w' F g G ∧ Strs w' (fun b => w.heap.size ≤ b) u (G.parents x) ∧ Below w.heap.size w w') :=
  (parents_dag h.dag x hx).mono fun _ _ ⟨u, he, hs, hb⟩ => ⟨u, he, h.next hb, hs, hb⟩
theorem Stood.above {N : Nat} {w0 w : World} {F : Nat → Prop} {g : Nat} {G : Graph} (h : Stood N w0 w F g G) (a b : Bs) (ha : a.length ≤ 1000) (hb : b.length ≤ 1000) :
    Calls Try.prog 13 #[.pointer (some ⟨g, 0, none⟩), encStr a, encStr b] w (fun e w' => ∃ r : Bool, e = .returned (.bool r) ∧ (r = true ↔ G.has a = true ∧ G.has b = true ∧ Stands G a b) ∧ Stood N w0 w' F g G ∧ Below w.heap.size w w') :=
  (above_dag h.dag a b ha hb).mono fun _ _ ⟨r, he, hr, hb⟩ => ⟨r, he, hr, h.next hb, hb⟩
theorem Stood.same {N : Nat} {w0 w : World} {F : Nat → Prop} {g : Nat} {G : Graph} (h : Stood N w0 w F g G) {S T : Nat → Prop} {u v : Value} {a b : List Bs} (hu : Strs w S u a) (hv : Strs w T v b) :
    Calls Try.prog 18 #[u, v] w (fun e w' => e = .returned (.bool (decide (a = b))) ∧ Stood N w0 w' F g G ∧ Below w.heap.size w w') :=
  (ids_same w hu hv).mono fun _ _ ⟨he, hb⟩ => ⟨he, h.next hb, hb⟩

set_option maxRecDepth 100000 in
set_option maxHeartbeats 2000000 in
theorem awake_walk (w : World) : Calls Try.prog 8 #[] w (RetBel (.bool true) w) := by
  go_enter Try.func8, Try.ntmps8
  go_wp2_with fail
  refine (new_dag _).mono ?_
  rintro e w1 hd
  obtain rfl := hd.1
  have S1 := Stood.new hd
  have S2 := S1.alloc (.cells #[encStr [97]] 30)
  have V2 := strs_one w1 [97] (by simp)
  have C2' := S2.add a0 [98] (by simp) V2
  have C2 := Lib.hid C2'
  clear C2' V2
  clear hd S1 S2
  go_wp2_with fail
  refine C2.out.mono ?_
  rintro e w3 ⟨u3, rfl, F3, S3, V3, _⟩
  rw [a1] at V3
  rw [show (Graph.empty.add [98] [[97]]).1 = aG1 from rfl] at S3
  have L3 := Lib.hid S3.dag.lt
  have C3 := Lib.hid (S3.lacks a2')
  obtain ⟨A3, c3, rfl, _⟩ := V3
  clear S3 C2
  go_wp2_with fail
  refine C3.out.mono ?_
  rintro e w4 ⟨u4, rfl, S4, V4, B4⟩
  rw [a2] at V4
  have C4 := Lib.hid (S4.add a11 [97] (by simp) (strs_nil w4))
  have VV4 := Lib.hid V4
  clear S4 C3 V4 B4
  go_wp2_with fail
  refine C4.out.mono ?_
  rintro e w5 ⟨u5, rfl, F5, S5, V5, _, FR5⟩
  rw [a3] at V5
  rw [show (aG1.add [97] []).1 = aG2 from rfl] at S5
  have V4' := VV4.out.frame FR5 (fun i _ h hf => by have := L3.out i hf; omega)
  have S6 := S5.alloc (.cells #[encStr [97]] 30)
  have C6 := Lib.hid (S6.same (V4'.below ((Below.refl _ _).alloc (Nat.le_refl _) _)) (strs_one w5 [97] (by simp)))
  have V5' := Lib.hid (V5.below ((Below.refl _ _).alloc (Nat.le_refl _) (.cells #[encStr [97]] 30)))
  clear S5 S6 V4' V5 FR5 C4 VV4 L3
  go_wp2_with fail
  refine C6.out.mono ?_
  rintro e w6 ⟨rfl, S7, B7⟩
  have S8 := S7.alloc (.cells #[encStr [97], encStr [98]] 30)
  have C8 := Lib.hid (S8.same ((V5'.out.below B7).below ((Below.refl _ _).alloc (Nat.le_refl _) _)) (strs_two w6 [97] [98] (by simp) (by simp)))
  clear S7 S8 B7 C6 V5'
  go_wp2_with fail
  refine C8.out.mono ?_
  rintro e w7 ⟨rfl, S9, _⟩
  have C9 := level_dag S9.dag [98] (by simp)
  rw [a4] at C9
  have C9 := Lib.hid C9
  have SS9 := Lib.hid S9
  clear C8 S9
  go_wp2_with fail
  refine C9.out.mono ?_
  rintro e w8 ⟨rfl, rfl⟩
  have C10 := Lib.hid (SS9.out.above [97] [98] (by simp) (by simp))
  clear C9
  go_wp2_with fail
  refine C10.out.mono ?_
  rintro e w9 ⟨r, rfl, hr, S10, _⟩
  obtain rfl : r = true := hr.2 ⟨a5, a6, a8⟩
  have C11 := Lib.hid S10.heads
  clear C10 S10 hr
  go_wp2_with fail
  refine C11.out.mono ?_
  rintro e w10 ⟨u10, rfl, S11, V11, _⟩
  rw [a9] at V11
  have S12 := S11.alloc (.cells #[encStr [98]] 30)
  have C12 := Lib.hid (S12.same (V11.below ((Below.refl _ _).alloc (Nat.le_refl _) _)) (strs_one w10 [98] (by simp)))
  clear C11 S11 S12 V11
  go_wp2_with fail
  refine C12.out.mono ?_
  rintro e w11 ⟨rfl, S13, _⟩
  have C13 := many_dag S13.dag
  rw [a10] at C13
  have C13 := Lib.hid C13
  have SS13 := Lib.hid S13
  clear C12 S13
  go_wp2_with fail
  refine C13.out.mono ?_
  rintro e w12 ⟨rfl, rfl⟩
  go_wp2
  go_ret
  exact ⟨rfl, SS13.out.bel⟩
end Go.Proofs.Ytccpblefebjadaa
