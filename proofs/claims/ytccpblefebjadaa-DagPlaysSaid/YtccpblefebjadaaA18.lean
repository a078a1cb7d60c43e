/- grapevinelaw15.added: a graph of a list of nodes. -/
import Derived.Test.YtccpblefebjadaaA17
namespace Go.Proofs.Ytccpblefebjadaa
open Go.RowKit Go.Maps Go.WideMaps Go.Sort Go.Shelf
open Go.Proofs (encStr)
open M (Rising keys get Graph Stands Searched)

theorem RawStrs.below {w w' : World} {v : Value} {l : List ByteArray} {n : Nat} (h : RawStrs w v l) (hn : w.heap.size ≤ n) (hb : Below n w w') : RawStrs w' v l := by
  obtain ⟨A, c, rfl, h1, h2, h3⟩ := h
  refine ⟨A, c, rfl, h1, h2, fun hp => ?_⟩
  obtain ⟨b, off, rfl, hlt, hc⟩ := h3 hp
  exact ⟨b, off, rfl, Nat.lt_of_lt_of_le hlt hb.size, fun j hj => (hb.cell (p := ⟨b, off + j, none⟩) (by show b < n; omega)).trans (hc j hj)⟩
theorem NodesAt.below {w w' : World} {v : Value} {L : List Nd} {n : Nat} (h : NodesAt w v L) (hn : w.heap.size ≤ n) (hb : Below n w w') : NodesAt w' v L := by
  obtain ⟨A, c, rfl, h1, h3⟩ := h
  refine ⟨A, c, rfl, h1, fun hp => ?_⟩
  obtain ⟨b, off, rfl, hlt, hc⟩ := h3 hp
  refine ⟨b, off, rfl, Nat.lt_of_lt_of_le hlt hb.size, fun j hj => ?_⟩
  obtain ⟨g1, g2, pv, g3, g4⟩ := hc j hj
  exact ⟨(hb.cell (p := ⟨b, off + j * 3, none⟩) (by show b < n; omega)).trans g1, g2, pv, (hb.cell (p := ⟨b, off + j * 3 + 1, none⟩) (by show b < n; omega)).trans g3, g4.below hn hb⟩

def bs (s : ByteArray) : Bs := s.data.toList
theorem enc_bs (s : ByteArray) : encStr (bs s) = .string s := by simp [encStr_eq, bs]
theorem len_bs (s : ByteArray) : (bs s).length = s.size := by simp [bs]

theorem RawStrs.strs {w : World} {v : Value} {l : List ByteArray} (h : RawStrs w v l) (h1 : ∀ s ∈ l, s.size ≤ 1000) (h2 : l.length ≤ 1000) : Strs w (· < w.heap.size) v (l.map bs) := by
  obtain ⟨A, c, rfl, _, _, h3⟩ := h
  refine ⟨A, c, by simp, fun hp => ?_, ?_, by simpa using h2⟩
  · obtain ⟨b, off, rfl, hlt, hc⟩ := h3 (by simpa using hp)
    refine ⟨b, off, rfl, hlt, hlt, fun j hj => ?_⟩
    have hj' : j < l.length := by simpa using hj
    rw [hc j hj']
    simp [List.getD_eq_getElem?_getD, hj', enc_bs]
  · intro x hx
    obtain ⟨s, hs, rfl⟩ := List.mem_map.1 hx
    rw [len_bs]; exact h1 s hs

def Nd.pair (n : Nd) : Bs × List Bs := (bs n.id, n.ps.map bs)
/-- the graph of a list. -/
def built (l : List (Bs × List Bs)) : Graph := l.foldl (fun G e => (G.add e.1 e.2).1) Graph.empty
theorem built_snoc (l : List (Bs × List Bs)) (e : Bs × List Bs) : built (l ++ [e]) = ((built l).add e.1 e.2).1 := by simp [built]
def nds (L : List Nd) : List (Bs × List Bs) := L.map Nd.pair
theorem built_ok (l : List (Bs × List Bs)) (h : ∀ e ∈ l, e.1.length ≤ 1000) : (built l).Ok := by
  suffices ∀ (l : List (Bs × List Bs)) (G : Graph), G.Ok → (∀ e ∈ l, e.1.length ≤ 1000) → (l.foldl (fun G e => (G.add e.1 e.2).1) G).Ok from this l _ Graph.Ok.empty h
  intro l
  induction l with
  | nil => intro G h _; exact h
  | cons e r ih => intro G h hx; exact ih _ (h.add (hx e (by simp)) _) (fun e he => hx e (by simp [he]))
theorem built_cnt (l : List (Bs × List Bs)) (h : ∀ e ∈ l, e.1.length ≤ 1000) : (built l).inn.length + (built l).wai.length ≤ l.length := by
  suffices ∀ (l : List (Bs × List Bs)) (G : Graph), G.Ok → (∀ e ∈ l, e.1.length ≤ 1000) → (l.foldl (fun G e => (G.add e.1 e.2).1) G).inn.length + (l.foldl (fun G e => (G.add e.1 e.2).1) G).wai.length ≤ G.inn.length + G.wai.length + l.length by
    have := this l _ Graph.Ok.empty h
    simpa [Graph.empty, built] using this
  intro l
  induction l with
  | nil => intro G h _; simp
  | cons e r ih =>
    intro G h hx
    have h1 := ih _ (h.add (hx e (by simp)) e.2) (fun e he => hx e (by simp [he]))
    have h2 := M.Graph.count_add h (hx e (by simp)) e.2
    simp only [List.foldl_cons, List.length_cons]
    omega

theorem few_at {L : List Nd} (h : few L = true) : (∀ n ∈ L, n.id.size ≤ 40 ∧ n.ps.length ≤ 6 ∧ ∀ p ∈ n.ps, p.size ≤ 40) ∧ L.length ≤ 14 := by
  unfold few at h
  rw [Bool.and_eq_true] at h
  refine ⟨fun n hn => ?_, of_decide_eq_true h.2⟩
  have := List.all_eq_true.1 h.1 n hn
  simp only [fewNd, fewPs, Bool.and_eq_true, decide_eq_true_eq, List.all_eq_true] at this
  exact ⟨this.1, this.2.1, this.2.2⟩
theorem few_nds {L : List Nd} (h : few L = true) : (∀ e ∈ nds L, e.1.length ≤ 1000) ∧ (nds L).length ≤ 14 := by
  refine ⟨fun e he => ?_, by simpa [nds] using (few_at h).2⟩
  obtain ⟨n, hn, rfl⟩ := List.mem_map.1 he
  have := ((few_at h).1 n hn).1
  show (bs n.id).length ≤ 1000
  rw [len_bs]; omega

/-- The graph of a list is laid, in new memory. -/
def Laid (w : World) (G : Graph) (e : Ending) (w' : World) : Prop :=
  ∃ (g : Nat) (F : Nat → Prop), e = .returned (.pointer (some ⟨g, 0, none⟩)) ∧ DagAt w' F g G ∧ (∀ i, F i → w.heap.size ≤ i) ∧ Below w.heap.size w w'

theorem frame_below {N : Nat} {F : Nat → Prop} {w w1 w2 : World} (h : Below N w w1) (hN : N ≤ w1.heap.size) (hF : ∀ i, F i → N ≤ i) (k : Frame F w1 w2) : Below N w w2 :=
  h.trans ⟨k.os, k.tape, k.output, k.size, fun i hi => k.block i (by omega) (fun e => by have := hF i e; omega)⟩

/-- At a round of 'added'. -/
def AddSt (w : World) (l : List (Bs × List Bs)) (g : Nat) (k : Nat) (wr : World) : Prop :=
  ∃ F : Nat → Prop, DagAt wr F g (built (l.take k)) ∧ (∀ i, F i → w.heap.size ≤ i) ∧ Below w.heap.size w wr

theorem AddSt.step {w wr w' : World} {l : List (Bs × List Bs)} {g k : Nat} (hk : k < l.length) (h : ∃ (F : Nat → Prop) (e : Ending), (∀ i, F i → w.heap.size ≤ i) ∧ Below w.heap.size w wr ∧
    Added wr F g ((built (l.take k)).add (l.getD k default).1 (l.getD k default).2).1 ((built (l.take k)).add (l.getD k default).1 (l.getD k default).2).2 e w') : AddSt w l g (k + 1) w' := by
  obtain ⟨F, e, hF, hb, v, _, F', hd, hs, _, hf, _⟩ := h
  refine ⟨F', ?_, fun i hi => (hs i hi).elim (hF i) (fun h => Nat.le_trans hb.size h), frame_below hb hb.size hF hf⟩
  rw [List.take_succ_eq_append_getElem hk, built_snoc]
  simpa [List.getD_eq_getElem?_getD, hk] using hd

/-- the two fields of a node, in a later world. -/
theorem nodes_cells {w wr : World} {A : Option Addr} {c : Nat} {L : List Nd} (h : NodesAt w (.slice A L.length c) L) (hb : Below w.heap.size w wr) (hf : few L = true) {k : Nat} (hk : k < L.length) :
    ∃ b off pv, A = some ⟨b, off, none⟩ ∧ wr.cell? ⟨b, off + k * 3, none⟩ = some (encStr ((nds L).getD k default).1) ∧ wr.cell? ⟨b, off + k * 3 + 1, none⟩ = some pv ∧
      Strs wr (· < wr.heap.size) pv ((nds L).getD k default).2 ∧ ((nds L).getD k default).1.length ≤ 1000 := by
  obtain ⟨A', c', hv, _, h3⟩ := h.below (Nat.le_refl _) hb
  cases hv
  obtain ⟨b, off, rfl, _, hc⟩ := h3 (by omega)
  obtain ⟨c0, _, pv, c1, hp⟩ := hc k hk
  have hm : L.getD k default ∈ L := by simp [List.getD_eq_getElem?_getD, hk]
  have he : (nds L).getD k default = (L.getD k default).pair := by simp [nds, List.getD_eq_getElem?_getD, hk]
  obtain ⟨f1, f2, f3⟩ := (few_at hf).1 _ hm
  refine ⟨b, off, pv, rfl, ?_, c1, ?_, ?_⟩
  · rw [he]; show _ = some (encStr (bs _)); rw [enc_bs]; exact c0
  · rw [he]; exact hp.strs (fun s hs => by have := f3 s hs; omega) (by omega)
  · rw [he]; show (bs _).length ≤ 1000; rw [len_bs]; omega

set_option maxRecDepth 100000 in
set_option maxHeartbeats 2000000 in
theorem added_walk (w : World) {v : Value} {L : List Nd} (hv : NodesAt w v L) (hf : few L = true) : Calls Try.prog 10 #[v] w (Laid w (built (nds L))) := by
  obtain ⟨A, c, rfl, _⟩ := id hv
  obtain ⟨hx, hl⟩ := few_nds hf
  have hlen : (nds L).length = L.length := by simp [nds]
  have HV := Lib.hid hv
  have HF := Lib.hid (And.intro hf hx)
  have hl14 : L.length ≤ 14 := by omega
  clear hv hf hx
  go_enter Try.func10, Try.ntmps10
  go_wp2_with (go_at_call 14; refine (new_dag _).mono ?_; rintro e w1 ⟨rfl, hb1, hs1, hd1⟩)
  have H1 := Lib.hid (And.intro hb1 (And.intro hs1 hd1))
  clear hb1 hs1 hd1
  go_loopg [4] L.length (fun m i wr => ∃ k : Nat, k + m = L.length ∧ i = .int .i64 k ∧ AddSt w (nds L) (w.heap.size + 3) k wr)
  case atStart => exact ⟨0, by omega, rfl, _, H1.out.2.2, (fun i hi => hi.1), H1.out.1⟩
  case round =>
    obtain ⟨k, hk, rfl, HS⟩ := hrel
    cases gk with
    | zero =>
      obtain rfl : k = L.length := by omega
      have hff : ¬ ((L.length : Int) < (L.length : Int)) := by omega
      have HST := Lib.hid HS
      clear HS
      go_wp2
      go_ret
      obtain ⟨F, h1, h2, h3⟩ := HST.out
      rw [List.take_of_length_le (by omega)] at h1
      exact ⟨_, F, rfl, h1, h2, h3⟩
    | succ m =>
      have hlt : k < L.length := by omega
      obtain ⟨F, h1, h2, h3⟩ := HS
      have h1 := h1.below (w' := wr.drew) (Below.refl _ _).drew
      have h3 := h3.drew
      obtain ⟨b, off, pv, rfl, c0, c1, hp, hn⟩ := nodes_cells HV.out h3 HF.out.1 hlt
      have hcnt : (built ((nds L).take k)).inn.length + (built ((nds L).take k)).wai.length < 500 := by
        have := built_cnt ((nds L).take k) (fun e he => HF.out.2 e (List.mem_of_mem_take he))
        have : ((nds L).take k).length ≤ 14 := by simp; omega
        omega
      have hadd := add_dag h1 hcnt _ hn hp
      have hstep : ∀ e w', Added wr.drew F (w.heap.size + 3) ((built ((nds L).take k)).add ((nds L).getD k default).1 ((nds L).getD k default).2).1 ((built ((nds L).take k)).add ((nds L).getD k default).1 ((nds L).getD k default).2).2 e w' → ∃ u, e = .returned u ∧ AddSt w (nds L) (w.heap.size + 3) (k + 1) w' := fun e w' h => by
        obtain ⟨u, he, _⟩ := id h
        exact ⟨u, he, AddSt.step (by omega) ⟨F, e, h2, h3, h⟩⟩
      have HC := Lib.hid (hadd.mono hstep)
      clear hstep hadd hp hcnt h1 h2 h3 hn
      generalize ((nds L).getD k default).1 = x at *
      simp only [encStr_eq] at c0 HC
      go_wp2
      go_region_with (go_at_call 15; refine HC.out.mono ?_; rintro e w' ⟨u, rfl, hst⟩)
      all_goals have HST := Lib.hid hst
      all_goals clear hst
      all_goals go_wp2
      all_goals go_roundg m
      all_goals first
        | exact ⟨k + 1, by omega, by go_num, HST.out⟩
        | omega
end Go.Proofs.Ytccpblefebjadaa
