/- Above. -/
import Derived.Test.YtccpblefebjadaaA14
import Derived.Laws.EntriesVeiled
namespace Go.Proofs.Ytccpblefebjadaa
open Go.RowKit Go.Maps Go.WideMaps Go.Sort Go.Shelf
open Go.Proofs (encStr)
open M (Rising keys get Graph Stands Searched)

theorem stands_any {F : Nat → Prop} {g : Nat} {G : Graph} {bi bw bl : Nat} {fi fw fl : Bs → Option Value} {a : Bs} {ba bs bd bf bm : Nat} (n : Nat) :
    ∀ (x : Bs) (W : World) (fs : Bs → Option Value) (m : Nat), unseen G fs ≤ n → x ∈ G.ids → Look W F g G bi bw bl fi fw fl a ba bs bd bf bm fs m →
      Calls Try.prog 33 #[encStr x, .pointer (some ⟨ba, 0, none⟩), .pointer (some ⟨bs, 0, none⟩), .pointer (some ⟨bd, 0, none⟩), .pointer (some ⟨bf, 0, none⟩)] W (StandsPost F g G bi bw bl fi fw fl a ba bs bd bf bm fs x W) := by
  induction n with
  | zero =>
    intro x W fs m hn hx h
    by_cases e : x = a
    · subst e; exact stands_self h
    · cases hs : (fs x).isSome with
      | true => exact stands_seen h x (h.dag.ok.ki x hx) e hs
      | false =>
        have := unseen_put (v := .bool true) hx hs h.dag.ok
        omega
  | succ n ih =>
    intro x W fs m hn hx h
    by_cases e : x = a
    · subst e; exact stands_self h
    · cases hs : (fs x).isSome with
      | true => exact stands_seen h x (h.dag.ok.ki x hx) e hs
      | false => exact stands_new h x (h.dag.ok.ki x hx) hx e hs (fun y W1 fs1 m1 hy hl hlt => ih y W1 fs1 m1 (by omega) hy hl)

def AbovePost (G : Graph) (a b : Bs) (w : World) (e : Ending) (w' : World) : Prop :=
  ∃ r : Bool, e = .returned (.bool r) ∧ (r = true ↔ G.has a = true ∧ G.has b = true ∧ Stands G a b) ∧ Below w.heap.size w w'

set_option maxRecDepth 100000 in
set_option maxHeartbeats 2000000 in
theorem above_not {w : World} {F : Nat → Prop} {g : Nat} {G : Graph} (h : DagAt w F g G) (a b : Bs) (ha : a.length ≤ 1000) (hb : b.length ≤ 1000) (hn : G.has a = false ∨ G.has b = false) :
    Calls Try.prog 13 #[.pointer (some ⟨g, 0, none⟩), encStr a, encStr b] w (AbovePost G a b w) := by
  have hbel : Below w.heap.size w ((w.alloc (.cells #[.pointer (some ⟨g, 0, none⟩)] 25)).alloc (.cells #[encStr a] 30)) := ((Below.refl _ _).alloc (Nat.le_refl _) _).alloc (by simp) _
  have h2 := h.below hbel
  have h1 := has_dag h2 a ha
  have h3 := has_dag h2 b hb
  have hfin : AbovePost G a b w (.returned (.bool false)) ((w.alloc (.cells #[.pointer (some ⟨g, 0, none⟩)] 25)).alloc (.cells #[encStr a] 30)) :=
    ⟨false, rfl, ⟨(fun h => (by cases h)), fun ⟨h1, h2, _⟩ => by rcases hn with h | h <;> simp_all⟩, hbel⟩
  have HF := Lib.hid hfin
  clear h h2 hbel hfin
  cases ha' : G.has a with
  | false =>
    rw [ha'] at h1
    have H1 := Lib.hid h1
    clear h1 h3 ha' hn
    simp only [encStr_eq] at H1 HF ⊢
    go_enter Try.func13, Try.ntmps13
    go_wp2_with (go_at_call 24; refine H1.out.mono ?_; rintro e w' ⟨rfl, rfl⟩)
    go_ret
    exact HF.out
  | true =>
    have hb' : G.has b = false := hn.resolve_left (by rw [ha']; simp)
    rw [ha'] at h1
    rw [hb'] at h3
    have H1 := Lib.hid h1
    have H3 := Lib.hid h3
    clear h1 h3 ha' hb' hn
    simp only [encStr_eq] at H1 H3 HF ⊢
    go_enter Try.func13, Try.ntmps13
    go_wp2_with fail
    refine H1.out.mono ?_
    rintro e w' ⟨rfl, rfl⟩
    go_wp2_with fail
    refine H3.out.mono ?_
    rintro e w' ⟨rfl, rfl⟩
    go_wp2
    go_ret
    exact HF.out

/-- The five blocks that Above lays. -/
def aboveW (w : World) (g : Nat) (a : Bs) : World :=
  ((((w.alloc (.cells #[.pointer (some ⟨g, 0, none⟩)] 25)).alloc (.cells #[.string ⟨a.toArray⟩] 30)).alloc (.map #[] 0)).alloc (.cells #[.map (some (w.heap.size + 2))] 54)).alloc
    (.cells #[.func (.func 33) #[] #[.pointer (some ⟨w.heap.size + 1, 0, none⟩), .pointer (some ⟨w.heap.size + 3, 0, none⟩), .pointer (some ⟨w.heap.size, 0, none⟩), .pointer (some ⟨w.heap.size + 4, 0, none⟩)]] 44)

theorem heap_at (w : World) (o : Obj) (n : Nat) (h : n = w.heap.size) : (w.alloc o).heap[n]? = some o := by subst h; exact World.alloc_heap_new w o
theorem heap_old (w : World) (o : Obj) (n : Nat) (h : n < w.heap.size) : (w.alloc o).heap[n]? = w.heap[n]? := Below.heap_alloc w o n h

theorem aboveW_look {w : World} {F : Nat → Prop} {g : Nat} {G : Graph} {bi bw bl : Nat} {fi fw fl : Bs → Option Value} (h : DagIn w F g G bi bw bl fi fw fl) (a : Bs) :
    Look (aboveW w g a) F g G bi bw bl fi fw fl a (w.heap.size + 1) (w.heap.size + 3) w.heap.size (w.heap.size + 4) (w.heap.size + 2) (fun _ => none) 0 ∧ Below w.heap.size w (aboveW w g a) := by
  have hbel : Below w.heap.size w (aboveW w g a) := by
    unfold aboveW
    exact (((((Below.refl _ _).alloc (Nat.le_refl _) _).alloc (by simp) _).alloc (by simp <;> omega) _).alloc (by simp <;> omega) _).alloc (by simp <;> omega) _
  have s0 : (aboveW w g a).heap[w.heap.size]? = some (.cells #[.pointer (some ⟨g, 0, none⟩)] 25) := by
    unfold aboveW
    rw [heap_old _ _ _ (by simp <;> omega), heap_old _ _ _ (by simp <;> omega), heap_old _ _ _ (by simp <;> omega), heap_old _ _ _ (by simp <;> omega), heap_at _ _ _ rfl]
  have s1 : (aboveW w g a).heap[w.heap.size + 1]? = some (.cells #[.string ⟨a.toArray⟩] 30) := by
    unfold aboveW
    rw [heap_old _ _ _ (by simp <;> omega), heap_old _ _ _ (by simp <;> omega), heap_old _ _ _ (by simp <;> omega), heap_at _ _ _ (by simp)]
  have s2 : (aboveW w g a).heap[w.heap.size + 2]? = some (.map #[] 0) := by
    unfold aboveW
    rw [heap_old _ _ _ (by simp <;> omega), heap_old _ _ _ (by simp <;> omega), heap_at _ _ _ (by simp)]
  have s3 : (aboveW w g a).heap[w.heap.size + 3]? = some (.cells #[.map (some (w.heap.size + 2))] 54) := by
    unfold aboveW
    rw [heap_old _ _ _ (by simp <;> omega), heap_at _ _ _ (by simp)]
  have s4 := heap_at ((((w.alloc (.cells #[.pointer (some ⟨g, 0, none⟩)] 25)).alloc (.cells #[.string ⟨a.toArray⟩] 30)).alloc (.map #[] 0)).alloc (.cells #[.map (some (w.heap.size + 2))] 54)) (.cells #[.func (.func 33) #[] #[.pointer (some ⟨w.heap.size + 1, 0, none⟩), .pointer (some ⟨w.heap.size + 3, 0, none⟩), .pointer (some ⟨w.heap.size, 0, none⟩), .pointer (some ⟨w.heap.size + 4, 0, none⟩)]] 44) (w.heap.size + 4) (by simp)
  have s4' : (aboveW w g a).heap[w.heap.size + 4]? = some (.cells #[.func (.func 33) #[] #[.pointer (some ⟨w.heap.size + 1, 0, none⟩), .pointer (some ⟨w.heap.size + 3, 0, none⟩), .pointer (some ⟨w.heap.size, 0, none⟩), .pointer (some ⟨w.heap.size + 4, 0, none⟩)]] 44) := s4
  have hu := unseen_le (fs := fun _ => none) h
  refine ⟨⟨h.same hbel.size (fun i hi _ => hbel.block i hi), ?_, ?_, ?_, ?_, ?_, (fun y v hy => (by cases hy)), ?_, by omega⟩, hbel⟩
  · unfold World.cell?; rw [s1]; rfl
  · unfold World.cell?; rw [s3]; rfl
  · unfold World.cell?; rw [s0]; rfl
  · unfold World.cell?; rw [s4']; rfl
  · exact ⟨.map [], ⟨#[], 0, s2, ⟨by simp, MapKept.stamped_empty 0, by simp⟩, Nat.le_refl _, rfl⟩, fun _ => rfl⟩
  · intro hF; have := h.lt _ hF; omega

set_option maxRecDepth 100000 in
set_option maxHeartbeats 2000000 in
theorem above_yes {w : World} {F : Nat → Prop} {g : Nat} {G : Graph} (h : DagAt w F g G) (a b : Bs) (ha : a.length ≤ 1000) (hb : b.length ≤ 1000) (h1 : G.has a = true) (h2 : G.has b = true) :
    Calls Try.prog 13 #[.pointer (some ⟨g, 0, none⟩), encStr a, encStr b] w (AbovePost G a b w) := by
  have hmm := @run_makeMap Try.prog
  have hbel : Below w.heap.size w ((w.alloc (.cells #[.pointer (some ⟨g, 0, none⟩)] 25)).alloc (.cells #[encStr a] 30)) := ((Below.refl _ _).alloc (Nat.le_refl _) _).alloc (by simp) _
  have hd := h.below hbel
  have c1 := has_dag hd a ha
  have c2 := has_dag hd b hb
  rw [h1] at c1
  rw [h2] at c2
  obtain ⟨bi, bw, bl, fi, fw, fl, h⟩ := h
  obtain ⟨hL, hB⟩ := aboveW_look h a
  have hbi : b ∈ G.ids := M.isSome_get.1 h2
  have hcall := stands_any _ b _ _ 0 (Nat.le_refl _) hbi hL
  have hfin : ∀ (e : Ending) (w' : World), StandsPost F g G bi bw bl fi fw fl a (w.heap.size + 1) (w.heap.size + 3) w.heap.size (w.heap.size + 4) (w.heap.size + 2) (fun _ => none) b (aboveW w g a) e w' → ∃ r, e = .returned (.bool r) ∧ AbovePost G a b w (.returned (.bool r)) w' := by
    rintro e w' ⟨r, fs', m', rfl, hL', hF', ht, hf⟩
    refine ⟨r, rfl, r, rfl, ⟨fun hr => ⟨h1, h2, ht hr⟩, fun ⟨_, _, hs⟩ => ?_⟩, ?_⟩
    · cases r with
      | true => rfl
      | false =>
        obtain ⟨h3, h4⟩ := hf rfl
        have h5 : (seenS fun _ => none) = fun _ => False := by funext y; simp [seenS]
        rw [h5] at h3
        exact absurd hs (h3.not_stands h4)
    · refine hB.trans ⟨hF'.os, hF'.tape, hF'.output, hF'.size, fun i hi => hF'.block i (Nat.lt_of_lt_of_le hi hB.size) (by omega)⟩
  have HC := Lib.hid (hcall.mono hfin)
  have H1 := Lib.hid c1
  have H2 := Lib.hid c2
  clear h hL hB hcall hfin c1 c2 hd hbel h1 h2 hbi
  unfold aboveW at HC
  simp only [encStr_eq] at HC H1 H2 ⊢
  go_enter Try.func13, Try.ntmps13
  go_wp2_with fail
  refine H1.out.mono ?_
  rintro e w' ⟨rfl, rfl⟩
  go_wp2_with fail
  refine H2.out.mono ?_
  rintro e w' ⟨rfl, rfl⟩
  go_wp2_with fail
  refine HC.out.mono ?_
  rintro e w' ⟨r, rfl, hfin⟩
  go_wp2
  go_ret
  exact hfin

/-- ABOVE. -/
theorem above_dag {w : World} {F : Nat → Prop} {g : Nat} {G : Graph} (h : DagAt w F g G) (a b : Bs) (ha : a.length ≤ 1000) (hb : b.length ≤ 1000) :
    Calls Try.prog 13 #[.pointer (some ⟨g, 0, none⟩), encStr a, encStr b] w (AbovePost G a b w) := by
  cases h1 : G.has a with
  | false => exact above_not h a b ha hb (.inl h1)
  | true =>
    cases h2 : G.has b with
    | false => exact above_not h a b ha hb (.inr h2)
    | true => exact above_yes h a b ha hb h1 h2
end Go.Proofs.Ytccpblefebjadaa
