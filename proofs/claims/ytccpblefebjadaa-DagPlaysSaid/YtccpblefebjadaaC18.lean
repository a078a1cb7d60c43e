/- The graph and the reference's side by side. -/
import Derived.Test.YtccpblefebjadaaC17
import Derived.Test.YtccpblefebjadaaA19
namespace Go.Proofs.Ytccpblefebjadaa
open Go.RowKit Go.Maps Go.WideMaps Go.Sort Go.Shelf
open Go.Proofs (encStr)
open M (Rising keys get Graph Stands Searched)

structure Both (N : Nat) (w0 w : World) (F : Nat → Prop) (g : Nat) (G : Graph) (R : Nat → Prop) (r : Nat) (v : Value) (D : List RN) : Prop where
  st : Stood N w0 w F g G
  rf : RefAt w R r v D
  rel : Rel G D
  apart : ∀ i, F i → ¬ R i
  lo : ∀ i, R i → N ≤ i

section
variable {N : Nat} {w0 w w' : World} {F : Nat → Prop} {g : Nat} {G : Graph} {R : Nat → Prop} {r : Nat} {v : Value} {D : List RN}
theorem Both.next (h : Both N w0 w F g G R r v D) (hb : Below w.heap.size w w') : Both N w0 w' F g G R r v D := ⟨h.st.next hb, h.rf.below hb, h.rel, h.apart, h.lo⟩
theorem Both.ok (h : Both N w0 w F g G R r v D) : G.Ok := h.st.dag.ok

theorem rsettle_len : ∀ (n : Nat) (D : List RN) (out : List Bs), (rsettle n D out).1.length = D.length
  | 0, _, _ => rfl
  | n + 1, D, out => by
    unfold rsettle
    split
    · rfl
    · rw [rsettle_len n, mark_len]
theorem raddD_len (D : List RN) (x : Bs) (ps : List Bs) (pv : Value) : (raddD D x ps pv).1.length = D.length + 1 := by
  unfold raddD
  split
  · rw [rsettle_len, rins_len]
  · exact rins_len _ _

/-- The graph's Add; the reference stays behind by one. -/
structure Mid (N : Nat) (w0 w : World) (F : Nat → Prop) (g : Nat) (G G' : Graph) (R : Nat → Prop) (r : Nat) (v : Value) (D : List RN) (u : Value) (out : List Bs) : Prop where
  st : Stood N w0 w F g G'
  rf : RefAt w R r v D
  rel : Rel G D
  ok : G.Ok
  apart : ∀ i, F i → ¬ R i
  lo : ∀ i, R i → N ≤ i
  out : Strs w (fun b => b ≠ r) u out
theorem Mid.next {G' : Graph} {u : Value} {out : List Bs} (h : Mid N w0 w F g G G' R r v D u out) (hb : Below w.heap.size w w') : Mid N w0 w' F g G G' R r v D u out := ⟨h.st.next hb, h.rf.below hb, h.rel, h.ok, h.apart, h.lo, h.out.below hb⟩
theorem Both.add (h : Both N w0 w F g G R r v D) (hcnt : G.inn.length + G.wai.length < 500) (x : Bs) (hx : x.length ≤ 1000) {S : Nat → Prop} {pv : Value} {ps : List Bs} (hp : Strs w S pv ps) :
    Calls Try.prog 15 #[.pointer (some ⟨g, 0, none⟩), encStr x, pv] w (fun e w' => ∃ u F', e = .returned u ∧ Mid N w0 w' F' g G (G.add x ps).1 R r v D u (G.add x ps).2) := by
  refine (h.st.add hcnt x hx hp).mono ?_
  rintro e w' ⟨u, he, F', hs, hu, hF', hfr⟩
  refine ⟨u, F', he, hs, h.rf.same hfr.size (fun i hi hR => hfr.block i hi (fun hf => h.apart i hf hR)), h.rel, h.ok, fun i hi hR => ?_, h.lo, hu.mono (fun b hb e => ?_)⟩
  · rcases hF' i hi with hf | hf
    · exact h.apart i hf hR
    · have := h.rf.lt i hR; omega
  · have := h.rf.lt r h.rf.pr
    rw [e] at hb
    omega
theorem Mid.radd {u : Value} {x : Bs} {ps : List Bs} {F' : Nat → Prop} (h : Mid N w0 w F' g G (G.add x ps).1 R r v D u (G.add x ps).2) (hlen : D.length < 100) (hx : x.length ≤ 1000) {S : Nat → Prop} {pv : Value} (hp : Strs w S pv ps) (h6 : ps.length ≤ 6) :
    Calls Try.prog 21 #[.pointer (some ⟨r, 0, none⟩), encStr x, pv] w (fun e w' => ∃ u2 R' v' D', e = .returned u2 ∧ Both N w0 w' F' g (G.add x ps).1 R' r v' D' ∧ D'.length ≤ D.length + 1 ∧ Strs w' (fun _ => True) u (G.add x ps).2 ∧ Strs w' (fun _ => True) u2 (G.add x ps).2) := by
  have key : ∀ (D' : List RN) (out : List Bs) (e : Ending) (w' : World), RAdded w R r D' out e w' → Rel (G.add x ps).1 D' → D'.length ≤ D.length + 1 → out = (G.add x ps).2 → ∃ u2 R' v' D', e = .returned u2 ∧ Both N w0 w' F' g (G.add x ps).1 R' r v' D' ∧ D'.length ≤ D.length + 1 ∧ Strs w' (fun _ => True) u (G.add x ps).2 ∧ Strs w' (fun _ => True) u2 (G.add x ps).2 := by
    rintro D' out e w' ⟨u2, v', R', he, hr, hsub, hfr, hu2⟩ hrel hl rfl
    have hFr : ∀ i, F' i → i ≠ r := fun i hi e => h.apart i hi (e ▸ h.rf.pr)
    refine ⟨u2, R', v', D', he, ⟨⟨h.st.dag.same hfr.size (fun i hi hF => hfr.block i hi (hFr i hF)), h.st.lo, frame_below h.st.bel h.st.at' (fun i hi => ?_) hfr, Nat.le_trans h.st.at' hfr.size⟩, hr, hrel, fun i hi hR => ?_, fun i hi => ?_⟩, hl, ?_, hu2⟩
    · subst hi; exact h.lo _ h.rf.pr
    · rcases hsub i hR with hR | hR
      · exact h.apart i hi hR
      · have := h.st.dag.lt i hi; omega
    · rcases hsub i hi with hR | hR
      · exact h.lo i hR
      · exact Nat.le_trans h.st.at' hR
    · exact (h.out.frame hfr (fun i _ hn => hn)).mono (fun _ _ => trivial)
  cases hp' : place D x with
  | some i =>
    have hk := add_of_known ((h.rel.known x).2 ⟨i, hp'⟩) ps
    refine (radd_known w h.rf x pv hp').mono (fun e w' hr => key D [] e w' hr ?_ (Nat.le_succ _) ?_)
    · rw [hk]; exact h.rel
    · rw [hk]
  | none =>
    refine (radd_new w h.rf hlen x hx hp h6 hp').mono ?_
    rintro e w' ⟨pv', hr⟩
    obtain ⟨h1, h2⟩ := h.rel.add h.ok hx ps pv' hp'
    exact key _ _ e w' hr h1 (by rw [raddD_len]; exact Nat.le_refl _) h2.symm
end
end Go.Proofs.Ytccpblefebjadaa
