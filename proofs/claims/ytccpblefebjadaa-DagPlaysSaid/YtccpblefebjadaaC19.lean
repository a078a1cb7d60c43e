/- What the graph and the reference's answer, side by side. -/
import Derived.Test.YtccpblefebjadaaC18
import Derived.Test.YtccpblefebjadaaL3
namespace Go.Proofs.Ytccpblefebjadaa
open Go.RowKit Go.Maps Go.WideMaps Go.Sort Go.Shelf
open Go.Proofs (encStr)
open M (Rising keys get Graph Stands Searched)
section
variable {N : Nat} {w0 w w' : World} {F : Nat → Prop} {g : Nat} {G : Graph} {R : Nat → Prop} {r : Nat} {v : Value} {D : List RN}
def Any (_ : Nat) : Prop := True
theorem Any.i (b : Nat) : Any b := trivial
/-- A list is answered; both stand. -/
def Gets (N : Nat) (w0 : World) (F : Nat → Prop) (g : Nat) (G : Graph) (R : Nat → Prop) (r : Nat) (v : Value) (D : List RN) (w : World) (l : List Bs) (e : Ending) (w' : World) : Prop :=
  ∃ A c, e = .returned (.slice A l.length c) ∧ Aside (Both N w0 w' F g G R r v D ∧ Strs w' Any (.slice A l.length c) l ∧ Below w.heap.size w w')
theorem Gets.mk' {S : Nat → Prop} {u : Value} {l : List Bs} (h : Both N w0 w F g G R r v D) (hs : Strs w' S u l) (hb : Below w.heap.size w w') : Gets N w0 F g G R r v D w l (.returned u) w' := by
  obtain ⟨A, c, rfl, _⟩ := id hs
  exact ⟨A, c, rfl, h.next hb, hs.mono (fun b _ => Any.i b), hb⟩
/-- A value is answered; both stand. -/
def Says (N : Nat) (w0 : World) (F : Nat → Prop) (g : Nat) (G : Graph) (R : Nat → Prop) (r : Nat) (v : Value) (D : List RN) (w : World) (x : Value) (e : Ending) (w' : World) : Prop :=
  e = .returned x ∧ Aside (Both N w0 w' F g G R r v D ∧ Below w.heap.size w w')
theorem Both.ids (h : Both N w0 w F g G R r v D) : Calls Try.prog 11 #[.pointer (some ⟨g, 0, none⟩)] w (Gets N w0 F g G R r v D w G.ids) :=
  h.st.ids.mono fun _ _ ⟨_, he, _, hs, hb⟩ => he ▸ Gets.mk' h hs hb
theorem Both.waiting (h : Both N w0 w F g G R r v D) : Calls Try.prog 17 #[.pointer (some ⟨g, 0, none⟩)] w (Gets N w0 F g G R r v D w G.waiting) :=
  h.st.waiting.mono fun _ _ ⟨_, he, _, hs, hb⟩ => he ▸ Gets.mk' h hs hb
theorem Both.heads (h : Both N w0 w F g G R r v D) : Calls Try.prog 12 #[.pointer (some ⟨g, 0, none⟩)] w (Gets N w0 F g G R r v D w G.heads) :=
  h.st.heads.mono fun _ _ ⟨_, he, _, hs, hb⟩ => he ▸ Gets.mk' h hs hb
theorem Both.parents (h : Both N w0 w F g G R r v D) (x : Bs) (hx : x.length ≤ 1000) : Calls Try.prog 27 #[.pointer (some ⟨g, 0, none⟩), encStr x] w (Gets N w0 F g G R r v D w (G.parents x)) :=
  (h.st.parents x hx).mono fun _ _ ⟨_, he, _, hs, hb⟩ => he ▸ Gets.mk' h hs hb
theorem Both.has (h : Both N w0 w F g G R r v D) (x : Bs) (hx : x.length ≤ 1000) : Calls Try.prog 24 #[.pointer (some ⟨g, 0, none⟩), encStr x] w (Says N w0 F g G R r v D w (.bool (G.has x))) :=
  (h.st.has x hx).mono fun _ _ ⟨he, hw⟩ => ⟨he, hw ▸ h, hw ▸ Below.refl _ _⟩
theorem Both.level (h : Both N w0 w F g G R r v D) (x : Bs) (hx : x.length ≤ 1000) : Calls Try.prog 20 #[.pointer (some ⟨g, 0, none⟩), encStr x] w (Says N w0 F g G R r v D w (.int .i64 (G.level x))) :=
  (h.st.level x hx).mono fun _ _ ⟨he, hw⟩ => ⟨he, hw ▸ h, hw ▸ Below.refl _ _⟩
theorem Both.many (h : Both N w0 w F g G R r v D) : Calls Try.prog 16 #[.pointer (some ⟨g, 0, none⟩)] w (Says N w0 F g G R r v D w (.int .i64 G.ids.length)) :=
  (many_dag h.st.dag).mono fun _ _ ⟨he, hw⟩ => ⟨he, hw ▸ h, hw ▸ Below.refl _ _⟩
theorem Both.above (h : Both N w0 w F g G R r v D) (a b : Bs) (ha : a.length ≤ 1000) (hb : b.length ≤ 1000) (q : Bool) (hq : q = true ↔ G.has a = true ∧ G.has b = true ∧ Stands G a b) :
    Calls Try.prog 13 #[.pointer (some ⟨g, 0, none⟩), encStr a, encStr b] w (Says N w0 F g G R r v D w (.bool q)) :=
  (h.st.above_is a b ha hb q hq).mono fun _ _ ⟨he, _, hb⟩ => ⟨he, h.next hb, hb⟩
theorem Both.same (h : Both N w0 w F g G R r v D) {S T : Nat → Prop} {u u2 : Value} {l : List Bs} (hu : Strs w S u l) (hv : Strs w T u2 l) : Calls Try.prog 18 #[u, u2] w (Says N w0 F g G R r v D w (.bool true)) :=
  (ids_same w hu hv).mono fun _ _ ⟨he, hb⟩ => ⟨by rw [he]; simp, h.next hb, hb⟩
theorem rall_sz (hr : RefAt w R r v D) (b : Bool) : (∀ x ∈ rall b D, x.length ≤ 1000) ∧ (rall b D).length ≤ 1000 := by
  unfold rall
  refine ⟨fun x hx => ?_, ?_⟩
  · obtain ⟨n, hn, rfl⟩ := List.mem_map.1 hx
    exact hr.ids n ((List.mem_filter.1 hn).1)
  · rw [List.length_map]
    exact Nat.le_trans (List.length_filter_le _ _) (by have := hr.len; omega)
theorem rheads_sz (hr : RefAt w R r v D) : (∀ x ∈ rheads D, x.length ≤ 1000) ∧ (rheads D).length ≤ 1000 := by
  unfold rheads
  refine ⟨fun x hx => ?_, ?_⟩
  · obtain ⟨n, hn, rfl⟩ := List.mem_map.1 hx
    exact hr.ids n ((List.mem_filter.1 hn).1)
  · rw [List.length_map]
    exact Nat.le_trans (List.length_filter_le _ _) (by have := hr.len; omega)
theorem Both.lacks (h : Both N w0 w F g G R r v D) : Calls Try.prog 19 #[.pointer (some ⟨g, 0, none⟩)] w (Gets N w0 F g G R r v D w G.lacks) := by
  have hl : G.lacks.length ≤ 1000 := by
    rw [← h.rel.lacks h.ok]
    have h1 := (LkOk.all (D := D) D h.rf.parOk).len
    have h2 := h.rf.len
    unfold Ytccpblefebjadaa.rlacks
    omega
  exact (h.st.lacks hl).mono fun _ _ ⟨_, he, _, hs, hb⟩ => he ▸ Gets.mk' h hs hb
theorem Both.rids (h : Both N w0 w F g G R r v D) : Calls Try.prog 22 #[.pointer (some ⟨r, 0, none⟩), .bool true] w (Gets N w0 F g G R r v D w G.ids) := by
  refine (rall_walk w h.rf true).mono ?_
  rintro e w' ⟨u, rfl, ho⟩
  have hs := ho.strs (rall_sz h.rf true).1 (rall_sz h.rf true).2
  rw [h.rel.ids h.ok] at hs
  exact Gets.mk' h hs ho.2
theorem Both.rwaiting (h : Both N w0 w F g G R r v D) : Calls Try.prog 22 #[.pointer (some ⟨r, 0, none⟩), .bool false] w (Gets N w0 F g G R r v D w G.waiting) := by
  refine (rall_walk w h.rf false).mono ?_
  rintro e w' ⟨u, rfl, ho⟩
  have hs := ho.strs (rall_sz h.rf false).1 (rall_sz h.rf false).2
  rw [h.rel.waiting h.ok] at hs
  exact Gets.mk' h hs ho.2
theorem Both.rheads (h : Both N w0 w F g G R r v D) : Calls Try.prog 29 #[.pointer (some ⟨r, 0, none⟩)] w (Gets N w0 F g G R r v D w G.heads) := by
  refine (rheads_walk w h.rf).mono ?_
  rintro e w' ⟨u, rfl, ho⟩
  have hs := ho.strs (rheads_sz h.rf).1 (rheads_sz h.rf).2
  rw [h.rel.heads h.ok] at hs
  exact Gets.mk' h hs ho.2
theorem Both.rlacks (h : Both N w0 w F g G R r v D) : Calls Try.prog 23 #[.pointer (some ⟨r, 0, none⟩)] w (Gets N w0 F g G R r v D w G.lacks) := by
  refine (rlacks_walk w h.rf).mono ?_
  rintro e w' ⟨u, rfl, hs, hb⟩
  rw [h.rel.lacks h.ok] at hs
  exact Gets.mk' h hs hb
theorem Both.rparents (h : Both N w0 w F g G R r v D) (x : Bs) : Calls Try.prog 28 #[.pointer (some ⟨r, 0, none⟩), encStr x] w (Gets N w0 F g G R r v D w (G.parents x)) := by
  refine (rpar_walk w h.rf x).mono ?_
  rintro e w' ⟨u, rfl, hs, hb⟩
  rw [h.rel.parents h.ok] at hs
  exact Gets.mk' h hs hb
theorem Both.rhas (h : Both N w0 w F g G R r v D) (x : Bs) : Calls Try.prog 25 #[.pointer (some ⟨r, 0, none⟩), encStr x] w (Says N w0 F g G R r v D w (.bool (G.has x))) := by
  refine (rhas_walk w h.rf x).mono ?_
  rintro e w' ⟨rfl, rfl⟩
  rw [h.rel.has h.ok]
  exact ⟨rfl, h, Below.refl _ _⟩
theorem Both.rlevel (h : Both N w0 w F g G R r v D) (x : Bs) : Calls Try.prog 26 #[.pointer (some ⟨r, 0, none⟩), encStr x] w (Says N w0 F g G R r v D w (.int .i64 (G.level x))) := by
  refine (rlevel_walk w h.rf (h.rel.levOk h.ok) x).mono ?_
  rintro e w' ⟨rfl, hb⟩
  rw [h.rel.level h.ok]
  exact ⟨rfl, h.next hb, hb⟩
theorem Both.rabove (h : Both N w0 w F g G R r v D) (a b : Bs) (hb1 : b.length ≤ 1000) (q : Bool) (hq : q = true ↔ G.has a = true ∧ G.has b = true ∧ Stands G a b) :
    Calls Try.prog 30 #[.pointer (some ⟨r, 0, none⟩), encStr a, encStr b] w (Says N w0 F g G R r v D w (.bool q)) := by
  refine (rabove_walk w h.rf (h.rel.levOk h.ok) a b hb1).mono ?_
  rintro e w' ⟨q', rfl, hq', hb⟩
  have : q' = q := Bool.eq_iff_iff.2 (hq'.trans ((h.rel.above h.ok a b).trans hq.symm))
  rw [this]
  exact ⟨rfl, h.next hb, hb⟩
end
end Go.Proofs.Ytccpblefebjadaa
