/- Parents, New; Add. -/
import Derived.Test.YtccpblefebjadaaA6
namespace Go.Proofs.Ytccpblefebjadaa
open Go.RowKit Go.Maps Go.WideMaps Go.Sort Go.Shelf
open Go.Proofs (encStr)
open M (Rising keys get Graph)

theorem newStrs_nil (w : World) : Strs w (fun b => w.heap.size ≤ b) (.slice none 0 0) [] := ⟨none, 0, rfl, fun hp => absurd hp (by simp), by simp, by simp⟩

/-- slices.Clone at a slice of strings. -/
theorem clone_any {w : World} {S : Nat → Prop} {v : Value} {l : List Bs} (h : Strs w S v l) : Calls Try.prog 47 #[v] w (NewStrs w l) := by
  obtain ⟨A, c, rfl, hA, hl, hn⟩ := h
  cases A with
  | none =>
    have : l = [] := by
      cases l with
      | nil => rfl
      | cons x r => obtain ⟨b, off, e, _⟩ := hA (by simp); cases e
    subst this
    refine (AnyG.slices_Clone_string_nil Try.clone47 0 c w).mono ?_
    rintro e w' ⟨rfl, rfl⟩
    exact ⟨_, rfl, newStrs_nil w', Below.refl _ _⟩
  | some a =>
    by_cases h0 : l.length = 0
    · have : l = [] := List.eq_nil_of_length_eq_zero h0
      subst this
      refine (AnyG.slices_Clone_string_zero Try.clone47 a c w).mono ?_
      rintro e w' ⟨v', rfl, hrow, _, hb⟩
      exact ⟨v', rfl, Strs.of_own (l := []) hrow (by simp) (by simp), hb⟩
    · obtain ⟨b, off, e, _, _, hc⟩ := hA (by omega)
      cases e
      have hc' : ∀ j, j < (l.map fun x => (⟨x.toArray⟩ : ByteArray)).length → w.cell? ⟨b, off + j, none⟩ = some (.string ((l.map fun x => (⟨x.toArray⟩ : ByteArray)).getD j ByteArray.empty)) := fun j hj => by
        have hj' : j < l.length := by simpa using hj
        rw [hc j hj']
        simp [List.getD_eq_getElem?_getD, hj', encStr_eq]
      refine (AnyG.slices_Clone_string Try.clone47 b off l.length c (l.map fun x => ⟨x.toArray⟩) w (by simp) (by omega) hc').mono ?_
      rintro e w' ⟨v', rfl, hrow, _, hb⟩
      refine ⟨v', rfl, Strs.of_own (base := w.heap.size) ?_ hl hn, hb⟩
      have e1 : ((l.map fun x => (⟨x.toArray⟩ : ByteArray)).take l.length).map Value.string = l.map encStr := by
        rw [List.take_of_length_le (by simp), List.map_map]; rfl
      rw [e1] at hrow
      exact hrow

set_option maxRecDepth 100000 in
/-- Parents. -/
theorem parents_dag {w : World} {F : Nat → Prop} {g : Nat} {G : Graph} (h : DagAt w F g G) (x : Bs) (hx : x.length ≤ 1000) : Calls Try.prog 27 #[.pointer (some ⟨g, 0, none⟩), encStr x] w (NewStrs w (G.parents x)) := by
  obtain ⟨bi, bw, bl, fi, fw, fl, h⟩ := h
  have hc := h.c0
  have hl := h.mi.look Try.underlying30 Try.underlying49 (zeroS w) rfl ⟨x.toArray⟩ (size_ok hx)
  simp only at hl
  have hS : ∃ v, (fi x).getD (.slice none 0 0) = v ∧ ∃ S, Strs w S v (G.parents x) := by
    unfold Graph.parents
    cases hp : get G.inn x with
    | none => rw [(h.ni x hp).1]; exact ⟨_, rfl, _, newStrs_nil w⟩
    | some p => obtain ⟨v, hv, hs, _⟩ := h.vi x p hp; rw [hv]; exact ⟨v, rfl, F, hs⟩
  obtain ⟨v, hv, S, hs⟩ := hS
  rw [hv] at hl
  have HC := Lib.hid (clone_any hs)
  clear h hv hs
  simp only [encStr_eq]
  go_enter Try.func27, Try.ntmps27
  go_wp2_with (go_at_call 47; refine HC.out.mono ?_; rintro e w' ⟨v, rfl, hv, hb⟩)
  go_ret
  exact ⟨_, rfl, hv, hb⟩

/-- a new graph without ids, in four new blocks. -/
def NewDag (w : World) (e : Ending) (w' : World) : Prop :=
  e = .returned (.pointer (some ⟨w.heap.size + 3, 0, none⟩)) ∧ Below w.heap.size w w' ∧ w'.heap.size = w.heap.size + 4 ∧ DagAt w' (fun b => w.heap.size ≤ b ∧ b < w.heap.size + 4) (w.heap.size + 3) Graph.empty

theorem new_lays (w : World) : NewDag w (.returned (.pointer (some ⟨w.heap.size + 3, 0, none⟩))) ((((w.alloc (.map #[] 0)).alloc (.map #[] 0)).alloc (.map #[] 0)).alloc (.cells #[.map (some w.heap.size), .map (some (w.heap.size + 1)), .map (some (w.heap.size + 2))] 52)) := by
  have hb : Below w.heap.size w ((((w.alloc (.map #[] 0)).alloc (.map #[] 0)).alloc (.map #[] 0)).alloc (.cells #[.map (some w.heap.size), .map (some (w.heap.size + 1)), .map (some (w.heap.size + 2))] 52)) :=
    ((((Below.refl _ _).alloc (Nat.le_refl _) _).alloc (by simp) _).alloc (by simp <;> omega) _).alloc (by simp <;> omega) _
  refine ⟨rfl, hb, by simp, w.heap.size, w.heap.size + 1, w.heap.size + 2, fun _ => none, fun _ => none, fun _ => none, ?_⟩
  have m0 := MapAt.made w Try.prog 30 okS
  have m1 := MapAt.made (w.alloc (.map #[] 0)) Try.prog 30 okS
  have m2 := MapAt.made ((w.alloc (.map #[] 0)).alloc (.map #[] 0)) Try.prog 30 okI
  simp only [World.size_alloc] at m1 m2
  have hcell := World.alloc_heap_new (((w.alloc (.map #[] 0)).alloc (.map #[] 0)).alloc (.map #[] 0)) (.cells #[.map (some w.heap.size), .map (some (w.heap.size + 1)), .map (some (w.heap.size + 2))] 52)
  simp only [World.size_alloc] at hcell
  exact {
    cells := hcell
    pg := by constructor <;> omega
    pi := by constructor <;> omega
    pw := by constructor <;> omega
    pl := by constructor <;> omega
    lt := fun i hi => by simp; omega
    il := by omega
    iw := by omega
    lw := by omega
    mi := m0.same (by rw [Below.heap_alloc _ _ _ (by simp <;> omega), Below.heap_alloc _ _ _ (by simp <;> omega), Below.heap_alloc _ _ _ (by simp <;> omega)])
    mw := m1.same (by rw [Below.heap_alloc _ _ _ (by simp <;> omega), Below.heap_alloc _ _ _ (by simp <;> omega)])
    ml := m2.same (by rw [Below.heap_alloc _ _ _ (by simp <;> omega)])
    vi := by simp [Graph.empty, M.get]
    ni := by simp
    vw := by simp [Graph.empty, M.get]
    nw := by simp
    ok := Graph.Ok.empty
    cnt := by simp [Graph.empty] }

set_option maxRecDepth 100000 in
/-- New. -/
theorem new_dag (w : World) : Calls Try.prog 14 #[] w (NewDag w) := by
  have hmm := @run_makeMap Try.prog
  go_enter Try.func14, Try.ntmps14
  go_wp2
  go_ret
  exact new_lays w
end Go.Proofs.Ytccpblefebjadaa
