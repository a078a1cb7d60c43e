/- The reference's Add: marks. -/
import Derived.Test.YtccpblefebjadaaC11
namespace Go.Proofs.Ytccpblefebjadaa
open Go.RowKit Go.Maps Go.WideMaps Go.Sort Go.Shelf
open Go.Proofs (encStr)
open M (Rising keys get Graph Stands Searched)

theorem mark_len (D : List RN) (i : Nat) : (mark D i).length = D.length := by simp [mark]
theorem mark_at {D : List RN} {i j : Nat} (hi : i < D.length) (hj : j < D.length) : (mark D i).getD j default = if i = j then { D.getD i default with inn := true } else D.getD j default := by
  unfold mark
  simp only [List.getD_eq_getElem?_getD, List.getElem?_set]
  by_cases e : i = j
  · subst e; simp [hi]
  · simp [e]
theorem mark_mem {D : List RN} {i : Nat} (hi : i < D.length) {m : RN} (hm : m ∈ mark D i) : ∃ n ∈ D, m.id = n.id ∧ m.pv = n.pv ∧ m.ps = n.ps := by
  obtain ⟨j, hj, rfl⟩ := List.getElem_of_mem hm
  have hj' : j < D.length := by rw [mark_len] at hj; exact hj
  have h := mark_at hi hj'
  rw [rgetD hj] at h
  rw [h]
  split
  · exact ⟨_, rmem hi, rfl, rfl, rfl⟩
  · exact ⟨_, rmem hj', rfl, rfl, rfl⟩
theorem mark_ids (D : List RN) (i : Nat) (hi : i < D.length) : (mark D i).map (·.id) = D.map (·.id) := by
  unfold mark
  rw [List.map_set]
  show (D.map (·.id)).set i (D.getD i default).id = _
  rw [rgetD hi]
  apply List.ext_getElem
  · simp
  · intro j h1 h2
    rw [List.getElem_set]
    split
    · subst i; simp
    · rfl
theorem RefAt.mark {w : World} {R : Nat → Prop} {r : Nat} {v : Value} {D : List RN} (h : RefAt w R r v D) {i : Nat} (hi : i < D.length) {g cap : Nat} (hv : v = .slice (some ⟨g, 0, none⟩) D.length cap) :
    RefAt (w.setCell ⟨g, i * 3 + 2, none⟩ (.bool true)) R r v (mark D i) ∧ w.frozen? ⟨g, i * 3 + 2, none⟩ = false ∧ R g ∧ g ≠ r := by
  obtain ⟨hg, hgr⟩ := h.own g (by rw [hv]; rfl)
  have hrow := h.row
  rw [hv] at hrow
  obtain ⟨h1, h2⟩ := hrow.stored (i * 3 + 2) (.bool true)
  refine ⟨?_, hrow.frozenAt _, hg, hgr⟩
  constructor
  · rw [World.cell?_setCell_other]
    · exact h.cell
    · intro e; exact hgr (congrArg Addr.block e)
  · rw [hv, mark_len, rcells_mark hi]; exact h1
  · exact h.own
  · exact h.pr
  · rw [World.frozen?_setCell]; exact h.fz
  · intro m hm
    obtain ⟨n, hn, _, e2, e3⟩ := mark_mem hi hm
    rw [e2, e3]
    exact (h.par n hn).setCell _ _ (fun b hb => fun e => hb.2.2 (by rw [hv]; show some g = some b; rw [e]))
  · intro j hj
    have := h.lt j hj
    simpa [World.setCell] using this
  · intro m hm
    obtain ⟨n, hn, e1, _, _⟩ := mark_mem hi hm
    rw [e1]; exact h.ids n hn
  · rw [mark_len]; exact h.len
  · intro m hm
    obtain ⟨n, hn, _, _, e3⟩ := mark_mem hi hm
    rw [e3]; exact h.six n hn
  · have hu := List.pairwise_map.2 h.up
    rw [← mark_ids D i hi] at hu
    exact List.pairwise_map.1 hu

theorem rnext_none {D : List RN} (h : ∀ j, j < D.length → rwant D (D.getD j default) = false) : rnext D = none := by
  unfold rnext
  rw [List.findIdx?_eq_none_iff]
  intro n hn
  obtain ⟨j, hj, rfl⟩ := List.getElem_of_mem hn
  have := h j hj
  rwa [rgetD hj] at this
theorem rnext_some {D : List RN} {i : Nat} (hi : i < D.length) (h1 : rwant D (D.getD i default) = true) (h2 : ∀ j, j < i → rwant D (D.getD j default) = false) : rnext D = some i := by
  unfold rnext
  rw [List.findIdx?_eq_some_iff_getElem]
  refine ⟨hi, ?_, fun j hj => ?_⟩
  · rwa [rgetD hi] at h1
  · have := h2 j hj
    rw [rgetD (by omega)] at this
    simp [this]
end Go.Proofs.Ytccpblefebjadaa
