/- The argument 'a slice of nodes', opened. -/
import Derived.Test.YtccpblefebjadaaA18
import Derived.Test.YtccpblefebjadaaRows
import Derived.Deep.Strs
import Derived.ProofKit
namespace Go.Proofs.Ytccpblefebjadaa
open Go.ChangeShapes Go.WideShapes Go.ChangeAt Go.RowKit Go.Deep

theorem own : ownKnob Try.prog.godebug = none := by kernel_rfl
theorem laidOut : laidOutB Try.prog = true := by kernel_rfl
theorem cells30 : Try.prog.cellsOf 30 = 1 := by kernel_rfl
theorem cells27 : Try.prog.cellsOf 27 = 1 := by kernel_rfl
theorem cells42 : Try.prog.cellsOf 42 = 3 := by kernel_rfl


section
variable {H : Type} {enc : TypeId × Value → H} {W : World}

/-- A slice of strings, read as data, holds some strings. -/
theorem open_raw {fuel : Nat} {v : Value} {x : DataW H × List MemPlace} (h : DataW.trod enc Try.prog W 0 (fun _ => true) true fuel 27 [v] = some x) : ∃ l, RawStrs W v l := by
  rcases open_strs Try.underlying27 Try.underlying30 cells30 h with ⟨hcs, _⟩ | ⟨a, len, cap, m, Sx, hcs, _, hl, hm, hmm, _, hc⟩
  · cases hcs
    exact ⟨[], none, 0, rfl, Nat.zero_le _, by simp, fun hp => absurd hp (by simp)⟩
  · cases hcs
    have hlm : len ≤ m := by rw [hmm]; split <;> omega
    have hln : ((List.range len).map Sx).length = len := by simp
    refine ⟨(List.range len).map Sx, some a, cap, by rw [hln], by rw [hln]; omega, ?_, fun hp => ?_⟩
    · intro s hs
      obtain ⟨i, hi, rfl⟩ := List.mem_map.1 hs
      have := List.mem_range.1 hi
      exact (hc i (by omega)).2
    · rw [hln] at hp
      obtain ⟨b, off, spot⟩ := a
      have h0 := (hc 0 (by omega)).1
      have hspot : spot = none := by simpa [Addr.add] using World.cell?_spot h0
      subst hspot
      have hlt := World.block_lt_of_cell? W _ h0
      refine ⟨b, off, rfl, by simpa [Addr.add] using hlt, fun j hj => ?_⟩
      rw [hln] at hj
      have hj2 := (hc j (by omega)).1
      rw [add_plain] at hj2
      rw [hj2]
      simp [List.getD_eq_getElem?_getD, hj]

theorem open_nodes {base : Nat} {v : Value} {d : DataW H} {p : List MemPlace} (hv : Value.okWide Try.prog W .any base 22 v) (h : DataW.Trod enc Try.prog W 0 (fun _ => true) true 22 v d p) : ∃ L, NodesAt W v L := by
  obtain ⟨a0, len0, cap0, rfl⟩ := okWide_slice Try.underlying22 hv
  obtain ⟨fuel, hf⟩ := h
  rcases open_slice Try.underlying22 hf with ⟨hcs, _⟩ | ⟨a, len, cap, m, n, D, Pl, hcs, _, hl, hm, hmm, _, hi⟩
  · simp [Value.cells] at hcs
    obtain ⟨rfl, rfl, rfl⟩ := hcs
    exact ⟨[], none, 0, rfl, Nat.zero_le _, fun hp => absurd hp (by simp)⟩
  · simp [Value.cells] at hcs
    obtain ⟨rfl, rfl, rfl⟩ := hcs
    have hlm : len0 ≤ m := by rw [hmm]; split <;> omega
    have each : ∀ i, i < len0 → ∃ nd : Nd, W.cell? (a.add (i * 3)) = some (.string nd.id) ∧ nd.id.size ≤ maxLen ∧ ∃ pv, W.cell? (a.add (i * 3 + 1)) = some pv ∧ RawStrs W pv nd.ps := by
      intro i hil
      obtain ⟨cs, hc, ht⟩ := hi i (by omega)
      rw [cells42] at hc
      obtain ⟨_, hlen, hcell⟩ := World.cells?_some hc
      obtain ⟨y0, y1, y2, n', _, _, h0, h1, _⟩ := trod_struct3 Try.underlying42 ht
      match cs, hlen with
      | [v0, v1, v2], _ =>
        simp [cells30, cells27] at h0 h1
        obtain ⟨s, e0, _, hs⟩ := DataW.trod_string Try.underlying30 h0
        obtain ⟨l, hl1⟩ := open_raw h1
        have g0 := hcell 0 (by omega)
        have g1 := hcell 1 (by omega)
        rw [add_add] at g0 g1
        simp at e0
        subst e0
        exact ⟨⟨s, l⟩, by simpa using g0, hs, v1, by simpa using g1, hl1⟩
    obtain ⟨f, hfi⟩ := choose_lt each
    have hln : ((List.range len0).map f).length = len0 := by simp
    refine ⟨(List.range len0).map f, some a, cap0, by rw [hln], by rw [hln]; omega, fun hp => ?_⟩
    rw [hln] at hp
    obtain ⟨b, off, spot⟩ := a
    have h0 := (hfi 0 hp).1
    have hspot : spot = none := by simpa [Addr.add] using World.cell?_spot h0
    subst hspot
    have hlt := World.block_lt_of_cell? W _ h0
    refine ⟨b, off, rfl, by simpa [Addr.add] using hlt, fun j hj => ?_⟩
    rw [hln] at hj
    obtain ⟨g0, g1, pv, g2, g3⟩ := hfi j hj
    rw [add_plain] at g0 g2
    have hgd : ((List.range len0).map f).getD j default = f j := by simp [List.getD_eq_getElem?_getD, hj]
    rw [hgd]
    exact ⟨g0, g1, pv, by simpa [Nat.add_assoc] using g2, g3⟩
end
end Go.Proofs.Ytccpblefebjadaa
