/- Plain laws of heads and of closed graphs. -/
import Derived.Test.YtccpblefebjadaaA12
import Derived.Test.YtccpblefebjadaaM2
namespace Go.Proofs.Ytccpblefebjadaa
open M (Rising keys get Graph Stands Searched Bs)

theorem mem_parents_ids {G : Graph} {x p : Bs} (h : p ∈ G.parents x) : x ∈ G.ids := by
  unfold Graph.parents at h
  refine M.isSome_get.1 ?_
  cases hx : get G.inn x with
  | none => rw [hx] at h; simp at h
  | some q => rfl
theorem stood_of {G : Graph} (hG : G.Ok) {x : Bs} : G.stood x = true ↔ ∃ y, x ∈ G.parents y := by
  unfold M.Graph.stood
  rw [List.any_eq_true]
  constructor
  · rintro ⟨e, he, hc⟩
    refine ⟨e.1, ?_⟩
    unfold Graph.parents
    rw [(M.mem_get (k := e.1) (v := e.2) hG.ri).1 he]
    simpa using hc
  · rintro ⟨y, hy⟩
    unfold Graph.parents at hy
    cases hq : get G.inn y with
    | none => rw [hq] at hy; simp at hy
    | some q =>
      rw [hq] at hy
      exact ⟨(y, q), (M.mem_get hG.ri).2 hq, by simpa using hy⟩
theorem mem_heads {G : Graph} (hG : G.Ok) {x : Bs} : x ∈ G.heads ↔ x ∈ G.ids ∧ ¬ ∃ y, x ∈ G.parents y := by
  unfold M.Graph.heads
  rw [List.mem_filter, ← stood_of hG]
  simp [Graph.ids]
theorem under_head {G : Graph} (hG : G.Ok) (n : Nat) : ∀ x ∈ G.ids, G.inn.length - G.lev x ≤ n → ∃ h ∈ G.heads, Stands G x h := by
  induction n with
  | zero =>
    intro x hx hn
    have := Graph.lev_lt hG (x := x) (M.isSome_get.2 hx)
    omega
  | succ n ih =>
    intro x hx hn
    by_cases hs : ∃ y, x ∈ G.parents y
    · obtain ⟨y, hy⟩ := hs
      have hl := Graph.lev_parent hG hy
      have hyi := mem_parents_ids hy
      have := Graph.lev_lt hG (x := y) (M.isSome_get.2 hyi)
      obtain ⟨h, hh, hst⟩ := ih y hyi (by omega)
      exact ⟨h, hh, Stands.trans (.step hy .self) hst⟩
    · exact ⟨x, (mem_heads hG).2 ⟨hx, hs⟩, .self⟩
theorem Stands.parent {G : Graph} {a b : Bs} (h : Stands G a b) : a = b ∨ ∃ y, a ∈ G.parents y := by
  induction h with
  | self => exact .inl rfl
  | step hp _ ih =>
    rcases ih with rfl | ih
    · exact .inr ⟨_, hp⟩
    · exact .inr ih
theorem head_top {G : Graph} (hG : G.Ok) {h x : Bs} (hh : h ∈ G.heads) (hs : Stands G h x) : h = x :=
  (Stands.parent hs).resolve_right ((mem_heads hG).1 hh).2
theorem heads_none {G : Graph} (hG : G.Ok) : G.heads = [] ↔ G.ids = [] := by
  constructor
  · intro h
    cases hi : G.ids with
    | nil => rfl
    | cons x r =>
      obtain ⟨y, hy, _⟩ := under_head hG _ x (by rw [hi]; simp) (Nat.le_refl _)
      rw [h] at hy; simp at hy
  · intro h
    cases hi : G.heads with
    | nil => rfl
    | cons x r =>
      have := ((mem_heads hG).1 (show x ∈ G.heads by rw [hi]; simp)).1
      rw [h] at this; simp at this
end Go.Proofs.Ytccpblefebjadaa
