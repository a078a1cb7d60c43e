/- Plain laws: who was added is known. -/
import Derived.Test.YtccpblefebjadaaA18
namespace Go.Proofs.Ytccpblefebjadaa
open M (Rising keys get Graph Stands Searched Bs)

def M.Graph.known (G : Graph) (x : Bs) : Prop := x ∈ keys G.wai ∨ x ∈ keys G.inn

theorem known_iff {G : Graph} {x : Bs} : ((get G.wai x).isSome || G.has x) = true ↔ G.known x := by
  unfold M.Graph.known Graph.has
  rw [Bool.or_eq_true, M.isSome_get, M.isSome_get]

theorem known_enter {G : Graph} (h : G.Ok) {x y : Bs} {ps : List Bs} : (G.enter y ps).known x ↔ x = y ∨ G.known x := by
  unfold M.Graph.known
  rw [show (G.enter y ps).inn = M.ins y (ps, G.levOf ps) G.inn from rfl, M.mem_keys_ins, show (G.enter y ps).wai = M.rem y G.wai from rfl]
  have : x ∈ keys (M.rem y G.wai) ↔ x ≠ y ∧ x ∈ keys G.wai := by
    rw [← M.isSome_get, M.get_rem h.rw, ← M.isSome_get]
    by_cases e : x = y
    · simp [e]
    · simp [e]
  rw [this]
  by_cases e : x = y
  · simp [e]
  · simp [e]

theorem known_settle : ∀ (n : Nat) {G : Graph} (_ : G.Ok) (out : List Bs) {x : Bs}, (Graph.settle n G out).1.known x ↔ G.known x
  | 0, _, _, _, _ => Iff.rfl
  | n + 1, G, h, out, x => by
    unfold Graph.settle
    split
    · exact Iff.rfl
    · rename_i e he
      rw [known_settle n (h.next he), known_enter h]
      constructor
      · rintro (rfl | hk)
        · exact .inl (M.mem_keys (Graph.next_mem he).1)
        · exact hk
      · exact .inr

theorem known_add {G : Graph} (h : G.Ok) {x y : Bs} (hy : y.length ≤ 1000) {ps : List Bs} : (G.add y ps).1.known x ↔ x = y ∨ G.known x := by
  unfold Graph.add
  split
  · rename_i hk
    constructor
    · exact .inr
    · rintro (rfl | hk')
      · exact known_iff.1 hk
      · exact hk'
  · rename_i hk
    have hi : y ∉ keys G.inn := fun hi => hk (known_iff.2 (.inr hi))
    split
    · rename_i hr
      rw [known_settle _ (h.enter hy hi hr), known_enter h]
    · show x ∈ keys (M.ins y (M.norm ps) G.wai) ∨ x ∈ keys G.inn ↔ _
      rw [M.mem_keys_ins]
      unfold M.Graph.known
      constructor
      · rintro ((h | h) | h)
        · exact .inl h
        · exact .inr (.inl h)
        · exact .inr (.inr h)
      · rintro (h | h | h)
        · exact .inl (.inl h)
        · exact .inl (.inr h)
        · exact .inr h

theorem known_built (l : List (Bs × List Bs)) (h : ∀ e ∈ l, e.1.length ≤ 1000) (x : Bs) : (built l).known x ↔ ∃ e ∈ l, e.1 = x := by
  suffices ∀ (l : List (Bs × List Bs)) (G : Graph), G.Ok → (∀ e ∈ l, e.1.length ≤ 1000) → ((l.foldl (fun G e => (G.add e.1 e.2).1) G).known x ↔ G.known x ∨ ∃ e ∈ l, e.1 = x) by
    rw [show built l = l.foldl (fun G e => (G.add e.1 e.2).1) Graph.empty from rfl, this l _ Graph.Ok.empty h]
    simp [M.Graph.known, Graph.empty, keys]
  intro l
  induction l with
  | nil => intro G h _; simp
  | cons e r ih =>
    intro G h hx
    rw [List.foldl_cons, ih _ (h.add (hx e (by simp)) e.2) (fun e he => hx e (by simp [he])), known_add h (hx e (by simp))]
    simp only [List.mem_cons, exists_eq_or_imp]
    constructor
    · rintro ((rfl | h) | h)
      · exact .inr (.inl rfl)
      · exact .inl h
      · exact .inr (.inr h)
    · rintro (h | h | h)
      · exact .inl (.inr h)
      · exact .inl (.inl h.symm)
      · exact .inr h

theorem add_of_known {G : Graph} {x : Bs} (h : G.known x) (ps : List Bs) : G.add x ps = (G, []) := by
  unfold Graph.add
  rw [if_pos (known_iff.2 h)]
end Go.Proofs.Ytccpblefebjadaa
