/- Plain laws of levels. -/
import Derived.Test.YtccpblefebjadaaM3
namespace Go.Proofs.Ytccpblefebjadaa
open M (Rising keys get Graph Stands Searched Bs)

/-- the highest level of some; -1: there is none. -/
def topOf (G : Graph) (l : List Bs) : Int := l.foldl (fun t p => max t (G.level p)) (-1)
theorem topOf_snoc (G : Graph) (l : List Bs) (p : Bs) : topOf G (l ++ [p]) = max (topOf G l) (G.level p) := by simp [topOf]
theorem topOf_bound {G : Graph} (h : G.Ok) (l : List Bs) : -1 ≤ topOf G l ∧ topOf G l ≤ G.inn.length := by
  unfold topOf
  suffices ∀ a : Int, -1 ≤ a → a ≤ G.inn.length → -1 ≤ l.foldl (fun t p => max t (G.level p)) a ∧ l.foldl (fun t p => max t (G.level p)) a ≤ G.inn.length from this (-1) (by omega) (by omega)
  induction l with
  | nil => intro a h1 h2; exact ⟨h1, h2⟩
  | cons p r ih =>
    intro a h1 h2
    have hp : -1 ≤ G.level p ∧ G.level p ≤ G.inn.length := by
      have := Graph.Ok.lev_le h p
      unfold Graph.level
      split <;> omega
    exact ih _ (by show -1 ≤ max a _; omega) (by show max a _ ≤ _; omega)
theorem topOf_lev {G : Graph} (l : List Bs) (h : ∀ p ∈ l, G.has p = true) : topOf G l + 1 = G.levOf l := by
  unfold topOf Graph.levOf
  suffices ∀ (a : Nat), l.foldl (fun t p => max t (G.level p)) ((a : Int) - 1) + 1 = (l.foldl (fun t p => max t (G.lev p + 1)) a : Nat) from by simpa using this 0
  induction l with
  | nil => intro a; simp
  | cons p r ih =>
    intro a
    simp only [List.foldl_cons]
    have hp : G.level p = G.lev p := by unfold Graph.level; rw [h p (by simp)]; simp
    have : max ((a : Int) - 1) (G.level p) = ((max a (G.lev p + 1) : Nat) : Int) - 1 := by rw [hp]; omega
    rw [this]
    exact ih (fun q hq => h q (by simp [hq])) _

/-- What is looked for at a parent p of x. -/
theorem closed_parent {G : Graph} (h : G.Ok) {x p : Bs} (hx : x ∈ G.ids) (hp : p ∈ G.parents x) : G.has p = true ∧ G.level p < G.level x ∧ Stands G p x ∧ ¬ Stands G x p := by
  have h1 := Graph.parents_in h hp
  have h2 := Graph.lev_parent h hp
  have hpi : G.has p = true := M.isSome_get.2 h1
  have hxi : G.has x = true := M.isSome_get.2 hx
  refine ⟨hpi, ?_, .step hp .self, fun hs => ?_⟩
  · unfold Graph.level; rw [hpi, hxi]; simpa using h2
  · rcases M.Stands.lev h hs with e | e
    · subst e; omega
    · omega
theorem closed_level {G : Graph} (h : G.Ok) {x : Bs} (hx : x ∈ G.ids) : G.level x = topOf G (G.parents x) + 1 := by
  rw [topOf_lev _ (fun p hp => (closed_parent h hx hp).1)]
  have hxi : G.has x = true := M.isSome_get.2 hx
  unfold Graph.level
  rw [hxi, if_pos rfl]
  unfold Graph.lev Graph.parents
  have : (get G.inn x).isSome = true := hxi
  obtain ⟨q, hq⟩ := Option.isSome_iff_exists.1 this
  rw [hq]
  simp only [Option.map_some, Option.getD_some]
  exact congrArg (fun n : Nat => (n : Int)) (h.lv x q hq)
theorem waits_out {G : Graph} (h : G.Ok) {x : Bs} (hx : x ∈ G.waiting) : G.has x = false ∧ G.level x = -1 ∧ G.parents x = [] := by
  have hn : x ∉ keys G.inn := fun hi => h.apart x hi hx
  have hf : G.has x = false := by
    cases hh : G.has x with
    | false => rfl
    | true => exact absurd (M.isSome_get.1 hh) hn
  refine ⟨hf, by unfold Graph.level; rw [hf]; simp, ?_⟩
  unfold Graph.parents
  rw [M.get_none hn]; rfl
end Go.Proofs.Ytccpblefebjadaa
