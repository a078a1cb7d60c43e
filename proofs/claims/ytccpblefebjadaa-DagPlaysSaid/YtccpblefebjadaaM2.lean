/- Who stands on whom: the search from one id down its parents. Plain lists. -/
import Derived.Test.YtccpblefebjadaaM1
namespace Go.Proofs.Ytccpblefebjadaa.M

/-- b is a, or stands on it by some steps. -/
inductive Stands (G : Graph) (a : Bs) : Bs → Prop where
  | self : Stands G a a
  | step {x p : Bs} : p ∈ G.parents x → Stands G a p → Stands G a x

/-- What a search that has not found a leaves: S' holds all of S; who is new is not a, and all its parents are there. -/
structure Searched (G : Graph) (a : Bs) (S S' : Bs → Prop) : Prop where
  mono : ∀ y, S y → S' y
  new : ∀ y, S' y → ¬ S y → y ≠ a ∧ ∀ p ∈ G.parents y, S' p
theorem Searched.refl (G : Graph) (a : Bs) (S : Bs → Prop) : Searched G a S S := ⟨fun _ h => h, fun _ h h' => absurd h h'⟩
theorem Searched.trans {G : Graph} {a : Bs} {S T U : Bs → Prop} (h : Searched G a S T) (k : Searched G a T U) : Searched G a S U where
  mono y hy := k.mono y (h.mono y hy)
  new y hy hn := by
    by_cases ht : T y
    · obtain ⟨h1, h2⟩ := h.new y ht hn
      exact ⟨h1, fun p hp => k.mono p (h2 p hp)⟩
    · exact k.new y hy ht
/-- x was put in, then its parents were searched. -/
theorem Searched.put {G : Graph} {a x : Bs} {S T U : Bs → Prop} (hT : ∀ y, T y ↔ y = x ∨ S y) (hx : x ≠ a) (k : Searched G a T U) (hp : ∀ p ∈ G.parents x, U p) : Searched G a S U where
  mono y hy := k.mono y ((hT y).2 (.inr hy))
  new y hy hn := by
    by_cases e : y = x
    · subst e; exact ⟨hx, hp⟩
    · exact k.new y hy (fun ht => ((hT y).1 ht).elim e hn)
/-- Nothing was found from b on, and nothing was seen ahead: b does not stand on a. -/
theorem Searched.not_stands {G : Graph} {a b : Bs} {S : Bs → Prop} (h : Searched G a (fun _ => False) S) (hb : S b) : ¬ Stands G a b := fun hs => by
  induction hs with
  | self => exact (h.new a hb (fun h => h)).1 rfl
  | step hp _ ih => exact ih ((h.new _ hb (fun h => h)).2 _ hp)

theorem Graph.parents_in {G : Graph} (h : G.Ok) {x p : Bs} (hp : p ∈ G.parents x) : p ∈ G.ids := by
  unfold Graph.parents at hp
  cases hx : get G.inn x with
  | none => rw [hx] at hp; simp at hp
  | some q =>
    rw [hx] at hp
    exact isSome_get.1 (List.all_eq_true.1 (h.cl x q hx) p (by simpa using hp))
theorem Graph.lev_parent {G : Graph} (h : G.Ok) {x p : Bs} (hp : p ∈ G.parents x) : G.lev p < G.lev x := by
  unfold Graph.parents at hp
  cases hx : get G.inn x with
  | none => rw [hx] at hp; simp at hp
  | some q =>
    rw [hx] at hp
    have h1 := h.lv x q hx
    have h2 : G.lev x = q.2 := by unfold Graph.lev; rw [hx]; rfl
    rw [h2, h1]
    have hm : p ∈ q.1 := by simpa using hp
    have : ∀ (l : List Bs) a, p ∈ l → G.lev p < l.foldl (fun l p => max l (G.lev p + 1)) a := by
      intro l
      induction l with
      | nil => intro a h; simp at h
      | cons y r ih =>
        intro a h
        simp only [List.foldl_cons]
        rcases List.mem_cons.1 h with rfl | h
        · have hge : ∀ (l : List Bs) a, a ≤ l.foldl (fun l p => max l (G.lev p + 1)) a := by
            intro l
            induction l with
            | nil => intro a; exact Nat.le_refl _
            | cons z s ih2 => intro a; exact Nat.le_trans (Nat.le_max_left _ _) (ih2 _)
          have := hge r (max a (G.lev p + 1))
          have : G.lev p + 1 ≤ max a (G.lev p + 1) := Nat.le_max_right _ _
          omega
        · exact ih _ h
    exact this q.1 0 hm
theorem Stands.lev {G : Graph} (h : G.Ok) {a b : Bs} (hs : Stands G a b) : a = b ∨ G.lev a < G.lev b := by
  induction hs with
  | self => exact .inl rfl
  | step hp _ ih =>
    have := Graph.lev_parent h hp
    rcases ih with rfl | ih
    · exact .inr this
    · exact .inr (by omega)
theorem Stands.trans {G : Graph} {a b c : Bs} (h : Stands G a b) (k : Stands G b c) : Stands G a c := by
  induction k with
  | self => exact h
  | step hp _ ih => exact .step hp ih
end Go.Proofs.Ytccpblefebjadaa.M
