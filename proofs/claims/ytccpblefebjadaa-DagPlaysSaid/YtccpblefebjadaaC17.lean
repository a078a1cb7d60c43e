/- Levels and who stands on whom: the reference's and the graph's. -/
import Derived.Test.YtccpblefebjadaaC16
namespace Go.Proofs.Ytccpblefebjadaa
open M (Rising keys get Graph Stands Searched Bs)

theorem fold_max (f : Bs → Nat) (ps : List Bs) : ∀ a, ps.foldl (fun l p => max l (f p + 1)) a = a ∨ ∃ p ∈ ps, ps.foldl (fun l p => max l (f p + 1)) a = f p + 1 := by
  induction ps with
  | nil => intro a; exact .inl rfl
  | cons p r ih =>
    intro a
    rw [List.foldl_cons]
    rcases ih (max a (f p + 1)) with h | ⟨q, hq, h⟩
    · rcases Nat.le_total a (f p + 1) with hle | hle
      · rw [Nat.max_eq_right hle] at h ⊢; exact .inr ⟨p, by simp, h⟩
      · rw [Nat.max_eq_left hle] at h ⊢; exact .inl h
    · exact .inr ⟨q, by simp [hq], h⟩

section
variable {G : Graph} {D : List RN}
def levF (G : Graph) (D : List RN) (i : Nat) : Nat := if (D.getD i default).inn = true then G.lev (D.getD i default).id else 0
theorem Rel.levAt (h : Rel G D) (hG : G.Ok) {p : Bs} (hp : p ∈ G.ids) : ∃ j, place D p = some j ∧ levF G D j = G.lev p := by
  obtain ⟨n, hn, hid, hin, _⟩ := h.inode hG hp
  obtain ⟨j, hj, _, hjn⟩ := place_node h.up hn
  rw [hid] at hj
  refine ⟨j, hj, ?_⟩
  unfold levF
  rw [hjn, if_pos hin, hid]
theorem Rel.levOk (h : Rel G D) (hG : G.Ok) : LevOk D (levF G D) where
  l1 i hi hin p hp := by
    obtain ⟨_, hps⟩ := h.iid (rmem hi) hin
    rw [hps] at hp
    obtain ⟨j, hj, hl⟩ := h.levAt hG (Graph.parents_in hG hp)
    refine ⟨j, hj, ?_⟩
    have := Graph.lev_parent hG hp
    rw [hl]
    unfold levF
    rw [if_pos hin]
    omega
  l2 i hi := by
    cases hin : (D.getD i default).inn with
    | false => left; unfold levF; rw [hin, if_neg (by simp)]
    | true =>
      obtain ⟨hid, hps⟩ := h.iid (rmem hi) hin
      obtain ⟨l, hl⟩ := h.inn _ (rmem hi) hin
      have hlv := hG.lv _ _ hl
      have hlev : G.lev (D.getD i default).id = l := by unfold Graph.lev; rw [hl]; rfl
      have e : levF G D i = G.levOf (D.getD i default).ps := by unfold levF; rw [if_pos hin, hlev]; exact hlv
      rcases fold_max G.lev (D.getD i default).ps 0 with h0 | ⟨p, hp, hpe⟩
      · left; rw [e]; exact h0
      · right
        refine ⟨rfl, p, hp, ?_⟩
        rw [hps] at hp
        obtain ⟨j, hj, hl'⟩ := h.levAt hG (Graph.parents_in hG hp)
        exact ⟨j, hj, by rw [e, hl']; exact hpe⟩
  l4 i hi := by
    unfold levF
    split
    · have h1 := Graph.Ok.lev_le hG (D.getD i default).id
      have h2 := congrArg List.length (h.ids hG)
      have h3 := rall_len true D
      have h4 : G.ids.length = G.inn.length := by simp [Graph.ids, keys]
      omega
    · omega
theorem Rel.level (h : Rel G D) (hG : G.Ok) (x : Bs) : rlevel D (levF G D) x = G.level x := by
  unfold rlevel
  have hh := h.has hG x
  unfold rhas at hh
  unfold Graph.level
  rw [← hh]
  cases hp : place D x with
  | none => simp
  | some i =>
    obtain ⟨h1, h2⟩ := place_at hp
    simp only
    by_cases hin : (D.getD i default).inn = true
    · rw [if_pos hin, if_pos hin]
      unfold levF
      rw [if_pos hin, h2]
    · rw [if_neg hin, if_neg hin]
theorem SP.front {x p a : Bs} {s : Nat} (h : SP D p s a) (hp : p ∈ rpar D x) : SP D x (s + 1) a := by
  induction h with
  | self => exact .step .self hp
  | step _ hq ih => exact .step ih hq
theorem Rel.stands (h : Rel G D) (hG : G.Ok) (a b : Bs) : (∃ s, SP D b s a) ↔ Stands G a b := by
  constructor
  · rintro ⟨s, hs⟩
    induction hs with
    | self => exact .self
    | step _ hp ih =>
      rw [h.parents hG] at hp
      exact M.Stands.trans (.step hp .self) ih
  · intro hs
    induction hs with
    | self => exact ⟨0, .self⟩
    | step hp _ ih =>
      obtain ⟨s, hs⟩ := ih
      rw [← h.parents hG] at hp
      exact ⟨s + 1, hs.front hp⟩
theorem Rel.above (h : Rel G D) (hG : G.Ok) (a b : Bs) : (rhas D b = true ∧ ∃ s, SP D b s a) ↔ (G.has a = true ∧ G.has b = true ∧ Stands G a b) := by
  rw [h.stands hG, h.has hG]
  constructor
  · rintro ⟨hb, hs⟩
    refine ⟨?_, hb, hs⟩
    rcases Stands.parent hs with rfl | ⟨y, hy⟩
    · exact hb
    · exact M.isSome_get.2 (Graph.parents_in hG hy)
  · rintro ⟨_, hb, hs⟩; exact ⟨hb, hs⟩
end
end Go.Proofs.Ytccpblefebjadaa
