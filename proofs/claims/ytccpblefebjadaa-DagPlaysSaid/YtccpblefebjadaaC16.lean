/- What the reference's list says is what the graph says. -/
import Derived.Test.YtccpblefebjadaaC15
import Derived.Test.YtccpblefebjadaaM3
namespace Go.Proofs.Ytccpblefebjadaa
open M (Rising keys get Graph Stands Searched Bs)

section
variable {G : Graph} {D : List RN}
theorem Rel.inode (h : Rel G D) (hG : G.Ok) {x : Bs} (hx : x ∈ G.ids) : ∃ n ∈ D, n.id = x ∧ n.inn = true ∧ n.ps = G.parents x ∧ ∃ l, get G.inn x = some (n.ps, l) := by
  obtain ⟨n, hn, hid⟩ := h.all x (.inr hx)
  cases hin : n.inn with
  | true =>
    obtain ⟨l, hl⟩ := h.inn n hn hin
    rw [hid] at hl
    refine ⟨n, hn, hid, hin, ?_, l, hl⟩
    unfold Graph.parents; rw [hl]; rfl
  | false =>
    have hl := h.wai n hn hin
    rw [hid] at hl
    exact absurd (M.isSome_get.1 (by rw [hl]; rfl)) (hG.apart x hx)
theorem Rel.iid (h : Rel G D) {n : RN} (hn : n ∈ D) (hin : n.inn = true) : n.id ∈ G.ids ∧ n.ps = G.parents n.id := by
  obtain ⟨l, hl⟩ := h.inn n hn hin
  exact ⟨M.isSome_get.1 (by rw [hl]; rfl), by unfold Graph.parents; rw [hl]; rfl⟩
theorem Rel.ids (h : Rel G D) (hG : G.Ok) : rall true D = G.ids := by
  refine M.rising_ext (List.pairwise_map.2 (h.up.filter _)) (M.sorted_keys hG.ri) (fun x => ?_)
  unfold rall
  rw [List.mem_map]
  constructor
  · rintro ⟨n, hn, rfl⟩
    obtain ⟨h1, h2⟩ := List.mem_filter.1 hn
    exact (h.iid h1 (by simpa using h2)).1
  · intro hx
    obtain ⟨n, hn, hid, hin, _⟩ := h.inode hG hx
    exact ⟨n, List.mem_filter.2 ⟨hn, by simp [hin]⟩, hid⟩
theorem Rel.waiting (h : Rel G D) (hG : G.Ok) : rall false D = G.waiting := by
  refine M.rising_ext (List.pairwise_map.2 (h.up.filter _)) (M.sorted_keys hG.rw) (fun x => ?_)
  unfold rall
  rw [List.mem_map]
  constructor
  · rintro ⟨n, hn, rfl⟩
    obtain ⟨h1, h2⟩ := List.mem_filter.1 hn
    have := h.wai n h1 (by simpa using h2)
    exact M.isSome_get.1 (by rw [this]; rfl)
  · intro hx
    obtain ⟨e, he, rfl⟩ := List.mem_map.1 hx
    obtain ⟨n, hn, hid, _, hin⟩ := h.wnode hG he
    exact ⟨n, List.mem_filter.2 ⟨hn, by simp [hin]⟩, hid⟩
theorem Rel.parents (h : Rel G D) (hG : G.Ok) (x : Bs) : rpar D x = G.parents x := by
  unfold rpar
  cases hp : place D x with
  | none =>
    simp only
    unfold Graph.parents
    rw [M.get_none (fun hc => by obtain ⟨i, hi⟩ := (h.known x).1 (.inr hc); rw [hp] at hi; cases hi)]; rfl
  | some i =>
    obtain ⟨h1, h2⟩ := place_at hp
    simp only
    cases hin : (D.getD i default).inn with
    | true =>
      rw [if_pos rfl, (h.iid (rmem h1) hin).2, h2]
    | false =>
      rw [if_neg (by simp)]
      have hl := h.wai _ (rmem h1) hin
      rw [h2] at hl
      unfold Graph.parents
      rw [M.get_none (fun hc => hG.apart x hc (M.isSome_get.1 (by rw [hl]; rfl)))]; rfl
theorem mem_lks (ps : List Bs) : ∀ {o : List Bs} {x : Bs}, x ∈ lks D o ps ↔ x ∈ o ∨ (x ∈ ps ∧ place D x = none) := by
  induction ps with
  | nil => intro o x; simp [lks]
  | cons p r ih =>
    intro o x
    show x ∈ lks D (lk1 D o p) r ↔ _
    rw [ih]
    have h1 : x ∈ lk1 D o p ↔ x ∈ o ∨ (x = p ∧ place D x = none) := by
      unfold lk1
      split
      · rename_i hp
        rw [M.mem_insU]
        constructor
        · rintro (rfl | h)
          · exact .inr ⟨rfl, by simpa using hp⟩
          · exact .inl h
        · rintro (h | ⟨rfl, _⟩)
          · exact .inr h
          · exact .inl rfl
      · rename_i hp
        constructor
        · exact .inl
        · rintro (h | ⟨rfl, hn⟩)
          · exact h
          · rw [hn] at hp; simp at hp
    rw [h1, List.mem_cons]
    constructor
    · rintro ((h | ⟨h, hn⟩) | ⟨h, hn⟩)
      · exact .inl h
      · exact .inr ⟨.inl h, hn⟩
      · exact .inr ⟨.inr h, hn⟩
    · rintro (h | ⟨h | h, hn⟩)
      · exact .inl (.inl h)
      · exact .inl (.inr ⟨h, hn⟩)
      · exact .inr ⟨h, hn⟩
theorem lks_up (ps : List Bs) : ∀ {o : List Bs}, o.Pairwise (· < ·) → (lks D o ps).Pairwise (· < ·) := by
  induction ps with
  | nil => intro o h; exact h
  | cons p r ih =>
    intro o h
    refine ih ?_
    unfold lk1
    split
    · exact M.rising_insU h
    · exact h
theorem mem_rl (E : List RN) : ∀ {o : List Bs} {x : Bs}, x ∈ E.foldl (lkn D) o ↔ x ∈ o ∨ ∃ n ∈ E, n.inn = false ∧ x ∈ n.ps ∧ place D x = none := by
  induction E with
  | nil => intro o x; simp
  | cons n r ih =>
    intro o x
    rw [List.foldl_cons, ih]
    have h1 : x ∈ lkn D o n ↔ x ∈ o ∨ (n.inn = false ∧ x ∈ n.ps ∧ place D x = none) := by
      unfold lkn
      cases hin : n.inn with
      | true => simp
      | false => rw [if_neg (by simp), mem_lks]; simp
    rw [h1]
    simp only [List.mem_cons, exists_eq_or_imp]
    constructor
    · rintro ((h | h) | h)
      · exact .inl h
      · exact .inr (.inl h)
      · exact .inr (.inr h)
    · rintro (h | h | h)
      · exact .inl (.inl h)
      · exact .inl (.inr h)
      · exact .inr h
theorem rl_up (E : List RN) : ∀ {o : List Bs}, o.Pairwise (· < ·) → (E.foldl (lkn D) o).Pairwise (· < ·) := by
  induction E with
  | nil => intro o h; exact h
  | cons n r ih =>
    intro o h
    refine ih ?_
    unfold lkn
    split
    · exact h
    · exact lks_up _ h
theorem Rel.lacks (h : Rel G D) (hG : G.Ok) : rlacks D = G.lacks := by
  refine M.rising_ext (rl_up D List.Pairwise.nil) (M.rising_norm _) (fun x => ?_)
  unfold rlacks M.Graph.lacks
  rw [mem_rl, M.mem_norm, List.mem_filter, List.mem_flatMap]
  have hl : M.Graph.lacking G x = true ↔ place D x = none := by
    have hk := h.known x
    have e : M.Graph.lacking G x = !((get G.wai x).isSome || G.has x) := by unfold M.Graph.lacking; rw [Bool.not_or]
    rw [e, Bool.not_eq_true']
    constructor
    · intro hf
      cases hp : place D x with
      | none => rfl
      | some i =>
        have := known_iff.2 (hk.2 ⟨i, hp⟩)
        rw [hf] at this; cases this
    · intro hp
      cases hf : ((get G.wai x).isSome || G.has x) with
      | false => rfl
      | true =>
        obtain ⟨i, hi⟩ := hk.1 (known_iff.1 hf)
        rw [hp] at hi; cases hi
  rw [hl]
  constructor
  · rintro (h' | ⟨n, hn, hin, hx, hp⟩)
    · simp at h'
    · have hw := h.wai n hn hin
      exact ⟨⟨(n.id, n.ps), (M.mem_get hG.rw).2 hw, hx⟩, hp⟩
  · rintro ⟨⟨e, he, hx⟩, hp⟩
    obtain ⟨n, hn, _, hps, hin⟩ := h.wnode hG he
    exact .inr ⟨n, hn, hin, by rw [hps]; exact hx, hp⟩
theorem Rel.heads (h : Rel G D) (hG : G.Ok) : rheads D = G.heads := by
  refine M.rising_ext (List.pairwise_map.2 (h.up.filter _)) (heads_rising hG) (fun x => ?_)
  unfold rheads
  rw [mem_heads hG, List.mem_map]
  have hb : ∀ y, (D.any (below1 y)) = true ↔ ∃ z, y ∈ G.parents z := fun y => by
    rw [List.any_eq_true]
    constructor
    · rintro ⟨m, hm, hb⟩
      unfold below1 at hb
      rw [Bool.and_eq_true, List.contains_iff_mem] at hb
      exact ⟨m.id, by rw [← (h.iid hm hb.1).2]; exact hb.2⟩
    · rintro ⟨z, hz⟩
      obtain ⟨n, hn, _, hin, hps, _⟩ := h.inode hG (mem_parents_ids hz)
      exact ⟨n, hn, by unfold below1; rw [hin, Bool.true_and, List.contains_iff_mem, hps]; exact hz⟩
  constructor
  · rintro ⟨n, hn, rfl⟩
    obtain ⟨h1, h2⟩ := List.mem_filter.1 hn
    unfold isHead at h2
    rw [Bool.and_eq_true, Bool.not_eq_true'] at h2
    refine ⟨(h.iid h1 h2.1).1, fun hc => ?_⟩
    rw [(hb n.id).2 hc] at h2; cases h2.2
  · rintro ⟨hx, hn⟩
    obtain ⟨n, hn', hid, hin, _⟩ := h.inode hG hx
    refine ⟨n, List.mem_filter.2 ⟨hn', ?_⟩, hid⟩
    unfold isHead
    rw [hin, Bool.true_and, Bool.not_eq_true']
    cases hc : D.any (below1 n.id) with
    | false => rfl
    | true => rw [hid] at hc; exact absurd ((hb x).1 hc) hn
end
end Go.Proofs.Ytccpblefebjadaa
