/- The two lists' relation: Add keeps it. -/
import Derived.Test.YtccpblefebjadaaC14
namespace Go.Proofs.Ytccpblefebjadaa
open M (Rising keys get Graph Stands Searched Bs)

theorem find_first {α : Type} {P : Bs × α → Bool} : ∀ {l : M.AL α}, Rising l → ∀ {e e' : Bs × α}, e ∈ l → P e = true → l.find? P = some e' → ¬ e.1 < e'.1
  | [], _, _, _, he, _, _ => by simp at he
  | q :: r, h, e, e', he, hp, hf => by
    obtain ⟨h1, h2⟩ := M.rising_cons.1 h
    rw [List.find?_cons] at hf
    split at hf
    · cases hf
      rcases List.mem_cons.1 he with rfl | he
      · exact M.lt_irrefl _
      · exact fun hlt => M.lt_irrefl _ (M.lt_trans hlt (h1 _ (M.mem_keys he)))
    · rename_i hq
      rcases List.mem_cons.1 he with rfl | he
      · rw [hp] at hq; cases hq
      · exact find_first h2 he hp hf

section
variable {G : Graph} {D : List RN}
theorem Rel.wnode (h : Rel G D) (hG : G.Ok) {e : Bs × List Bs} (he : e ∈ G.wai) : ∃ n ∈ D, n.id = e.1 ∧ n.ps = e.2 ∧ n.inn = false := by
  have hg := (M.mem_get (k := e.1) (v := e.2) hG.rw).1 he
  obtain ⟨n, hn, hid⟩ := h.all e.1 (.inl (M.mem_keys he))
  cases hin : n.inn with
  | true =>
    obtain ⟨l, hl⟩ := h.inn n hn hin
    rw [hid] at hl
    exact absurd (M.mem_keys he) (hG.apart _ (M.isSome_get.1 (by rw [hl]; rfl)))
  | false =>
    have hl := h.wai n hn hin
    rw [hid, hg] at hl
    exact ⟨n, hn, hid, (Option.some.inj hl).symm, hin⟩
theorem Rel.next_none (h : Rel G D) (hG : G.Ok) (hr : rnext D = none) : G.next = none := by
  unfold Graph.next
  rw [List.find?_eq_none]
  intro e he hrd
  obtain ⟨n, hn, _, hps, hin⟩ := h.wnode hG he
  unfold rnext at hr
  rw [List.findIdx?_eq_none_iff] at hr
  have := hr n hn
  unfold rwant at this
  rw [hin, h.ready hG, hps] at this
  rw [hrd] at this
  simp at this
theorem rnext_at {i : Nat} (hr : rnext D = some i) : i < D.length ∧ rwant D (D.getD i default) = true ∧ ∀ j, j < i → rwant D (D.getD j default) = false := by
  unfold rnext at hr
  rw [List.findIdx?_eq_some_iff_getElem] at hr
  obtain ⟨hi, h1, h2⟩ := hr
  refine ⟨hi, by rw [rgetD hi]; exact h1, fun j hj => ?_⟩
  rw [rgetD (by omega)]
  simpa using h2 j hj
theorem Rel.next_some (h : Rel G D) (hG : G.Ok) {i : Nat} (hr : rnext D = some i) : G.next = some ((D.getD i default).id, (D.getD i default).ps) := by
  obtain ⟨hi, h1, h2⟩ := rnext_at hr
  unfold rwant at h1
  rw [Bool.and_eq_true, Bool.not_eq_true'] at h1
  have hw := h.wai _ (rmem hi) h1.1
  have hmem := (M.mem_get hG.rw).2 hw
  have hrd : G.ready (D.getD i default).ps = true := by rw [← h.ready hG]; exact h1.2
  unfold Graph.next
  cases hf : G.wai.find? (fun e => G.ready e.2) with
  | none =>
    rw [List.find?_eq_none] at hf
    exact absurd hrd (hf _ hmem)
  | some e' =>
    have h3 := find_first hG.rw hmem (P := fun e => G.ready e.2) hrd hf
    have he' := List.mem_of_find?_eq_some hf
    have hp' : G.ready e'.2 = true := by simpa using List.find?_some hf
    obtain ⟨n, hn, hid, hps, hin⟩ := h.wnode hG he'
    obtain ⟨j, hj, hjl, hjn⟩ := place_node h.up hn
    have hwj : rwant D (D.getD j default) = true := by
      rw [hjn]; unfold rwant; rw [hin, h.ready hG, hps, hp']; rfl
    have hji : ¬ j < i := fun hlt => by rw [h2 j hlt] at hwj; cases hwj
    have : j = i := by
      rcases Nat.lt_trichotomy i j with hlt | e | hlt
      · exfalso
        have := List.pairwise_iff_getElem.1 h.up i j hi hjl hlt
        rw [← rgetD hi, ← rgetD hjl, hjn, hid] at this
        exact h3 this
      · exact e.symm
      · exact absurd hlt hji
    subst this
    rw [hjn]
    rw [hid, hps]
theorem Rel.mark (h : Rel G D) (hG : G.Ok) {i : Nat} (hr : rnext D = some i) : Rel (G.enter (D.getD i default).id (D.getD i default).ps) (mark D i) := by
  obtain ⟨hi, h1, _⟩ := rnext_at hr
  have hne : ∀ j, j < D.length → i ≠ j → (D.getD j default).id ≠ (D.getD i default).id := fun j hj hij e => by
    rcases Nat.lt_or_gt_of_ne hij with hlt | hlt
    · have := List.pairwise_iff_getElem.1 h.up i j hi hj hlt
      rw [← rgetD hi, ← rgetD hj, e] at this
      exact M.lt_irrefl _ this
    · have := List.pairwise_iff_getElem.1 h.up j i hj hi hlt
      rw [← rgetD hi, ← rgetD hj, e] at this
      exact M.lt_irrefl _ this
  have hcase : ∀ m ∈ Ytccpblefebjadaa.mark D i, (m = { D.getD i default with inn := true }) ∨ (m ∈ D ∧ m.id ≠ (D.getD i default).id) := fun m hm => by
    obtain ⟨j, hj, rfl⟩ := List.getElem_of_mem hm
    have hj' : j < D.length := by rw [mark_len] at hj; exact hj
    have := mark_at hi hj'
    rw [rgetD hj] at this
    rw [this]
    split
    · exact .inl rfl
    · rename_i e
      exact .inr ⟨rmem hj', hne j hj' e⟩
  refine ⟨?_, fun m hm hin => ?_, fun m hm hin => ?_, fun y hy => ?_⟩
  · have hu := List.pairwise_map.2 h.up
    rw [← mark_ids D i hi] at hu
    exact List.pairwise_map.1 hu
  · show ∃ l, get (M.ins (D.getD i default).id ((D.getD i default).ps, G.levOf (D.getD i default).ps) G.inn) m.id = some (m.ps, l)
    rw [M.get_ins]
    rcases hcase m hm with rfl | ⟨hm, hne'⟩
    · exact ⟨_, by rw [if_pos rfl]⟩
    · rw [if_neg hne']; exact h.inn m hm hin
  · show get (M.rem (D.getD i default).id G.wai) m.id = some m.ps
    rcases hcase m hm with rfl | ⟨hm, hne'⟩
    · cases hin
    · rw [M.get_rem hG.rw, if_neg hne']; exact h.wai m hm hin
  · have hids : ∀ x, x ∈ D.map (·.id) → ∃ n ∈ Ytccpblefebjadaa.mark D i, n.id = x := fun x hx => by
      rw [← mark_ids D i hi] at hx
      exact List.mem_map.1 hx
    rcases (known_enter hG).1 hy with rfl | hy
    · exact hids _ (List.mem_map.2 ⟨_, rmem hi, rfl⟩)
    · obtain ⟨n, hn, e⟩ := h.all y hy
      exact hids y (List.mem_map.2 ⟨n, hn, e⟩)
theorem Rel.settle : ∀ (n : Nat) {G : Graph} {D : List RN} (_ : Rel G D) (_ : G.Ok) (out : List Bs), Rel (Graph.settle n G out).1 (rsettle n D out).1 ∧ (Graph.settle n G out).2 = (rsettle n D out).2
  | 0, _, _, h, _, _ => ⟨h, rfl⟩
  | n + 1, G, D, h, hG, out => by
    unfold Graph.settle rsettle
    cases hr : rnext D with
    | none => rw [h.next_none hG hr]; exact ⟨h, rfl⟩
    | some i =>
      rw [h.next_some hG hr]
      exact Rel.settle n (h.mark hG hr) (hG.next (h.next_some hG hr)) _
/-- As many wait here as there. -/
theorem Rel.waits (h : Rel G D) (hG : G.Ok) : waits D = G.wai.length := by
  have e1 : (D.filter (fun n => !n.inn)).map (·.id) = keys G.wai := by
    refine M.rising_ext ?_ (M.sorted_keys hG.rw) (fun x => ?_)
    · exact List.pairwise_map.2 (h.up.filter _)
    · rw [List.mem_map]
      constructor
      · rintro ⟨n, hn, rfl⟩
        obtain ⟨h1, h2⟩ := List.mem_filter.1 hn
        have := h.wai n h1 (by simpa using h2)
        exact M.isSome_get.1 (by rw [this]; rfl)
      · intro hx
        obtain ⟨e, he, rfl⟩ := List.mem_map.1 hx
        obtain ⟨n, hn, hid, _, hin⟩ := h.wnode hG he
        exact ⟨n, List.mem_filter.2 ⟨hn, by simp [hin]⟩, hid⟩
  unfold Ytccpblefebjadaa.waits
  rw [List.countP_eq_length_filter]
  have := congrArg List.length e1
  simpa [keys] using this
theorem Rel.add (h : Rel G D) (hG : G.Ok) {x : Bs} (hx : x.length ≤ 1000) (ps : List Bs) (pv : Value) (hn : place D x = none) : Rel (G.add x ps).1 (raddD D x ps pv).1 ∧ (G.add x ps).2 = (raddD D x ps pv).2 := by
  have hk : ¬ ((get G.wai x).isSome || G.has x) = true := fun hk => by
    obtain ⟨i, hi⟩ := (h.known x).1 (known_iff.1 hk)
    rw [hn] at hi; cases hi
  have hi := h.insert hG (pv := pv) (ps := M.norm ps) hn
  unfold Graph.add raddD
  rw [if_neg hk, h.ready hG]
  by_cases hr : G.ready (M.norm ps) = true
  · rw [if_pos hr] at hi
    rw [if_pos hr, if_pos hr]
    have hni : x ∉ keys G.inn := fun hc => hk (known_iff.2 (.inr hc))
    have hok := hG.enter hx hni hr
    have hw := hi.waits hok
    rw [hw]
    exact hi.settle _ hok _
  · rw [if_neg hr] at hi
    rw [if_neg hr, if_neg hr]
    exact ⟨hi, rfl⟩
end
end Go.Proofs.Ytccpblefebjadaa
