/- The reference's Add, of an id that is known; the two lists' relation. -/
import Derived.Test.YtccpblefebjadaaC13
import Derived.Test.YtccpblefebjadaaM4
namespace Go.Proofs.Ytccpblefebjadaa
open Go.RowKit Go.Maps Go.WideMaps Go.Sort Go.Shelf
open Go.Proofs (encStr)
open M (Rising keys get Graph Stands Searched)

set_option maxRecDepth 100000 in
theorem radd_known (w : World) {R : Nat → Prop} {r : Nat} {v : Value} {D : List RN} (h : RefAt w R r v D) (x : Bs) (pv : Value) {i : Nat} (hp : place D x = some i) :
    Calls Try.prog 21 #[.pointer (some ⟨r, 0, none⟩), encStr x, pv] w (RAdded w R r D []) := by
  have hfd := find_walk w h x
  have e1 : placeI D x = i := by unfold placeI; rw [hp]
  rw [e1] at hfd
  have hfin : RAdded w R r D [] (.returned (.slice none 0 0)) w := ⟨_, v, R, rfl, h, fun i hi => .inl hi, Frame.refl _ _, none, 0, rfl, fun h => absurd h (by simp), by simp, by simp⟩
  have HFI := Lib.hid hfin
  have HF := Lib.hid hfd
  clear h hfd hfin e1 hp
  simp only [encStr_eq] at HF ⊢
  go_enter Try.func21, Try.ntmps21
  go_wp2_with fail
  refine HF.out.mono ?_
  rintro e w' ⟨rfl, rfl⟩
  have hi : (i : Int) ≥ 0 := by omega
  go_wp2
  go_ret
  exact HFI.out

/-- The reference's list holds the graph. -/
structure Rel (G : Graph) (D : List RN) : Prop where
  up : D.Pairwise fun a b => a.id < b.id
  inn : ∀ n ∈ D, n.inn = true → ∃ l, get G.inn n.id = some (n.ps, l)
  wai : ∀ n ∈ D, n.inn = false → get G.wai n.id = some n.ps
  all : ∀ x, G.known x → ∃ n ∈ D, n.id = x

theorem up_eq {D : List RN} (h : D.Pairwise fun a b => a.id < b.id) {a b : RN} (ha : a ∈ D) (hb : b ∈ D) (e : a.id = b.id) : a = b := by
  obtain ⟨i, hi, rfl⟩ := List.getElem_of_mem ha
  obtain ⟨j, hj, rfl⟩ := List.getElem_of_mem hb
  rcases Nat.lt_trichotomy i j with hlt | rfl | hlt
  · exact absurd e (fun e => by have := List.pairwise_iff_getElem.1 h i j hi hj hlt; rw [e] at this; exact M.lt_irrefl _ this)
  · rfl
  · exact absurd e (fun e => by have := List.pairwise_iff_getElem.1 h j i hj hi hlt; rw [e] at this; exact M.lt_irrefl _ this)
theorem place_of_mem {D : List RN} {n : RN} (hn : n ∈ D) : ∃ i, place D n.id = some i := by
  cases hp : place D n.id with
  | some i => exact ⟨i, rfl⟩
  | none =>
    unfold place at hp
    rw [List.findIdx?_eq_none_iff] at hp
    have := hp n hn
    simp at this
theorem place_node {D : List RN} (h : D.Pairwise fun a b => a.id < b.id) {n : RN} (hn : n ∈ D) : ∃ i, place D n.id = some i ∧ i < D.length ∧ D.getD i default = n := by
  obtain ⟨i, hi⟩ := place_of_mem hn
  obtain ⟨h1, h2⟩ := place_at hi
  exact ⟨i, hi, h1, up_eq h (rmem h1) hn h2⟩

section
variable {G : Graph} {D : List RN}
theorem Rel.known (h : Rel G D) (x : Bs) : G.known x ↔ ∃ i, place D x = some i := by
  constructor
  · intro hk
    obtain ⟨n, hn, rfl⟩ := h.all x hk
    exact place_of_mem hn
  · rintro ⟨i, hi⟩
    obtain ⟨h1, h2⟩ := place_at hi
    cases hin : (D.getD i default).inn with
    | true =>
      obtain ⟨l, hl⟩ := h.inn _ (rmem h1) hin
      rw [h2] at hl
      exact .inr (M.isSome_get.1 (by rw [hl]; rfl))
    | false =>
      have hl := h.wai _ (rmem h1) hin
      rw [h2] at hl
      exact .inl (M.isSome_get.1 (by rw [hl]; rfl))
theorem Rel.has (h : Rel G D) (hG : G.Ok) (x : Bs) : rhas D x = G.has x := by
  unfold rhas
  cases hp : place D x with
  | none =>
    cases hh : G.has x with
    | false => rfl
    | true =>
      obtain ⟨i, hi⟩ := (h.known x).1 (.inr (M.isSome_get.1 hh))
      rw [hp] at hi; cases hi
  | some i =>
    obtain ⟨h1, h2⟩ := place_at hp
    simp only
    cases hin : (D.getD i default).inn with
    | true =>
      obtain ⟨l, hl⟩ := h.inn _ (rmem h1) hin
      rw [h2] at hl
      unfold Graph.has; rw [hl]; rfl
    | false =>
      have hl := h.wai _ (rmem h1) hin
      rw [h2] at hl
      cases hh : G.has x with
      | false => rfl
      | true => exact absurd (M.isSome_get.1 (by rw [hl]; rfl)) (hG.apart x (M.isSome_get.1 hh))
theorem Rel.ready (h : Rel G D) (hG : G.Ok) (ps : List Bs) : rready D ps = G.ready ps := by
  unfold rready Graph.ready
  congr 1; funext x; exact h.has hG x
theorem Rel.empty : Rel Graph.empty [] := ⟨List.Pairwise.nil, by simp, by simp, by simp [M.Graph.known, Graph.empty, keys]⟩
/-- A new one that waits, or comes in. -/
theorem Rel.insert (h : Rel G D) (hG : G.Ok) {x : Bs} {ps : List Bs} {pv : Value} (hn : place D x = none) :
    Rel (if G.ready ps = true then G.enter x ps else ⟨G.inn, M.ins x ps G.wai⟩) (rins ⟨x, pv, ps, G.ready ps⟩ D) := by
  have hne : ∀ n ∈ D, n.id ≠ x := fun n hm e => by
    obtain ⟨i, hi⟩ := place_of_mem hm
    rw [e, hn] at hi; cases hi
  have hw : ∀ (y : Bs), y ≠ x → get (M.rem x G.wai) y = get G.wai y := fun y hy => by rw [M.get_rem hG.rw, if_neg hy]
  cases hr : G.ready ps with
  | true =>
    rw [if_pos rfl]
    refine ⟨rins_up h.up hne, fun n hm hin => ?_, fun n hm hin => ?_, fun y hy => ?_⟩
    · show ∃ l, get (M.ins x (ps, G.levOf ps) G.inn) n.id = some (n.ps, l)
      rw [M.get_ins]
      rcases mem_rins.1 hm with rfl | hm
      · exact ⟨_, by rw [if_pos rfl]⟩
      · rw [if_neg (hne n hm)]; exact h.inn n hm hin
    · show get (M.rem x G.wai) n.id = some n.ps
      rcases mem_rins.1 hm with rfl | hm
      · cases hin
      · rw [hw _ (hne n hm)]; exact h.wai n hm hin
    · rcases (known_enter hG).1 hy with rfl | hy
      · exact ⟨_, mem_rins.2 (.inl rfl), rfl⟩
      · obtain ⟨n, hn', e⟩ := h.all y hy
        exact ⟨n, mem_rins.2 (.inr hn'), e⟩
  | false =>
    rw [if_neg (by simp)]
    refine ⟨rins_up h.up hne, fun n hm hin => ?_, fun n hm hin => ?_, fun y hy => ?_⟩
    · rcases mem_rins.1 hm with rfl | hm
      · cases hin
      · exact h.inn n hm hin
    · show get (M.ins x ps G.wai) n.id = some n.ps
      rw [M.get_ins]
      rcases mem_rins.1 hm with rfl | hm
      · rw [if_pos rfl]
      · rw [if_neg (hne n hm)]; exact h.wai n hm hin
    · rcases hy with hy | hy
      · rcases M.mem_keys_ins.1 hy with rfl | hy
        · exact ⟨_, mem_rins.2 (.inl rfl), rfl⟩
        · obtain ⟨n, hn', e⟩ := h.all y (.inl hy)
          exact ⟨n, mem_rins.2 (.inr hn'), e⟩
      · obtain ⟨n, hn', e⟩ := h.all y (.inr hy)
        exact ⟨n, mem_rins.2 (.inr hn'), e⟩
end
end Go.Proofs.Ytccpblefebjadaa
