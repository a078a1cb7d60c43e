/- Above: the search. -/
import Derived.Test.YtccpblefebjadaaA13
import Derived.Test.YtccpblefebjadaaM2
namespace Go.Proofs.Ytccpblefebjadaa
open Go.RowKit Go.Maps Go.WideMaps Go.Sort Go.Shelf
open Go.Proofs (encStr)
open M (Rising keys get Graph Stands Searched)

def seenS (fs : Bs → Option Value) (y : Bs) : Prop := (fs y).isSome = true
def unseen (G : Graph) (fs : Bs → Option Value) : Nat := (G.ids.filter fun y => (fs y).isNone).length

/-- The search under way. -/
structure Look (W : World) (F : Nat → Prop) (g : Nat) (G : Graph) (bi bw bl : Nat) (fi fw fl : Bs → Option Value) (a : Bs) (ba bs bd bf bm : Nat) (fs : Bs → Option Value) (m : Nat) : Prop where
  dag : DagIn W F g G bi bw bl fi fw fl
  ca : W.cell? ⟨ba, 0, none⟩ = some (encStr a)
  cs : W.cell? ⟨bs, 0, none⟩ = some (.map (some bm))
  cd : W.cell? ⟨bd, 0, none⟩ = some (.pointer (some ⟨g, 0, none⟩))
  cf : W.cell? ⟨bf, 0, none⟩ = some (.func (.func 33) #[] #[.pointer (some ⟨ba, 0, none⟩), .pointer (some ⟨bs, 0, none⟩), .pointer (some ⟨bd, 0, none⟩), .pointer (some ⟨bf, 0, none⟩)])
  ms : MapAt W Try.prog 30 okB bm m fs
  tr : ∀ y v, fs y = some v → v = .bool true
  nm : ¬ F bm
  bnd : m + unseen G fs ≤ 600

theorem addr_add (b off k : Nat) : (⟨b, off, none⟩ : Addr).add k = ⟨b, off + k, none⟩ := by unfold Addr.add; split <;> simp_all
theorem cell_ne_map {W : World} {b : Nat} {v : Value} (h : W.cell? ⟨b, 0, none⟩ = some v) {P : Program} {k : TypeId} {ok : Value → Bool} {bm n : Nat} {f : Bs → Option Value} (hm : MapAt W P k ok bm n f) : b ≠ bm := by
  rintro rfl
  obtain ⟨es, c, e⟩ := hm.isMap
  unfold World.cell? at h
  rw [e] at h
  cases h

section
variable {W W' : World} {F : Nat → Prop} {g : Nat} {G : Graph} {bi bw bl : Nat} {fi fw fl : Bs → Option Value} {a : Bs} {ba bs bd bf bm : Nat} {fs fs' : Bs → Option Value} {m m' : Nat}

/-- It goes on where nothing but the set has turned. -/
theorem Look.next (h : Look W F g G bi bw bl fi fw fl a ba bs bd bf bm fs m) (hf : Frame (· = bm) W W') (hm : MapAt W' Try.prog 30 okB bm m' fs') (ht : ∀ y v, fs' y = some v → v = .bool true) (hb : m' + unseen G fs' ≤ 600) :
    Look W' F g G bi bw bl fi fw fl a ba bs bd bf bm fs' m' where
  dag := h.dag.same hf.size (fun i hi hF => hf.block i hi (fun e => h.nm (e ▸ hF)))
  ca := hf.cell h.ca (cell_ne_map h.ca h.ms)
  cs := hf.cell h.cs (cell_ne_map h.cs h.ms)
  cd := hf.cell h.cd (cell_ne_map h.cd h.ms)
  cf := hf.cell h.cf (cell_ne_map h.cf h.ms)
  ms := hm
  tr := ht
  nm := h.nm
  bnd := hb

theorem unseen_put {x : Bs} {v : Value} (hx : x ∈ G.ids) (hn : (fs x).isSome = false) (hG : G.Ok) : unseen G (upd fs x (some v)) + 1 = unseen G fs := by
  unfold unseen
  have hnd : G.ids.Nodup := M.nodup_keys hG.ri
  revert hx hnd
  generalize G.ids = l
  intro hx hnd
  induction l with
  | nil => simp at hx
  | cons y r ih =>
    obtain ⟨h1, h2⟩ := List.nodup_cons.1 hnd
    by_cases e : y = x
    · subst e
      have e1 : r.filter (fun z => (upd fs y (some v) z).isNone) = r.filter (fun z => (fs z).isNone) := List.filter_congr fun z hz => by
        have : z ≠ y := fun e => h1 (e ▸ hz)
        unfold upd; rw [if_neg this]
      have e2 : (upd fs y (some v) y).isNone = false := by unfold upd; simp
      have e3 : (fs y).isNone = true := by cases hf : fs y with | none => rfl | some u => rw [hf] at hn; cases hn
      rw [List.filter_cons, List.filter_cons, e1, e2, e3]
      simp
    · have hx' := (List.mem_cons.1 hx).resolve_left (fun e' => e e'.symm)
      have e2 : (upd fs x (some v) y).isNone = (fs y).isNone := by unfold upd; rw [if_neg e]
      have := ih hx' h2
      rw [List.filter_cons, List.filter_cons, e2]
      cases (fs y).isNone <;> simp <;> omega
theorem unseen_mono (h : ∀ y, seenS fs y → seenS fs' y) : unseen G fs' ≤ unseen G fs := by
  unfold unseen
  induction G.ids with
  | nil => simp
  | cons y r ih =>
    rw [List.filter_cons, List.filter_cons]
    cases h1 : fs y with
    | some u =>
      have : (fs' y).isNone = false := by have := h y (by unfold seenS; rw [h1]; rfl); unfold seenS at this; cases hf : fs' y with | none => rw [hf] at this; cases this | some _ => rfl
      rw [this]; simpa using ih
    | none => cases (fs' y).isNone <;> simp <;> omega
theorem unseen_le (hG : DagIn W F g G bi bw bl fi fw fl) : unseen G fs ≤ 500 := by
  have h1 : unseen G fs ≤ G.ids.length := List.length_filter_le _ _
  have h2 : G.ids.length = G.inn.length := by simp [Graph.ids, keys]
  have := hG.cnt
  omega
end

/-- What the closure hands back. -/
def StandsPost (F : Nat → Prop) (g : Nat) (G : Graph) (bi bw bl : Nat) (fi fw fl : Bs → Option Value) (a : Bs) (ba bs bd bf bm : Nat) (fs : Bs → Option Value) (x : Bs) (W : World) (e : Ending) (W' : World) : Prop :=
  ∃ (r : Bool) (fs' : Bs → Option Value) (m' : Nat), e = .returned (.bool r) ∧ Look W' F g G bi bw bl fi fw fl a ba bs bd bf bm fs' m' ∧ Frame (· = bm) W W' ∧ (r = true → Stands G a x) ∧ (r = false → Searched G a (seenS fs) (seenS fs') ∧ seenS fs' x)

set_option maxRecDepth 100000 in
set_option maxHeartbeats 2000000 in
theorem stands_self {W : World} {F : Nat → Prop} {g : Nat} {G : Graph} {bi bw bl : Nat} {fi fw fl : Bs → Option Value} {a : Bs} {ba bs bd bf bm : Nat} {fs : Bs → Option Value} {m : Nat} (h : Look W F g G bi bw bl fi fw fl a ba bs bd bf bm fs m) :
    Calls Try.prog 33 #[encStr a, .pointer (some ⟨ba, 0, none⟩), .pointer (some ⟨bs, 0, none⟩), .pointer (some ⟨bd, 0, none⟩), .pointer (some ⟨bf, 0, none⟩)] W (StandsPost F g G bi bw bl fi fw fl a ba bs bd bf bm fs a W) := by
  have ca := h.ca
  have H := Lib.hid h
  clear h
  simp only [encStr_eq] at ca ⊢
  go_enter Try.func33, Try.ntmps33
  go_wp2
  go_ret
  exact ⟨true, fs, m, rfl, H.out, Frame.refl _ _, (fun _ => .self), (fun h => (by cases h))⟩

set_option maxRecDepth 100000 in
set_option maxHeartbeats 2000000 in
theorem stands_seen {W : World} {F : Nat → Prop} {g : Nat} {G : Graph} {bi bw bl : Nat} {fi fw fl : Bs → Option Value} {a : Bs} {ba bs bd bf bm : Nat} {fs : Bs → Option Value} {m : Nat} (h : Look W F g G bi bw bl fi fw fl a ba bs bd bf bm fs m)
    (x : Bs) (hxl : x.length ≤ 1000) (hne : x ≠ a) (hs : seenS fs x) :
    Calls Try.prog 33 #[encStr x, .pointer (some ⟨ba, 0, none⟩), .pointer (some ⟨bs, 0, none⟩), .pointer (some ⟨bd, 0, none⟩), .pointer (some ⟨bf, 0, none⟩)] W (StandsPost F g G bi bw bl fi fw fl a ba bs bd bf bm fs x W) := by
  have ca := h.ca
  have cs := h.cs
  have hl := h.ms.look Try.underlying30 Try.underlying54 (zeroB W) rfl ⟨x.toArray⟩ (size_ok hxl)
  simp only at hl
  have hv : (fs x).getD (.bool false) = .bool true := by
    unfold seenS at hs
    cases hf : fs x with
    | none => rw [hf] at hs; cases hs
    | some v => rw [h.tr x v hf]; rfl
  rw [hv] at hl
  have H := Lib.hid (And.intro h hs)
  clear h hv hs
  have hxa : (x == a) = false := by simp [hne]
  simp only [encStr_eq] at ca ⊢
  go_enter Try.func33, Try.ntmps33
  go_wp2
  go_ret
  exact ⟨false, fs, m, rfl, H.out.1, Frame.refl _ _, (fun h => (by cases h)), fun _ => ⟨Searched.refl _ _ _, H.out.2⟩⟩

set_option maxRecDepth 100000 in
set_option maxHeartbeats 2000000 in
theorem stands_new {W : World} {F : Nat → Prop} {g : Nat} {G : Graph} {bi bw bl : Nat} {fi fw fl : Bs → Option Value} {a : Bs} {ba bs bd bf bm : Nat} {fs : Bs → Option Value} {m : Nat} (h : Look W F g G bi bw bl fi fw fl a ba bs bd bf bm fs m)
    (x : Bs) (hxl : x.length ≤ 1000) (hxi : x ∈ G.ids) (hne : x ≠ a) (hs : (fs x).isSome = false)
    (ih : ∀ (y : Bs) (W1 : World) (fs1 : Bs → Option Value) (m1 : Nat), y ∈ G.ids → Look W1 F g G bi bw bl fi fw fl a ba bs bd bf bm fs1 m1 → unseen G fs1 < unseen G fs →
      Calls Try.prog 33 #[encStr y, .pointer (some ⟨ba, 0, none⟩), .pointer (some ⟨bs, 0, none⟩), .pointer (some ⟨bd, 0, none⟩), .pointer (some ⟨bf, 0, none⟩)] W1 (StandsPost F g G bi bw bl fi fw fl a ba bs bd bf bm fs1 y W1)) :
    Calls Try.prog 33 #[encStr x, .pointer (some ⟨ba, 0, none⟩), .pointer (some ⟨bs, 0, none⟩), .pointer (some ⟨bd, 0, none⟩), .pointer (some ⟨bf, 0, none⟩)] W (StandsPost F g G bi bw bl fi fw fl a ba bs bd bf bm fs x W) := by
  have ca := h.ca
  have cs := h.cs
  have hl := h.ms.look Try.underlying30 Try.underlying54 (zeroB W) rfl ⟨x.toArray⟩ (size_ok hxl)
  simp only at hl
  have hv : fs x = none := by cases hf : fs x with | none => rfl | some v => rw [hf] at hs; cases hs
  rw [hv] at hl
  simp only [Option.getD_none] at hl
  have hb := h.bnd
  have hup := unseen_put (v := .bool true) hxi hs h.dag.ok
  obtain ⟨W1, hstore, hm1, ht1⟩ := h.ms.store Try.underlying30 Try.underlying54 (by unfold maxLen; omega) ⟨x.toArray⟩ (size_ok hxl) (v := .bool true) rfl
  simp only at hm1
  have hf1 := Frame.of_turned ht1
  have hl1 : Look W1 F g G bi bw bl fi fw fl a ba bs bd bf bm (upd fs x (some (.bool true))) (m + 1) := h.next hf1 hm1 (fun y v hy => by unfold upd at hy; split at hy; (· cases hy; rfl); exact h.tr y v hy) (by omega)
  have cs1 := hl1.cs
  have cd1 := hl1.cd
  have cf1 := hl1.cf
  have c01 := hl1.dag.c0
  -- the parents' slice
  have hpl := (show MapAt W1.drew Try.prog 30 okS bi G.inn.length fi from hl1.dag.mi).look Try.underlying30 Try.underlying49 (zeroS W1.drew) rfl ⟨x.toArray⟩ (size_ok hxl)
  simp only at hpl
  obtain ⟨A, c, hpv, hA, hpx, hpn⟩ : ∃ A c, (fi x).getD (.slice none 0 0) = .slice A (G.parents x).length c ∧ (0 < (G.parents x).length → ∃ b off, A = some ⟨b, off, none⟩ ∧ F b ∧ b < W1.heap.size ∧ ∀ j, j < (G.parents x).length → W1.cell? ⟨b, off + j, none⟩ = some (encStr ((G.parents x).getD j []))) ∧ (∀ y ∈ G.parents x, y.length ≤ 1000) ∧ (G.parents x).length ≤ 1000 := by
    unfold Graph.parents
    cases hp : get G.inn x with
    | none => rw [(hl1.dag.ni x hp).1]; exact ⟨none, 0, rfl, fun h => absurd h (by simp), by simp, by simp⟩
    | some p => obtain ⟨v, hv, ⟨A, c, rfl, hs⟩, _⟩ := hl1.dag.vi x p hp; rw [hv]; exact ⟨A, c, rfl, hs⟩
  rw [hpv] at hpl
  have hpi : ∀ p ∈ G.parents x, p ∈ G.ids := fun p hp => M.Graph.parents_in h.dag.ok hp
  have hstep : ∀ p ∈ G.parents x, Stands G a p → Stands G a x := fun p hp hs => .step hp hs
  have hput : ∀ U : Bs → Prop, Searched G a (seenS (upd fs x (some (.bool true)))) U → (∀ p ∈ G.parents x, U p) → Searched G a (seenS fs) U := fun U hU hp =>
    Searched.put (x := x) (fun y => by unfold seenS; exact lack_upd) hne hU hp
  have hsx : seenS (upd fs x (some (.bool true))) x := by unfold seenS upd; simp
  have hlt : unseen G (upd fs x (some (.bool true))) < unseen G fs := by omega
  have hmb : ∀ b, F b → b ≠ bm := fun b hb e => hl1.nm (e ▸ hb)
  generalize G.parents x = ps at hpl hA hpx hpn hpi hstep hput
  generalize upd fs x (some (.bool true)) = fs1 at hl1 hput hsx hlt
  -- the call of ContainsFunc
  have hcall := containsFunc_any A c ps hpn (some ⟨ba, 0, none⟩) (some ⟨bs, 0, none⟩) (some ⟨bd, 0, none⟩) (some ⟨bf, 0, none⟩)
    (fun k Wk => ∃ fk mk, Look Wk F g G bi bw bl fi fw fl a ba bs bd bf bm fk mk ∧ Frame (· = bm) W1 Wk ∧ Searched G a (seenS fs1) (seenS fk) ∧ ∀ j, j < k → seenS fk (ps.getD j []))
    (fun Wk => Stands G a x ∧ ∃ fk mk, Look Wk F g G bi bw bl fi fw fl a ba bs bd bf bm fk mk ∧ Frame (· = bm) W1 Wk)
    W1.drew ⟨fs1, m + 1, hl1.next (Frame.drew _ _) hl1.ms hl1.tr hl1.bnd, Frame.drew _ _, Searched.refl _ _ _, fun j hj => absurd hj (by omega)⟩
    (fun k Wk hk ⟨fk, mk, hL, hF, _, _⟩ => by
      obtain ⟨b, off, rfl, hFb, hlt, hc⟩ := hA (by omega)
      exact ⟨⟨b, off, none⟩, rfl, by rw [addr_add]; exact hF.cell (hc k hk) (hmb b hFb)⟩)
    (fun k Wk hk ⟨fk, mk, hL, hF, hS, hP⟩ => by
      have hmem : ps.getD k [] ∈ ps := by simp [List.getD_eq_getElem?_getD, hk]
      refine (ih (ps.getD k []) Wk fk mk (hpi _ hmem) hL (Nat.lt_of_le_of_lt (unseen_mono hS.mono) hlt)).mono ?_
      rintro e W' ⟨r, fs', m', rfl, hL', hF', ht, hf⟩
      cases r with
      | true => exact .inr ⟨rfl, hstep _ hmem (ht rfl), fs', m', hL', hF.trans hF'⟩
      | false =>
        obtain ⟨h1, h2⟩ := hf rfl
        refine .inl ⟨rfl, fs', m', hL', hF.trans hF', hS.trans h1, fun j hj => ?_⟩
        by_cases e : j = k
        · subst e; exact h2
        · exact h1.mono _ (hP j (by omega)))
  have hfin : ∀ (e : Ending) (w' : World), ((e = .returned (.bool true) ∧ Stands G a x ∧ ∃ fk mk, Look w' F g G bi bw bl fi fw fl a ba bs bd bf bm fk mk ∧ Frame (· = bm) W1 w') ∨
      (e = .returned (.bool false) ∧ ∃ fk mk, Look w' F g G bi bw bl fi fw fl a ba bs bd bf bm fk mk ∧ Frame (· = bm) W1 w' ∧ Searched G a (seenS fs1) (seenS fk) ∧ ∀ j, j < ps.length → seenS fk (ps.getD j []))) →
      ∃ r, e = .returned (.bool r) ∧ StandsPost F g G bi bw bl fi fw fl a ba bs bd bf bm fs x W (.returned (.bool r)) w' := by
    rintro e w' (⟨rfl, hs, fk, mk, hL, hF⟩ | ⟨rfl, fk, mk, hL, hF, hS, hP⟩)
    · exact ⟨true, rfl, true, fk, mk, rfl, hL, hf1.trans hF, (fun _ => hs), (fun h => (by cases h))⟩
    · refine ⟨false, rfl, false, fk, mk, rfl, hL, hf1.trans hF, (fun h => (by cases h)), fun _ => ⟨hput _ hS ?_, hS.mono _ hsx⟩⟩
      intro p hp
      obtain ⟨j, hj, rfl⟩ := List.getElem_of_mem hp
      have := hP j hj
      rwa [List.getD_eq_getElem?_getD, List.getElem?_eq_getElem hj, Option.getD_some] at this
  have HC := Lib.hid (hcall.mono hfin)
  clear hcall h hl1 hA hpx hpi hstep hput hsx hf1 hm1 ht1 ih hmb hv hs hxi hpv hb hup hlt hpn hfin
  have hxa : (x == a) = false := by simp [hne]
  simp only [encStr_eq] at ca ⊢
  go_enter Try.func33, Try.ntmps33
  go_wp2
  go_region_with (go_at_call 34; refine HC.out.mono ?_; rintro e w' ⟨r, rfl, hfin⟩)
  all_goals go_wp2
  all_goals go_ret
  all_goals exact hfin
end Go.Proofs.Ytccpblefebjadaa
