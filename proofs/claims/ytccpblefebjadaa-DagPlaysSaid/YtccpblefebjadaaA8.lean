/- Add: what its steps do to the graph in memory. -/
import Derived.Test.YtccpblefebjadaaA7
import Derived.Deep.LoopGhost
namespace Go.Proofs.Ytccpblefebjadaa
open Go.RowKit Go.Maps Go.WideMaps Go.Sort Go.Shelf
open Go.Proofs (encStr)
open M (Rising keys get Graph)

/-- The bound on the entries, as sharp as can be. -/
theorem MapAt.tight {P : Program} {k : TypeId} {ok : Value → Bool} {w : World} {b n : Nat} {f : Bs → Option Value} {α : Type} {l : M.AL α} (h : MapAt w P k ok b n f) (hk : P.underlying k = some .string)
    (hR : Rising l) (hm : ∀ x, (f x).isSome = true ↔ x ∈ M.keys l) : MapAt w P k ok b l.length f := by
  obtain ⟨D, hown, hf, hnd, hmem, hsz, _⟩ := h.keys hk
  have hs : Maps.size D = l.length := by
    rw [← hsz]
    have := ((List.perm_ext_iff_of_nodup hnd (M.nodup_keys hR)).2 (fun x => (hmem x).trans (hm x))).length_eq
    simpa [M.keys] using this
  obtain ⟨es, clock, hb, Ft, _, hD⟩ := hown
  refine ⟨D, ⟨es, clock, hb, Ft, ?_, hD⟩, hf⟩
  rw [← hs, hD]
  simp [Maps.size, length_sorted]

section
variable {w w' : World} {F : Nat → Prop} {g : Nat} {G : Graph} {bi bw bl : Nat} {fi fw fl : Bs → Option Value}

theorem DagIn.ne_g (h : DagIn w F g G bi bw bl fi fw fl) : g ≠ bi ∧ g ≠ bl ∧ g ≠ bw := by
  have hc := h.cells
  refine ⟨?_, ?_, ?_⟩ <;> rintro rfl
  · obtain ⟨es, c, e⟩ := h.mi.isMap; rw [e] at hc; cases hc
  · obtain ⟨es, c, e⟩ := h.ml.isMap; rw [e] at hc; cases hc
  · obtain ⟨es, c, e⟩ := h.mw.isMap; rw [e] at hc; cases hc
/-- A row of the graph is none of its maps. -/
theorem Strs.not_map {S : Nat → Prop} {v : Value} {l : List Bs} (h : Strs w S v l) {b : Nat} {es : Array MapEntry} {c : Nat} (hb : w.heap[b]? = some (.map es c)) : Strs w (fun i => S i ∧ i ≠ b) v l := by
  obtain ⟨A, cp, rfl, h1, h2⟩ := h
  refine ⟨A, cp, rfl, fun hl => ?_, h2⟩
  obtain ⟨r, off, e, hs, hlt, hc⟩ := h1 hl
  refine ⟨r, off, e, ⟨hs, ?_⟩, hlt, hc⟩
  rintro rfl
  have := hc 0 hl
  unfold World.cell? at this
  rw [hb] at this
  cases this
theorem DagIn.rows (h : DagIn w F g G bi bw bl fi fw fl) {S : Nat → Prop} {v : Value} {l : List Bs} (hv : Strs w S v l) (hf : Frame (fun i => i = bi ∨ i = bl ∨ i = bw) w w') : Strs w' S v l := by
  obtain ⟨e1, c1, m1⟩ := h.mi.isMap
  obtain ⟨e2, c2, m2⟩ := h.ml.isMap
  obtain ⟨e3, c3, m3⟩ := h.mw.isMap
  exact ((((hv.not_map m1).not_map m2).not_map m3).frame hf (by rintro i _ ⟨⟨⟨_, h1⟩, h2⟩, h3⟩ (e | e | e) <;> contradiction)).mono (fun i hi => hi.1.1.1)

/-- The blocks of the graph may be told more widely. -/
theorem DagIn.widen {F' : Nat → Prop} (h : DagIn w F g G bi bw bl fi fw fl) (hF : ∀ i, F i → F' i) (hlt : ∀ i, F' i → i < w.heap.size) : DagIn w F' g G bi bw bl fi fw fl where
  cells := h.cells
  pg := hF _ h.pg
  pi := hF _ h.pi
  pw := hF _ h.pw
  pl := hF _ h.pl
  lt := hlt
  il := h.il
  iw := h.iw
  lw := h.lw
  mi := h.mi
  mw := h.mw
  ml := h.ml
  vi x p hx := by obtain ⟨v, e, hv, hl⟩ := h.vi x p hx; exact ⟨v, e, hv.mono hF, hl⟩
  ni := h.ni
  vw x l hx := by obtain ⟨v, e, hv⟩ := h.vw x l hx; exact ⟨v, e, hv.mono hF⟩
  nw := h.nw
  ok := h.ok
  cnt := h.cnt

/-- 'enter' makes of G in memory 'G.enter'. -/
theorem DagIn.enter {x : Bs} {v : Value} {ps : List Bs} (h : DagIn w F g G bi bw bl fi fw fl) (hx : x.length ≤ 1000) (hn : x ∉ keys G.inn) (hr : G.ready ps = true) (hv : Strs w F v ps) (hE : Entered bi bl bw G.inn.length G.inn.length G.wai.length fi fl fw x v (G.levOf ps) w w')
    (hcnt : (G.enter x ps).inn.length + (G.enter x ps).wai.length ≤ 500) : DagIn w' F g (G.enter x ps) bi bw bl (upd fi x (some v)) (upd fw x none) (upd fl x (some (.int .i64 (G.levOf ps)))) := by
  obtain ⟨n1, n2, n3⟩ := h.ne_g
  have hG : (G.enter x ps).Ok := h.ok.enter hx hn hr
  have ei : (G.enter x ps).inn = M.ins x (ps, G.levOf ps) G.inn := rfl
  have ew : (G.enter x ps).wai = M.rem x G.wai := rfl
  have hlen : (G.enter x ps).inn.length = G.inn.length + 1 := M.length_ins_new hn
  have hvw : ∀ y l, get (G.enter x ps).wai y = some l → ∃ v, upd fw x none y = some v ∧ Strs w' F v l := fun y l hy => by
    rw [ew, M.get_rem h.ok.rw] at hy
    split at hy
    · cases hy
    · rename_i hne
      obtain ⟨u, e, hu⟩ := h.vw y l hy
      exact ⟨u, by unfold upd; rw [if_neg hne, e], h.rows hu hE.fr⟩
  have hnw : ∀ y, get (G.enter x ps).wai y = none → upd fw x none y = none := fun y hy => by
    rw [ew, M.get_rem h.ok.rw] at hy
    unfold upd
    split
    · rfl
    · rename_i hne
      rw [if_neg hne] at hy
      exact h.nw y hy
  exact {
    cells := (hE.fr.block g (h.lt g h.pg) (by rintro (e | e | e) <;> contradiction)).trans h.cells
    pg := h.pg
    pi := h.pi
    pw := h.pw
    pl := h.pl
    lt := fun i hi => Nat.lt_of_lt_of_le (h.lt i hi) hE.fr.size
    il := h.il
    iw := h.iw
    lw := h.lw
    mi := by rw [hlen]; exact hE.mi
    mw := hE.mw.tight Try.underlying30 hG.rw (fun y => by
      rw [← M.isSome_get]
      cases hy : get (G.enter x ps).wai y with
      | none => rw [hnw y hy]; simp
      | some l => obtain ⟨u, e, _⟩ := hvw y l hy; rw [e]; simp)
    ml := by rw [hlen]; exact hE.ml
    vi := fun y p hy => by
      rw [ei, M.get_ins] at hy
      unfold upd
      split at hy
      · rename_i e; subst e; cases hy
        exact ⟨v, by simp, h.rows hv hE.fr, by simp⟩
      · rename_i hne
        obtain ⟨u, e, hu, hl⟩ := h.vi y p hy
        exact ⟨u, by rw [if_neg hne, e], h.rows hu hE.fr, by rw [if_neg hne, hl]⟩
    ni := fun y hy => by
      rw [ei, M.get_ins] at hy
      unfold upd
      split at hy
      · cases hy
      · rename_i hne
        rw [if_neg hne, if_neg hne]
        exact h.ni y hy
    vw := hvw
    nw := hnw
    ok := hG
    cnt := hcnt }

/-- A new one that waits. -/
theorem DagIn.wait {x : Bs} {v : Value} {ps : List Bs} (h : DagIn w F g G bi bw bl fi fw fl) (hx : x.length ≤ 1000) (hn : x ∉ keys G.inn) (hnw : x ∉ keys G.wai) (hv : Strs w F v ps) (hcnt : G.inn.length + G.wai.length < 500)
    (hm : MapAt w' Try.prog 30 okS bw (G.wai.length + 1) (upd fw x (some v))) (ht : w.mapTurned w' bw) : DagIn w' F g ⟨G.inn, M.ins x ps G.wai⟩ bi bw bl fi (upd fw x (some v)) fl := by
  have hf := Frame.of_turned ht
  obtain ⟨n1, n2, n3⟩ := h.ne_g
  have hf3 : Frame (fun i => i = bi ∨ i = bl ∨ i = bw) w w' := hf.mono (fun i _ e => .inr (.inr e))
  have hlen : (M.ins x ps G.wai).length = G.wai.length + 1 := M.length_ins_new hnw
  exact {
    cells := (hf.block g (h.lt g h.pg) n3).trans h.cells
    pg := h.pg
    pi := h.pi
    pw := h.pw
    pl := h.pl
    lt := fun i hi => Nat.lt_of_lt_of_le (h.lt i hi) hf.size
    il := h.il
    iw := h.iw
    lw := h.lw
    mi := hf.map h.mi h.iw
    mw := by simp only [hlen]; exact hm
    ml := hf.map h.ml h.lw
    vi := fun y p hy => by obtain ⟨u, e, hu, hl⟩ := h.vi y p hy; exact ⟨u, e, h.rows hu hf3, hl⟩
    ni := h.ni
    vw := fun y l hy => by
      simp only [M.get_ins] at hy
      unfold upd
      split at hy
      · rename_i e; subst e; cases hy
        exact ⟨v, by simp, h.rows hv hf3⟩
      · rename_i hne
        obtain ⟨u, e, hu⟩ := h.vw y l hy
        exact ⟨u, by rw [if_neg hne, e], h.rows hu hf3⟩
    nw := fun y hy => by
      simp only [M.get_ins] at hy
      unfold upd
      split at hy
      · cases hy
      · rename_i hne
        rw [if_neg hne]
        exact h.nw y hy
    ok := h.ok.wait hx hn
    cnt := by simp only [hlen]; omega }

/-- The call of 'enter'. -/
theorem DagIn.enter_any {x : Bs} {v : Value} {ps : List Bs} {S : Nat → Prop} (h : DagIn w F g G bi bw bl fi fw fl) (hx : x.length ≤ 1000) (hv : Strs w S v ps) :
    Calls Try.prog 39 #[.pointer (some ⟨g, 0, none⟩), encStr x, v] w (EnterPost bi bl bw G.inn.length G.inn.length G.wai.length fi fl fw x v (G.levOf ps) w) := by
  have hc := h.cnt
  exact Ytccpblefebjadaa.enter_any g bi bl bw _ _ _ fi fl fw x hx S v ps G.lev w h.c0 h.c1 h.c2 (by omega) (by omega) h.il h.iw h.lw h.mi h.ml h.mw hv (fun p _ => h.lev p) (fun p => by have := h.ok.lev_le p; omega)
end
end Go.Proofs.Ytccpblefebjadaa
