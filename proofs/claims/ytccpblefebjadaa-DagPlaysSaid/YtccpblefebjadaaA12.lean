/- Heads. -/
import Derived.Test.YtccpblefebjadaaA11
namespace Go.Proofs.Ytccpblefebjadaa
open Go.RowKit Go.Maps Go.WideMaps Go.Sort Go.Shelf
open Go.Proofs (encStr)
open M (Rising keys get Graph)

/-- who is a parent of one that is in. -/
def M.Graph.stood (G : Graph) (x : Bs) : Bool := G.inn.any fun e => e.2.1.contains x
def M.Graph.heads (G : Graph) : List Bs := (keys G.inn).filter fun x => !G.stood x
theorem heads_rising {G : Graph} (h : G.Ok) : G.heads.Pairwise (· < ·) := (M.sorted_keys h.ri).filter _

/-- Behind some rounds: in 'out' are those that are in and are no parent of one that has come. -/
def HeadSt (G : Graph) (left : Bs → Bool) (pre : List Bs) (fo : Bs → Option Value) : Prop :=
  ∀ x, (fo x).isSome = true ↔ G.has x = true ∧ ¬ (x ∈ pre ∨ ∃ y p, get G.inn y = some p ∧ left y = false ∧ x ∈ p.1)

theorem upd_none {fo : Bs → Option Value} {x y : Bs} : ((upd fo x none) y).isSome = true ↔ y ≠ x ∧ (fo y).isSome = true := by
  unfold upd
  split
  · simp [*]
  · simp [*]
theorem HeadSt.put {G : Graph} {left : Bs → Bool} {pre : List Bs} {fo : Bs → Option Value} {p : Bs} (h : HeadSt G left pre fo) : HeadSt G left (pre ++ [p]) (upd fo p none) := fun x => by
  rw [upd_none, h x]
  constructor
  · rintro ⟨h0, h1, h2⟩
    refine ⟨h1, fun h3 => h2 ?_⟩
    rcases h3 with h3 | h3
    · rcases List.mem_append.1 h3 with h3 | h3
      · exact .inl h3
      · simp at h3; exact absurd h3 h0
    · exact .inr h3
  · rintro ⟨h1, h2⟩
    exact ⟨fun e => h2 (.inl (by simp [e])), h1, fun h3 => h2 (h3.imp (fun h => List.mem_append.2 (.inl h)) id)⟩
theorem HeadSt.round {G : Graph} {left : Bs → Bool} {p : List Bs × Nat} {fo : Bs → Option Value} {y : Bs} (h : HeadSt G left p.1 fo) (hy : get G.inn y = some p) : HeadSt G (fun z => left z && !(z == y)) [] fo := fun x => by
  rw [h x]
  refine and_congr Iff.rfl (not_congr ?_)
  constructor
  · rintro (h2 | ⟨z, l', h2, h3, h4⟩)
    · exact .inr ⟨y, p, hy, by simp, h2⟩
    · exact .inr ⟨z, l', h2, by simp [h3], h4⟩
  · rintro (h2 | ⟨z, l', h2, h3, h4⟩)
    · simp at h2
    · by_cases e : z = y
      · subst e; rw [hy] at h2; cases h2; exact .inl h4
      · exact .inr ⟨z, l', h2, by simpa [e] using h3, h4⟩
theorem HeadSt.done {G : Graph} (hG : G.Ok) {left : Bs → Bool} {fo : Bs → Option Value} (h : HeadSt G left [] fo) (h0 : ∀ x, left x = false) (x : Bs) : (fo x).isSome = true ↔ x ∈ G.heads := by
  rw [h x]
  unfold M.Graph.heads M.Graph.stood Graph.has
  rw [List.mem_filter, M.isSome_get]
  refine and_congr Iff.rfl ?_
  rw [Bool.not_eq_true', List.any_eq_false]
  constructor
  · intro h2 e he hc
    exact h2 (.inr ⟨e.1, e.2, (M.mem_get (k := e.1) (v := e.2) hG.ri).1 he, h0 _, by simpa using hc⟩)
  · rintro h2 (h3 | ⟨z, p, h3, _, h4⟩)
    · simp at h3
    · exact h2 (z, p) ((M.mem_get hG.ri).2 h3) (by simpa using h4)

/-- maps.Clone. -/
theorem mclone_any {w : World} {ok : Value → Bool} {b n : Nat} {f : Bs → Option Value} (h : MapAt w Try.prog 30 ok b n f) :
    Calls Try.prog 32 #[.map (some b)] w fun e w' => e = .returned (.map (some w.heap.size)) ∧ MapAt w' Try.prog 30 ok w.heap.size n f ∧ Below w.heap.size w w' ∧ w'.heap.size = w.heap.size + 1 := by
  obtain ⟨D, ⟨es, clock, hb, Ft, hs, hD⟩, hf⟩ := h
  refine (AnyW.maps_Clone Try.mclone32 b es clock w hb).mono ?_
  rintro e w' ⟨rfl, rfl⟩
  exact ⟨rfl, ⟨D, ⟨es, clock, (MapKept.heap_alloc w _).1, Ft, hs, hD⟩, hf⟩, (Below.refl _ w).alloc (Nat.le_refl _) _, by simp⟩

/-- The same as 'sorted49', of a set that is told by a rising list. -/
theorem sorted49' (b n : Nat) (ok : Value → Bool) (f : Bs → Option Value) (l : List Bs) (hR : l.Pairwise (· < ·)) (hk : ∀ x, (f x).isSome = true ↔ x ∈ l) (hl : ∀ x ∈ l, x.length ≤ 1000) (hn : l.length ≤ 1000) (w : World)
    (hm : MapAt w Try.prog 30 ok b n f) : Calls Try.prog 31 #[.map (some b)] w (NewStrs w l) := by
  have e : keys (l.map fun x => (x, ())) = l := by unfold keys; rw [List.map_map]; exact List.map_id l
  have := sorted49 b n ok f (l.map fun x => (x, ())) (List.pairwise_map.2 hR) (fun x => by rw [hk, e]) (by rw [e]; exact hl) (by simpa using hn) w hm
  rwa [e] at this

set_option maxRecDepth 100000 in
set_option maxHeartbeats 2000000 in
/-- Heads. -/
theorem heads_dag {w : World} {F : Nat → Prop} {g : Nat} {G : Graph} (h : DagAt w F g G) : Calls Try.prog 12 #[.pointer (some ⟨g, 0, none⟩)] w (NewStrs w G.heads) := by
  have hgl : g < w.heap.size := h.lt g (let ⟨_, _, _, _, _, _, h⟩ := h; h.pg)
  have hl6 : ∀ x p, get G.inn x = some p → ∀ y ∈ p.1, y.length ≤ 1000 := fun x p hx => by
    obtain ⟨_, _, _, _, _, _, h⟩ := h
    obtain ⟨v, _, ⟨A, c, _, _, h1, h2⟩, _⟩ := h.vi x p hx
    exact h1
  have hhx : ∀ x ∈ G.heads, x.length ≤ 1000 := fun x hx => h.ok.ki x (List.mem_filter.1 hx).1
  have hhn : G.heads.length ≤ 1000 := by
    have h1 := h.cnt
    have h2 : G.heads.length ≤ (keys G.inn).length := List.length_filter_le _ _
    have h3 : (keys G.inn).length = G.inn.length := by simp [keys]
    omega
  have hhr := heads_rising h.ok
  obtain ⟨bi, bw, bl, fi, fw, fl, h⟩ := h
  have hc0 := h.c0
  have hbi := h.mi.lt
  -- behind the clone, and the range's first step
  have key : ∀ w1 : World, MapAt w1 Try.prog 30 okS w.heap.size G.inn.length fi → Below w.heap.size w w1 → w1.heap.size = w.heap.size + 1 → ∃ (w0 : World) (c0 : Nat), (Instr.range 49 (.map (some bi))).run Try.prog w1 = .ok (.pointer (some ⟨w1.heap.size, 0, none⟩)) w0 ∧
      RangeAt w0 Try.prog 30 okS bi (w.heap.size + 1) G.inn.length fi (fun x => (fi x).isSome) c0 ∧ MapAt w0 Try.prog 30 okS w.heap.size G.inn.length fi ∧ Below w.heap.size w w0 := by
    intro w1 hm1 hb1 hs1
    have hw1 := h.same (w' := w1) hb1.size (fun i hi _ => hb1.block i hi)
    obtain ⟨w0, c0, hrange, hra, hgr, hsz, _⟩ := hw1.mi.range Try.underlying30 Try.underlying49
    rw [hs1] at hra
    exact ⟨w0, c0, hrange, hra, hm1.kept hgr (by simp), hb1.grown hgr hb1.size (fun j e => by cases e)⟩
  have hst0 : HeadSt G (fun x => (fi x).isSome) [] fi := fun x => by
    rw [h.isSome]
    constructor
    · intro hx
      refine ⟨hx, ?_⟩
      rintro (h1 | ⟨y, p, hy, hl, _⟩)
      · simp at h1
      · have := h.isSome y
        unfold Graph.has at this
        rw [hy] at this
        simp only [this] at hl
        cases hl
    · exact fun hx => hx.1
  have H := Lib.hid h
  have HK := Lib.hid key
  have HC := Lib.hid (mclone_any h.mi)
  have HL := Lib.hid (And.intro hl6 (And.intro hhx (And.intro hhn hhr)))
  have HST := Lib.hid hst0
  clear h key hl6 hst0 hhx hhn hhr
  go_enter Try.func12, Try.ntmps12
  go_wp2_with (go_at_call 32; refine HC.out.mono ?_; rintro e w1 ⟨rfl, hm1, hb1, hs1⟩; have hc0' : w1.cell? ⟨g, 0, none⟩ = some (.map (some bi)) := (hb1.cell (p := ⟨g, 0, none⟩) hgl).trans hc0; obtain ⟨w0, c0, hrange, hra, hm0, hb0⟩ := HK.out w1 hm1 hb1 hs1; have HS1 := Lib.hid hs1; have HR := Lib.hid hra; have HM := Lib.hid hm0; have HB := Lib.hid hb0; clear hm1 hb1 hs1 hra hm0 hb0)
  rw [HS1.out] at *
  go_loopg [5] c0 (fun c _ wr => ∃ (left : Bs → Bool) (fo : Bs → Option Value), RangeAt wr Try.prog 30 okS bi (w.heap.size + 1) G.inn.length fi left c ∧ MapAt wr Try.prog 30 okS w.heap.size G.inn.length fo ∧ Aside (HeadSt G left [] fo) ∧ Below w.heap.size w wr)
  case atStart => exact ⟨_, _, HR.out, HM.out, HST.out, HB.out⟩
  case round =>
    clear hrange HR HM HB hc0 hc0' HS1 HST HC HK
    obtain ⟨left, fo, hra, hm, HS, hbel⟩ := hrel
    rcases hra.next Try.underlying30 0 with ⟨h0, hl0, hnext⟩ | ⟨y, v, w2, c2, hly, hfy, hvo, hnext, hra2, hlt2, hg2, hs2, hen⟩
    · have hsort := sorted49' w.heap.size _ okS fo G.heads HL.out.2.2.2 (fun x => HeadSt.done H.out.ok HS.out hl0 x) HL.out.2.1 HL.out.2.2.1 wr hm
      have HSO := Lib.hid hsort
      have HBE := Lib.hid hbel
      clear hra hm hsort hbel hl0
      go_wp2_with (go_at_call 31; refine HSO.out.mono ?_; rintro e w' ⟨v, rfl, hv, hb⟩)
      go_ret
      exact ⟨v, rfl, hv.mono (fun b hb => Nat.le_trans HBE.out.size hb), HBE.out.trans (hb.mono HBE.out.size)⟩
    · obtain ⟨p, hgy, hsl⟩ : ∃ p, get G.inn y = some p ∧ Strs w F v p.1 := by
        cases hgy : get G.inn y with
        | none => rw [(H.out.ni y hgy).1] at hfy; cases hfy
        | some p => obtain ⟨v', hv', hs, _⟩ := H.out.vi y p hgy; rw [hfy] at hv'; cases hv'; exact ⟨p, rfl, hs⟩
      have hl1000 := HL.out.1 y p hgy
      have hm2 : MapAt w2 Try.prog 30 okS w.heap.size G.inn.length fo := hm.kept hg2 (by simp)
      have hbel2 : Below w.heap.size w w2 := hbel.grown hg2 hbel.size (fun j e => by cases e; omega)
      obtain ⟨l, hpl⟩ : ∃ l, p.1 = l := ⟨_, rfl⟩
      rw [hpl] at hsl hl1000
      obtain ⟨A, c, rfl, hA, _, hln⟩ := hsl
      have HRA := Lib.hid hra2
      have HM2 := Lib.hid hm2
      have HG := Lib.hid (And.intro hgy hpl)
      have HB2 := Lib.hid hbel2
      have HHA := Lib.hid hA
      clear hra hm hbel hra2 hm2 hbel2 hg2 hs2 hgy hA hly hfy hvo hpl
      go_wp2
      go_loopg [24] l.length (fun d s24 wy => ∃ (k : Nat) (fo' : Bs → Option Value), k + d = l.length ∧ s24 = .int .i64 k ∧ RangeAt wy Try.prog 30 okS bi (w.heap.size + 1) G.inn.length fi (fun z => left z && !(z == y)) c2 ∧ MapAt wy Try.prog 30 okS w.heap.size G.inn.length fo' ∧ Aside (HeadSt G left (l.take k) fo') ∧ Below w.heap.size w wy)
      case atStart => exact ⟨0, fo, by omega, rfl, HRA.out, HM2.out, HS, HB2.out⟩
      case round =>
        clear HRA HM2 HB2 hnext hen
        obtain ⟨k, fo', hkd, rfl, hra, hm, HS', hbel⟩ := hrel
        cases gk with
        | zero =>
          have hkz : ¬ ((k : Int) < (l.length : Int)) := by omega
          have hst := HS'.out
          rw [List.take_of_length_le (by omega), ← HG.out.2] at hst
          have hst2 := hst.round HG.out.1
          have HX := Lib.hid (And.intro hra (And.intro hm (And.intro hst2 hbel)))
          clear hst hst2 hra hm hbel HS'
          go_wp2
          go_roundg c2
          case measure => exact hlt2
          case rel => exact ⟨_, fo', HX.out.1, HX.out.2.1, HX.out.2.2.1, HX.out.2.2.2⟩
        | succ d =>
          have hkz : ((k : Int) < (l.length : Int)) := by omega
          have hkn : k < l.length := by omega
          obtain ⟨bk, off, rfl, _, hblt, hck⟩ := HHA.out (by omega)
          have hcell := (hbel.cell (p := ⟨bk, off + k, none⟩) hblt).trans (hck k hkn)
          have hp1 : (l.getD k []).length ≤ 1000 := hl1000 _ (by simp [List.getD_eq_getElem?_getD, hkn])
          have htk := take_succ_getD l k hkn
          obtain ⟨w3, hdrop, hm3, ht3⟩ := hm.drop Try.underlying30 Try.underlying49 ⟨(l.getD k []).toArray⟩ (size_ok hp1) 0
          simp only at hm3
          have hra3 := hra.kept ht3.grown (by simp; omega) (by simp)
          have hbel3 := hbel.grown ht3.grown hbel.size (fun j e => by cases e; omega)
          have HX3 := Lib.hid (And.intro hra3 (And.intro hm3 hbel3))
          have HTK := Lib.hid htk
          clear hra hm hbel hra3 hm3 hbel3 htk hck ht3 HHA
          generalize l.getD k [] = p at *
          simp only [encStr_eq] at hcell
          go_wp2
          go_roundg d
          case measure => omega
          case rel => exact ⟨k + 1, _, by omega, by go_num, HX3.out.1, HX3.out.2.1, by show HeadSt _ _ _ _; rw [HTK.out]; exact HS'.out.put, HX3.out.2.2⟩
end Go.Proofs.Ytccpblefebjadaa
