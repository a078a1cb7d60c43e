/- Ranging over a map whose elements are raw values; Lacks. -/
import Derived.Test.YtccpblefebjadaaA10
namespace Go.Proofs.Ytccpblefebjadaa
open Go.RowKit Go.Maps Go.WideMaps Go.Sort Go.Shelf
open Go.Proofs (encStr)
open M (Rising keys get Graph)

/-- A range over the map of block b, its iterator in block r: 'left x': the entry at x is still to come. -/
def RangeAt (w : World) (P : Program) (k : TypeId) (ok : Value → Bool) (b r n : Nat) (f : Bs → Option Value) (left : Bs → Bool) (cnt : Nat) : Prop :=
  ∃ (D : DataW Value) (left0 : Lit → Bool), w.ranges P k (okV ok) b r n D left0 cnt ∧ (∀ x, f x = viewD D x) ∧ ∀ x, left x = left0 (.string x)

section
variable {P : Program} {k t e : TypeId} {ok : Value → Bool} {w : World} {b r n : Nat} {f : Bs → Option Value} {left : Bs → Bool} {cnt : Nat}

theorem MapAt.range (h : MapAt w P k ok b n f) (hk : P.underlying k = some .string) (ht : P.underlying t = some (.map k e)) :
    ∃ w' c, (Instr.range t (.map (some b))).run P w = .ok (.pointer (some ⟨w.heap.size, 0, none⟩)) w' ∧ RangeAt w' P k ok b w.heap.size n f (fun x => (f x).isSome) c ∧ w.grownBy w' none ∧ w'.heap.size = w.heap.size + 1 ∧ c ≤ n := by
  obtain ⟨D, hown, hf, _, _, _, _, _, hok⟩ := h.keys hk
  obtain ⟨w', hrun, hr, hg, hs⟩ := hown.range (string_keyed hk) ht
  refine ⟨w', _, hrun, ⟨D, _, hr, hf, fun x => ?_⟩, hg, hs, hown.size_le⟩
  show (f x).isSome = _
  rw [hf]
  unfold viewD
  cases hh : Maps.has D (.string x) with
  | false => rfl
  | true =>
    simp only [if_true]
    obtain ⟨D', hown', hf', _, hm', _⟩ := (show MapAt w P k ok b n f from ⟨D, hown, hf⟩).keys hk
    have h1 : (f x).isSome = true := by
      rw [← hm' x]
      obtain ⟨es, he, hko⟩ := hown'.keysOf
      -- the two readings are one
      obtain ⟨es1, c1, hb1, _, _, e1⟩ := hown
      obtain ⟨es2, c2, hb2, _, _, e2⟩ := hown'
      rw [hb1] at hb2
      cases hb2
      rw [← e1] at e2
      subst e2
      subst he
      obtain ⟨p, hp, hs⟩ := List.any_eq_true.1 hh
      exact List.mem_map.2 ⟨p, hp, by rw [WideAt.sameKey_eq hs]; rfl⟩
    rw [hf] at h1
    simpa [viewD, hh] using h1
theorem RangeAt.left_eq (h : RangeAt w P k ok b r n f left cnt) : w.rangeLeft b r = cnt := let ⟨_, _, h, _⟩ := h; h.left_eq
theorem RangeAt.ne (h : RangeAt w P k ok b r n f left cnt) : r ≠ b := let ⟨_, _, h, _⟩ := h; h.ne
theorem RangeAt.lt (h : RangeAt w P k ok b r n f left cnt) : r < w.heap.size := let ⟨_, _, h, _⟩ := h; h.lt
theorem RangeAt.map (h : RangeAt w P k ok b r n f left cnt) : MapAt w P k ok b n f := let ⟨D, _, h, hf, _⟩ := h; ⟨D, h.owns, hf⟩
theorem RangeAt.kept {w' : World} {row : Option Nat} (h : RangeAt w P k ok b r n f left cnt) (hg : w.grownBy w' row) (hb : some b ≠ row) (hr : some r ≠ row) : RangeAt w' P k ok b r n f left cnt := by
  obtain ⟨D, l0, h, hf⟩ := h
  exact ⟨D, l0, h.kept hg hb hr, hf⟩

theorem RangeAt.next (h : RangeAt w P k ok b r n f left cnt) (hk : P.underlying k = some .string) (ty : TypeId) :
    (cnt = 0 ∧ (∀ x, left x = false) ∧ (Instr.next (.pointer (some ⟨r, 0, none⟩)) false ty).run P w = .ok (.tuple #[.bool false]) w) ∨
    ∃ x v w' cnt', left x = true ∧ f x = some v ∧ ok v = true ∧ (Instr.next (.pointer (some ⟨r, 0, none⟩)) false ty).run P w = .ok (.tuple #[.bool true, encStr x, v]) w' ∧
      RangeAt w' P k ok b r n f (fun y => left y && !(y == x)) cnt' ∧ cnt' < cnt ∧ w.grownBy w' (some r) ∧ w'.heap.size = w.heap.size ∧ (Instr.entry (.pointer (some ⟨r, 0, none⟩))).run P w' = .ok (.tuple #[encStr x, v]) w' := by
  obtain ⟨D, l0, h, hf, hl⟩ := h
  rcases h.next (string_keyed hk) ty with ⟨h0, h1, hrun⟩ | ⟨key, v, kl, y, w', cnt', hkey, hlk, hv, hat, hrun, hr, hlt, hg, hs, hen⟩
  · exact .inl ⟨h0, fun x => by rw [hl, h1], hrun⟩
  · obtain ⟨x, rfl, rfl, _⟩ := Maps.keyOf_str hk hkey
    obtain ⟨hov, rfl⟩ := okV_inv hv
    have hh := Maps.has_true_of_atKey hat
    refine .inr ⟨x, v, w', cnt', by rw [hl, hlk], ?_, hov, hrun, ⟨D, _, hr, hf, fun z => ?_⟩, hlt, hg, hs, hen⟩
    · rw [hf]; simp [viewD, hh, hat, heldOf]
    · show (left z && !(z == x)) = _
      rw [hl]; rfl
end

/-- what those that wait lack, in whatever order. -/
def M.Graph.lacking (G : Graph) (p : Bs) : Bool := !(get G.wai p).isSome && !G.has p
def M.Graph.lacks (G : Graph) : List Bs := M.norm ((G.wai.flatMap (·.2)).filter G.lacking)

/-- 'map[Id]bool' as a set. -/
def InSet (fo : Bs → Option Value) (x : Bs) : Prop := (fo x).isSome = true

theorem lack_upd {fo : Bs → Option Value} {x y : Bs} {v : Value} : ((upd fo x (some v)) y).isSome = true ↔ y = x ∨ (fo y).isSome = true := by
  unfold upd
  split
  · simp [*]
  · simp [*]

theorem okS_form {v : Value} (h : okS v = true) : ∃ a n c, v = .slice a n c := by cases v <;> first | exact ⟨_, _, _, rfl⟩ | cases h

/-- Behind some rounds: in 'out' are those that are lacked of those that have come. -/
def LackSt (G : Graph) (left : Bs → Bool) (pre : List Bs) (fo : Bs → Option Value) : Prop :=
  ∀ x, (fo x).isSome = true ↔ G.lacking x = true ∧ (x ∈ pre ∨ ∃ y l, get G.wai y = some l ∧ left y = false ∧ x ∈ l)

theorem LackSt.keep {G : Graph} {left : Bs → Bool} {pre : List Bs} {fo : Bs → Option Value} {p : Bs} (h : LackSt G left pre fo) (hp : G.lacking p = false) : LackSt G left (pre ++ [p]) fo := fun x => by
  rw [h x]
  constructor
  · rintro ⟨h1, h2⟩; exact ⟨h1, h2.imp (fun h => List.mem_append.2 (.inl h)) id⟩
  · rintro ⟨h1, h2 | h2⟩
    · refine ⟨h1, .inl ?_⟩
      rcases List.mem_append.1 h2 with h2 | h2
      · exact h2
      · simp at h2; subst h2; rw [hp] at h1; cases h1
    · exact ⟨h1, .inr h2⟩
theorem LackSt.put {G : Graph} {left : Bs → Bool} {pre : List Bs} {fo : Bs → Option Value} {p : Bs} {v : Value} (h : LackSt G left pre fo) (hp : G.lacking p = true) : LackSt G left (pre ++ [p]) (upd fo p (some v)) := fun x => by
  rw [lack_upd, h x]
  constructor
  · rintro (rfl | ⟨h1, h2⟩)
    · exact ⟨hp, .inl (by simp)⟩
    · exact ⟨h1, h2.imp (fun h => List.mem_append.2 (.inl h)) id⟩
  · rintro ⟨h1, h2 | h2⟩
    · rcases List.mem_append.1 h2 with h2 | h2
      · exact .inr ⟨h1, .inl h2⟩
      · simp at h2; exact .inl h2
    · exact .inr ⟨h1, .inr h2⟩
theorem LackSt.round {G : Graph} {left : Bs → Bool} {l : List Bs} {fo : Bs → Option Value} {y : Bs} (h : LackSt G left l fo) (hy : get G.wai y = some l) : LackSt G (fun z => left z && !(z == y)) [] fo := fun x => by
  rw [h x]
  constructor
  · rintro ⟨h1, h2 | ⟨z, l', h2, h3, h4⟩⟩
    · exact ⟨h1, .inr ⟨y, l, hy, by simp, h2⟩⟩
    · exact ⟨h1, .inr ⟨z, l', h2, by simp [h3], h4⟩⟩
  · rintro ⟨h1, h2 | ⟨z, l', h2, h3, h4⟩⟩
    · simp at h2
    · refine ⟨h1, ?_⟩
      by_cases e : z = y
      · subst e; rw [hy] at h2; cases h2; exact .inl h4
      · exact .inr ⟨z, l', h2, by simpa [e] using h3, h4⟩
theorem LackSt.done {G : Graph} (hG : G.Ok) {left : Bs → Bool} {fo : Bs → Option Value} (h : LackSt G left [] fo) (h0 : ∀ x, left x = false) (x : Bs) : (fo x).isSome = true ↔ x ∈ G.lacks := by
  rw [h x]
  unfold M.Graph.lacks
  rw [M.mem_norm, List.mem_filter, List.mem_flatMap]
  constructor
  · rintro ⟨h1, h2 | ⟨z, l', h2, h3, h4⟩⟩
    · simp at h2
    · exact ⟨⟨(z, l'), (M.mem_get hG.rw).2 h2, h4⟩, h1⟩
  · rintro ⟨⟨e, h2, h3⟩, h1⟩
    exact ⟨h1, .inr ⟨e.1, e.2, (M.mem_get (k := e.1) (v := e.2) hG.rw).1 h2, h0 _, h3⟩⟩

/-- The same, of a set that is told by a rising list. -/
theorem sorted55' (b n : Nat) (ok : Value → Bool) (f : Bs → Option Value) (l : List Bs) (hR : l.Pairwise (· < ·)) (hk : ∀ x, (f x).isSome = true ↔ x ∈ l) (hl : ∀ x ∈ l, x.length ≤ 1000) (hn : l.length ≤ 1000) (w : World)
    (hm : MapAt w Try.prog 30 ok b n f) : Calls Try.prog 40 #[.map (some b)] w (NewStrs w l) := by
  have e : keys (l.map fun x => (x, ())) = l := by unfold keys; rw [List.map_map]; exact List.map_id l
  have := sorted55 b n ok f (l.map fun x => (x, ())) (List.pairwise_map.2 hR) (fun x => by rw [hk, e]) (by rw [e]; exact hl) (by simpa using hn) w hm
  rwa [e] at this

set_option maxRecDepth 100000 in
set_option maxHeartbeats 2000000 in
/-- Lacks. -/
theorem lacks_dag {w : World} {F : Nat → Prop} {g : Nat} {G : Graph} (h : DagAt w F g G) (hlk : G.lacks.length ≤ 1000) : Calls Try.prog 19 #[.pointer (some ⟨g, 0, none⟩)] w (NewStrs w G.lacks) := by
  have hmm := @run_makeMap Try.prog
  have hgl : g < w.heap.size := h.lt g (let ⟨_, _, _, _, _, _, h⟩ := h; h.pg)
  have hl6 : ∀ x l, get G.wai x = some l → l.length ≤ 1000 ∧ ∀ y ∈ l, y.length ≤ 1000 := fun x l hx => by
    obtain ⟨_, _, _, _, _, _, h⟩ := h
    obtain ⟨v, _, A, c, _, _, h1, h2⟩ := h.vw x l hx
    exact ⟨h2, h1⟩
  have hlx : ∀ x ∈ G.lacks, x.length ≤ 1000 := fun x hx => by
    unfold M.Graph.lacks at hx
    rw [M.mem_norm, List.mem_filter, List.mem_flatMap] at hx
    obtain ⟨⟨e, he, hxe⟩, _⟩ := hx
    exact (hl6 e.1 e.2 ((M.mem_get (k := e.1) (v := e.2) h.ok.rw).1 he)).2 x hxe
  have HD := Lib.hid h
  obtain ⟨bi, bw, bl, fi, fw, fl, h⟩ := h
  have hw1 := h.same (w' := w.alloc (.map #[] 0)) (by simp) (fun i hi _ => Below.heap_alloc _ _ i hi)
  obtain ⟨w0, c0, hrange, hra, hgr, hsz, hc0⟩ := hw1.mw.range Try.underlying30 Try.underlying49
  have hm0 : MapAt w0 Try.prog 30 okB w.heap.size 0 (fun _ => none) := (MapAt.made w Try.prog 30 okB).kept hgr (by simp)
  have hb0 : Below w.heap.size w w0 := ((Below.refl _ w).alloc (Nat.le_refl _) _).grown hgr (by simp) (fun j e => by cases e)
  have hc1 := h.c1
  have hbw := h.mw.lt
  have hcnt := h.cnt
  simp only [World.size_alloc] at hrange hra hsz
  have hst0 : LackSt G (fun x => (fw x).isSome) [] (fun _ => none) := fun x => by
    constructor
    · intro h; cases h
    · rintro ⟨_, h | ⟨y, l, hy, hl, _⟩⟩
      · simp at h
      · obtain ⟨v, hv, _⟩ := h.vw y l hy
        simp only [hv] at hl; cases hl
  have H := Lib.hid h
  have HR := Lib.hid hra
  have HM := Lib.hid (And.intro hm0 hst0)
  have HB := Lib.hid hb0
  have HL := Lib.hid (And.intro hl6 (And.intro hlx hlk))
  clear h hw1 hra hgr hm0 hb0 hl6 hst0 hlx hlk
  go_enter Try.func19, Try.ntmps19
  go_wp2
  go_loopg [5] c0 (fun c _ wr => ∃ (left : Bs → Bool) (m : Nat) (fo : Bs → Option Value), RangeAt wr Try.prog 30 okS bw (w.heap.size + 1) G.wai.length fw left c ∧ MapAt wr Try.prog 30 okB w.heap.size m fo ∧ m + 1000 * c ≤ 500000 ∧ Aside (LackSt G left [] fo) ∧ Below w.heap.size w wr)
  case atStart => exact ⟨_, 0, _, HR.out, HM.out.1, by omega, HM.out.2, HB.out⟩
  case round =>
    clear hrange HR HM HB hc1
    obtain ⟨left, m, fo, hra, hm, hmc, HS, hbel⟩ := hrel
    rcases hra.next Try.underlying30 0 with ⟨h0, hl0, hnext⟩ | ⟨y, v, w2, c2, hly, hfy, hvo, hnext, hra2, hlt2, hg2, hs2, hen⟩
    · -- nothing is left
      have hsort := sorted55' w.heap.size m okB fo G.lacks (M.rising_norm _) (fun x => LackSt.done H.out.ok HS.out hl0 x) HL.out.2.1 HL.out.2.2 wr hm
      have HSO := Lib.hid hsort
      have HBE := Lib.hid hbel
      clear hra hm hmc hsort hbel hl0
      go_wp2_with (go_at_call 40; refine HSO.out.mono ?_; rintro e w' ⟨v, rfl, hv, hb⟩)
      go_ret
      exact ⟨v, rfl, hv.mono (fun b hb => Nat.le_trans HBE.out.size hb), HBE.out.trans (hb.mono HBE.out.size)⟩
    · -- an entry has come
      obtain ⟨l, hgy, hsl⟩ : ∃ l, get G.wai y = some l ∧ Strs w F v l := by
        cases hgy : get G.wai y with
        | none => rw [H.out.nw y hgy] at hfy; cases hfy
        | some l => obtain ⟨v', hv', hs⟩ := H.out.vw y l hgy; rw [hfy] at hv'; cases hv'; exact ⟨l, rfl, hs⟩
      obtain ⟨hl10, hl1000⟩ := HL.out.1 y l hgy
      have hm2 : MapAt w2 Try.prog 30 okB w.heap.size m fo := hm.kept hg2 (by simp)
      have hbel2 : Below w.heap.size w w2 := hbel.grown hg2 hbel.size (fun j e => by cases e; omega)
      obtain ⟨A, c, rfl, hA, _, _⟩ := hsl
      have HRA := Lib.hid hra2
      have HM2 := Lib.hid hm2
      have HG := Lib.hid hgy
      have HB2 := Lib.hid hbel2
      have HHA := Lib.hid hA
      clear hra hm hbel hra2 hm2 hbel2 hg2 hs2 hgy hA hly hfy hvo
      go_wp2
      go_loopg [22] l.length (fun d s22 wy => ∃ (k m' : Nat) (fo' : Bs → Option Value), k + d = l.length ∧ s22 = .int .i64 k ∧ RangeAt wy Try.prog 30 okS bw (w.heap.size + 1) G.wai.length fw (fun z => left z && !(z == y)) c2 ∧ MapAt wy Try.prog 30 okB w.heap.size m' fo' ∧ m' ≤ m + k ∧ Aside (LackSt G left (l.take k) fo') ∧ Below w.heap.size w wy)
      case atStart => exact ⟨0, m, fo, by omega, rfl, HRA.out, HM2.out, by omega, HS, HB2.out⟩
      case round =>
        clear HRA HM2 HB2 hnext hen
        obtain ⟨k, m', fo', hkd, rfl, hra, hm, hmm', HS', hbel⟩ := hrel
        cases gk with
        | zero =>
          have hkz : ¬ ((k : Int) < (l.length : Int)) := by omega
          have hst := HS'.out
          rw [List.take_of_length_le (by omega)] at hst
          have hst2 := hst.round HG.out
          have HX := Lib.hid (And.intro hra (And.intro hm (And.intro hst2 hbel)))
          clear hst hst2 hra hm hbel HS'
          go_wp2
          go_roundg c2
          case measure => exact hlt2
          case rel => exact ⟨_, m', fo', HX.out.1, HX.out.2.1, by omega, HX.out.2.2.1, HX.out.2.2.2⟩
        | succ d =>
          have hkz : ((k : Int) < (l.length : Int)) := by omega
          have hkn : k < l.length := by omega
          obtain ⟨bk, off, rfl, _, hblt, hck⟩ := HHA.out (by omega)
          have hcell := (hbel.cell (p := ⟨bk, off + k, none⟩) hblt).trans (hck k hkn)
          have hp1 : (l.getD k []).length ≤ 1000 := hl1000 _ (by simp [List.getD_eq_getElem?_getD, hkn])
          have htk := take_succ_getD l k hkn
          have hwy := H.out.same (w' := wr) hbel.size (fun i hi _ => hbel.block i hi)
          have hc1 := hwy.c1
          obtain ⟨u, hlw, _⟩ := lookw wr hwy (l.getD k []) hp1
          have hhs := has_dag ⟨bi, bw, bl, fi, fw, fl, hwy⟩ (l.getD k []) hp1
          obtain ⟨w3, hstore, hm3, ht3⟩ := hm.store Try.underlying30 Try.underlying54 (by unfold maxLen; omega) ⟨(l.getD k []).toArray⟩ (size_ok hp1) (v := .bool true) rfl
          simp only at hm3
          have hra3 := hra.kept ht3.grown (by simp; omega) (by simp)
          have hbel3 := hbel.grown ht3.grown hbel.size (fun j e => by cases e; omega)
          have HX := Lib.hid (And.intro hra (And.intro hm hbel))
          have HX3 := Lib.hid (And.intro hra3 (And.intro hm3 hbel3))
          have HTK := Lib.hid htk
          clear hra hm hbel hra3 hm3 hbel3 hwy htk hck ht3 HHA
          have hlk : G.lacking (l.getD k []) = (!(get G.wai (l.getD k [])).isSome && !G.has (l.getD k [])) := rfl
          generalize l.getD k [] = p at *
          simp only [encStr_eq] at hcell hhs
          cases hb1 : (get G.wai p).isSome with
          | true =>
            rw [hb1] at hlw hlk
            have HK := Lib.hid hlk
            clear hb1 hlk hhs hstore
            go_wp2
            go_roundg d
            case measure => omega
            case rel => exact ⟨k + 1, m', fo', by omega, by go_num, HX.out.1, HX.out.2.1, by omega, by show LackSt _ _ _ _; rw [HTK.out]; exact HS'.out.keep HK.out, HX.out.2.2⟩
          | false =>
            rw [hb1] at hlw hlk
            cases hb2 : G.has p with
            | true =>
              rw [hb2] at hhs hlk
              have HK := Lib.hid hlk
              have HH := Lib.hid hhs
              clear hb1 hb2 hlk hhs hstore
              go_wp2_with (go_at_call 24; refine HH.out.mono ?_; rintro e w' ⟨rfl, rfl⟩)
              go_roundg d
              case measure => omega
              case rel => exact ⟨k + 1, m', fo', by omega, by go_num, HX.out.1, HX.out.2.1, by omega, by show LackSt _ _ _ _; rw [HTK.out]; exact HS'.out.keep HK.out, HX.out.2.2⟩
            | false =>
              rw [hb2] at hhs hlk
              have HK := Lib.hid hlk
              have HH := Lib.hid hhs
              clear hb1 hb2 hlk hhs
              go_wp2_with (go_at_call 24; refine HH.out.mono ?_; rintro e w' ⟨rfl, rfl⟩)
              go_roundg d
              case measure => omega
              case rel => exact ⟨k + 1, m' + 1, _, by omega, by go_num, HX3.out.1, HX3.out.2.1, by omega, by show LackSt _ _ _ _; rw [HTK.out]; exact HS'.out.put HK.out, HX3.out.2.2⟩
end Go.Proofs.Ytccpblefebjadaa
