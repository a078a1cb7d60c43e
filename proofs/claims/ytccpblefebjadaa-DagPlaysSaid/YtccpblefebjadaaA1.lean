/- Maps keyed by strings whose elements are taken as raw values: a map's block seen as a function from keys to values; make, look-up, store, delete, length, and the two halves of a store. No program. -/
import Derived.WalkKit
import Derived.Maps.OwnSet
import Derived.Maps.RangeWalk
import Derived.Sort.KeysCollected
import Derived.WideKeyEntry
namespace Go.Proofs.Ytccpblefebjadaa
open Go.RowKit Go.Maps Go.WideMaps Go.ChangeMaps Go.MapKept
open Go.Proofs (encStr)

abbrev Bs := List UInt8

/-- an element that is of the shape 'ok' reads as itself. -/
def okV (ok : Value → Bool) (v : Value) : Option (DataW Value × List MemPlace) := if ok v = true then some (.held v, []) else none
theorem okV_mk {ok : Value → Bool} {v : Value} (h : ok v = true) : okV ok v = some (.held v, []) := by simp [okV, h]
theorem okV_inv {ok : Value → Bool} {v : Value} {y} (h : okV ok v = some y) : ok v = true ∧ y = (.held v, []) := by
  unfold okV at h; split at h
  · cases h; exact ⟨‹_›, rfl⟩
  · cases h

def heldOf : DataW Value → Option Value
  | .held v => some v
  | _ => none
/-- What a map as read has at a key. -/
def viewD (D : DataW Value) (x : Bs) : Option Value := if Maps.has D (.string x) = true then heldOf (D.atKey (.string x) .nil) else none

/-- BLOCK b IS A MAP OF AT MOST n ENTRIES; at the key x it has f x. -/
def MapAt (w : World) (P : Program) (k : TypeId) (ok : Value → Bool) (b n : Nat) (f : Bs → Option Value) : Prop :=
  ∃ D : DataW Value, w.ownsMap P k (okV ok) b n D ∧ ∀ x, f x = viewD D x

section
variable {P : Program} {k t e : TypeId} {ok : Value → Bool} {w : World} {b n : Nat} {f : Bs → Option Value}

theorem MapAt.made (w : World) (P : Program) (k : TypeId) (ok : Value → Bool) : MapAt (w.alloc (.map #[] 0)) P k ok w.heap.size 0 (fun _ => none) :=
  ⟨.map [], World.ownsMap_made _ _ _ _, fun _ => rfl⟩
theorem MapAt.lt (h : MapAt w P k ok b n f) : b < w.heap.size := let ⟨_, h, _⟩ := h; h.lt
theorem MapAt.mono (h : MapAt w P k ok b n f) {n' : Nat} (hn : n ≤ n') : MapAt w P k ok b n' f := let ⟨D, h, e⟩ := h; ⟨D, h.mono hn, e⟩
theorem MapAt.isMap (h : MapAt w P k ok b n f) : ∃ es clock, w.heap[b]? = some (.map es clock) := let ⟨_, ⟨es, c, hb, _⟩, _⟩ := h; ⟨es, c, hb⟩
/-- It hangs on its own block alone. -/
theorem MapAt.same {w' : World} (h : MapAt w P k ok b n f) (hb : w'.heap[b]? = w.heap[b]?) : MapAt w' P k ok b n f := by
  obtain ⟨D, ⟨es, c, h1, r⟩, e⟩ := h
  exact ⟨D, ⟨es, c, hb.trans h1, r⟩, e⟩
theorem MapAt.kept {w' : World} {row : Option Nat} (h : MapAt w P k ok b n f) (hg : w.grownBy w' row) (hne : some b ≠ row) : MapAt w' P k ok b n f := h.same (hg.block b h.lt hne)

theorem keyOf_bs (hk : P.underlying k = some .string) (s : ByteArray) (hs : s.size ≤ maxLen) : keyOf P k (.string s) = some (.string s.data.toList) := keyOf_string_mk hk hs

theorem atKey_any {D : DataW Value} {kl : Lit} (h : Maps.has D kl = true) (z z' : DataW Value) : D.atKey kl z = D.atKey kl z' := by
  cases D <;> try (cases h; done)
  rename_i es
  simp only [DataW.atKey]
  cases hf : es.find? (fun p => p.1.sameKey kl) with
  | some p => rfl
  | none =>
    obtain ⟨p, hp, hk⟩ := List.any_eq_true.1 h
    exact absurd hk (by simpa using List.find?_eq_none.1 hf p hp)

/-- 'v, ok := m[k]'. -/
theorem MapAt.look_ok (h : MapAt w P k ok b n f) (hk : P.underlying k = some .string) (ht : P.underlying t = some (.map k e)) {z : Value} (hz : (zeroValue e).run P w = .ok z w) (hzo : ok z = true) (s : ByteArray) (hs : s.size ≤ maxLen) :
    (Instr.lookup t (.map (some b)) (.string s) true).run P w = .ok (.tuple #[(f s.data.toList).getD z, .bool (f s.data.toList).isSome]) w ∧ (∀ v, f s.data.toList = some v → ok v = true) := by
  obtain ⟨D, hown, hf⟩ := h
  obtain ⟨v, ps, hrun, hv⟩ := hown.look_ok (string_keyed hk) ht hz (okV_mk hzo) (keyOf_bs hk s hs)
  obtain ⟨hov, hvz⟩ := okV_inv hv
  simp only [Prod.mk.injEq] at hvz
  rw [hrun, hf]
  cases hh : Maps.has D (.string s.data.toList) with
  | false =>
    have e1 := Maps.atKey_of_not_has hh (.held z)
    rw [e1] at hvz
    obtain rfl : z = v := by simpa using hvz.1
    simp [viewD, hh]
  | true =>
    have e1 : viewD D s.data.toList = some v := by
      simp only [viewD, hh, if_true]
      rw [atKey_any hh .nil (.held z), hvz.1]; rfl
    rw [e1]
    exact ⟨rfl, fun v' hv' => by cases hv'; exact hov⟩

/-- 'm[k]'. -/
theorem MapAt.look (h : MapAt w P k ok b n f) (hk : P.underlying k = some .string) (ht : P.underlying t = some (.map k e)) {z : Value} (hz : (zeroValue e).run P w = .ok z w) (hzo : ok z = true) (s : ByteArray) (hs : s.size ≤ maxLen) :
    (Instr.lookup t (.map (some b)) (.string s) false).run P w = .ok ((f s.data.toList).getD z) w := by
  have h1 := h.look_ok hk ht hz hzo s hs
  obtain ⟨D, hown, hf⟩ := h
  obtain ⟨v, ps, hrun, hv⟩ := hown.lookup (string_keyed hk) ht hz (okV_mk hzo) (keyOf_bs hk s hs)
  obtain ⟨hov, hvz⟩ := okV_inv hv
  simp only [Prod.mk.injEq] at hvz
  rw [hrun, hf]
  cases hh : Maps.has D (.string s.data.toList) with
  | false =>
    have e1 := Maps.atKey_of_not_has hh (.held z)
    rw [e1] at hvz
    obtain rfl : z = v := by simpa using hvz.1
    simp [viewD, hh]
  | true =>
    have e1 : viewD D s.data.toList = some v := by
      simp only [viewD, hh, if_true]
      rw [atKey_any hh .nil (.held z), hvz.1]; rfl
    rw [e1]; rfl

def upd {α : Type} (f : Bs → Option α) (x : Bs) (v : Option α) : Bs → Option α := fun y => if y = x then v else f y

theorem viewD_put {D : DataW Value} (hD : IsMap D) (x : Bs) (v : Value) : ∀ y, viewD (D.put (.string x) (.held v)) y = upd (viewD D) x (some v) y := by
  intro y
  unfold upd
  split
  · subst y
    simp [viewD, Maps.has_put_same hD (k := .string x) trivial, Maps.atKey_put_same hD (k := .string x) trivial, heldOf]
  · have hne : (Lit.string y) ≠ .string x := fun e => by cases e; contradiction
    simp [viewD, Maps.has_put_other hne, Maps.atKey_put_other hne]
theorem viewD_del {D : DataW Value} (x : Bs) : ∀ y, viewD (D.del (.string x)) y = upd (viewD D) x none y := by
  intro y
  unfold upd
  split
  · subst y
    simp [viewD, Maps.has_del_same]
  · have hne : (Lit.string y) ≠ .string x := fun e => by cases e; contradiction
    simp [viewD, Maps.has_del_other hne, Maps.atKey_del_other hne]

/-- 'm[k] = v'. -/
theorem MapAt.store (h : MapAt w P k ok b n f) (hk : P.underlying k = some .string) (ht : P.underlying t = some (.map k e)) (hn : n < maxLen) (s : ByteArray) (hs : s.size ≤ maxLen) {v : Value} (hv : ok v = true) :
    ∃ w', (Instr.mapUpdate t (.map (some b)) (.string s) v).run P w = .ok () w' ∧ MapAt w' P k ok b (n + 1) (upd f s.data.toList (some v)) ∧ w.mapTurned w' b := by
  obtain ⟨D, hown, hf⟩ := h
  obtain ⟨w', hrun, h1, h2⟩ := hown.store (string_keyed hk) ht hn (keyOf_bs hk s hs) (okV_mk hv)
  refine ⟨w', hrun, ⟨_, h1, fun y => ?_⟩, h2⟩
  rw [viewD_put hown.isMap]
  unfold upd; rw [hf]
/-- 'delete(m, k)'. -/
theorem MapAt.drop (h : MapAt w P k ok b n f) (hk : P.underlying k = some .string) (ht : P.underlying t = some (.map k e)) (s : ByteArray) (hs : s.size ≤ maxLen) (ty : TypeId) :
    ∃ w', (Builtin.delete_ #[t, k] ty #[.map (some b), .string s]).run P w = .ok (.tuple #[]) w' ∧ MapAt w' P k ok b n (upd f s.data.toList none) ∧ w.mapTurned w' b := by
  obtain ⟨D, hown, hf⟩ := h
  obtain ⟨w', hrun, h1, h2⟩ := hown.drop (string_keyed hk) ht (keyOf_bs hk s hs) ty
  refine ⟨w', hrun, ⟨_, h1, fun y => ?_⟩, h2⟩
  rw [viewD_del]
  unfold upd; rw [hf]

/-- THE KEYS, each once. -/
theorem MapAt.keys (h : MapAt w P k ok b n f) (hk : P.underlying k = some .string) : ∃ D : DataW Value, w.ownsMap P k (okV ok) b n D ∧ (∀ x, f x = viewD D x) ∧ (strKeys D).Nodup ∧ (∀ x, x ∈ strKeys D ↔ (f x).isSome = true) ∧ (strKeys D).length = Maps.size D ∧ Maps.size D ≤ n ∧ (∀ x ∈ strKeys D, x.length ≤ maxLen) ∧ (∀ x v, f x = some v → ok v = true) := by
  obtain ⟨D, hown, hf⟩ := h
  refine ⟨D, hown, hf, ?_⟩
  have hsz := hown.size_le
  obtain ⟨es, rfl, hap, hkl⟩ := hown.entries (string_keyed hk)
  obtain ⟨es', he, hko⟩ := hown.keysOf
  obtain rfl : es = es' := by simpa using he
  have hstr : ∀ p ∈ es, ∃ x : Bs, p.1 = .string x ∧ x.length ≤ maxLen := fun p hp => by
    obtain ⟨v, hv⟩ := hko p hp
    obtain ⟨x, _, hx, hl⟩ := Maps.keyOf_str hk hv
    exact ⟨x, hx, hl⟩
  have hheld : ∀ p ∈ es, ∃ v, p.2 = .held v ∧ ok v = true := by
    obtain ⟨es0, c0, hb0, F, _, hD⟩ := hown
    intro p hp
    have hE : es = (es0.toList.map (WideElems.rg P k (okV ok))).foldr DataW.insert [] := by simpa using hD
    rw [hE] at hp
    obtain ⟨x, hx, rfl⟩ := List.mem_map.1 (mem_sorted.1 hp)
    obtain ⟨y, hy⟩ := F.reads x hx
    obtain ⟨z0, hz0, hzd⟩ := WideElems.rd_val hy
    obtain ⟨hok, rfl⟩ := okV_inv hz0
    exact ⟨x.val, by rw [WideElems.rg_of hy, hzd], hok⟩
  have hat : ∀ p ∈ es, ∀ z, (DataW.map es).atKey p.1 z = p.2 := fun p hp z => WideAt.atKey_mem z (hkl p hp) hap hp
  refine ⟨?_, fun x => ?_, by simp [strKeys, Maps.size], hsz, fun x hx => ?_, fun x v hv => ?_⟩
  · show (es.map fun p => strOf p.1).Nodup
    refine List.pairwise_map.2 (hap.imp_of_mem fun {p q} hp' hq' hne e => hne ?_)
    obtain ⟨a, ha, _⟩ := hstr p hp'
    obtain ⟨b, hb, _⟩ := hstr q hq'
    rw [ha, hb] at e ⊢
    exact congrArg _ e
  · rw [hf]
    constructor
    · intro hx
      obtain ⟨p, hp, rfl⟩ := List.mem_map.1 (show x ∈ es.map fun p => strOf p.1 from hx)
      obtain ⟨a, ha, _⟩ := hstr p hp
      obtain ⟨v, hv, _⟩ := hheld p hp
      have hh : Maps.has (DataW.map es) (.string a) = true := List.any_eq_true.2 ⟨p, hp, by rw [ha]; exact WideAt.sameKey_self trivial⟩
      have := hat p hp .nil
      rw [ha] at this ⊢
      simp only [strOf, viewD, hh, if_true, this, hv, heldOf, Option.isSome_some]
    · intro hx
      have hh : Maps.has (DataW.map es) (.string x) = true := by
        cases hh : Maps.has (DataW.map es) (.string x)
        · simp [viewD, hh] at hx
        · rfl
      obtain ⟨p, hp, hs⟩ := List.any_eq_true.1 hh
      have e1 := WideAt.sameKey_eq hs
      exact List.mem_map.2 ⟨p, hp, by rw [e1]; rfl⟩
  · obtain ⟨p, hp, rfl⟩ := List.mem_map.1 (show x ∈ es.map fun p => strOf p.1 from hx)
    obtain ⟨a, ha, hl⟩ := hstr p hp
    rw [ha]; exact hl
  · rw [hf] at hv
    have hh : Maps.has (DataW.map es) (.string x) = true := by
      cases hh : Maps.has (DataW.map es) (.string x)
      · simp [viewD, hh] at hv
      · rfl
    obtain ⟨p, hp, hs⟩ := List.any_eq_true.1 hh
    have e1 := WideAt.sameKey_eq hs
    obtain ⟨u, hu, huo⟩ := hheld p hp
    have := hat p hp .nil
    rw [e1] at this
    simp only [viewD, hh, if_true, this, hu, heldOf, Option.some.injEq] at hv
    rw [← hv]; exact huo

/-- THE TWO HALVES OF A STORE: between them other blocks may turn. -/
theorem MapAt.entry (h : MapAt w P k ok b n f) (hk : P.underlying k = some .string) (ht : P.underlying t = some (.map k e)) {z : Value} (hz : ∀ u : World, (zeroValue e).run P u = .ok z u) (hn : n < maxLen) (s : ByteArray) (hs : s.size ≤ maxLen) {v : Value} (hv : ok v = true) :
    ∃ v0 st es1 c1, (Instr.mapEntry t (.map (some b)) (.string s)).run P w = .ok (.tuple #[v0, goInt st]) (setBlock w b (.map es1 c1)) ∧
      ∀ w2 : World, w2.heap[b]? = some (.map es1 c1) → ∃ es' c', (Instr.entryStore t (.map (some b)) (goInt st) v).run P w2 = .ok () (setBlock w2 b (.map es' c')) ∧ ∀ w3 : World, w3.heap[b]? = some (.map es' c') → MapAt w3 P k ok b (n + 1) (upd f s.data.toList (some v)) := by
  have hst := h.store hk ht hn s hs hv
  obtain ⟨D, ⟨es, c, hb, F, hsz, hD⟩, hf⟩ := h
  obtain ⟨v0, st, es1, c1, h1, _, h2⟩ := WideElems.entry_then_store (string_law hk) ht hz hb F (keyOf_bs hk s hs)
  refine ⟨v0, st, es1, c1, h1, fun w2 hw2 => ?_⟩
  obtain ⟨es', c', h3, h4⟩ := h2 w2 v hw2
  refine ⟨es', c', h3, fun w3 hw3 => ?_⟩
  obtain ⟨w', hrun, hm, _⟩ := hst
  rw [h4] at hrun
  obtain rfl : setBlock w b (.map es' c') = w' := by simpa using hrun
  exact hm.same (by rw [hw3]; exact (heap_setBlock_same hb _).symm)
end
end Go.Proofs.Ytccpblefebjadaa
