/- The reference's Add, walked. -/
import Derived.Test.YtccpblefebjadaaC10
import Derived.Deep.Cut
import Derived.Deep.CutRange
namespace Go.Proofs.Ytccpblefebjadaa
open Go.RowKit Go.Maps Go.WideMaps Go.Sort Go.Shelf
open Go.Proofs (encStr)
open M (Rising keys get Graph Stands Searched)

def OwnN (w0 w : World) (v : Value) (E : List RN) : Prop := w.ownsRow w0.heap.size 42 3 v E.length (rcells E) ∧ Below w0.heap.size w0 w
theorem OwnN.start (w : World) : OwnN w w (.slice none 0 0) [] := ⟨World.ownsRow_nil _ _ _ _, Below.refl _ _⟩
theorem own_lo3 {w : World} {base n : Nat} {v : Value} {xs : List Value} (h : w.ownsRow base 42 3 v n xs) : ∀ k, v.ownBlock = some k → base ≤ k := fun k hk => by
  rcases h.2 with ⟨rfl, _⟩ | ⟨gb, cap, cur, rfl, hb, _⟩
  · cases hk
  · cases hk; exact hb
theorem rcells_snoc (E : List RN) (n : RN) : rcells (E ++ [n]) = rcells E ++ n.cells := by simp [rcells]
theorem OwnN.next {w0 w w' : World} {v : Value} {E : List RN} (h : OwnN w0 w v E) (hb : Below w.heap.size w w') : OwnN w0 w' v E :=
  ⟨h.1.kept (row := none) ⟨hb.os, hb.tape, hb.output, hb.size, fun i hi _ => hb.block i hi⟩ (by cases v.ownBlock <;> simp), h.2.trans (hb.mono h.2.size)⟩
theorem OwnN.snoc {w0 w w7 : World} {v v' : Value} {E : List RN} {n : RN} (h : OwnN w0 w v E) (hown : w7.ownsRow w0.heap.size 42 3 v' (E.length + 1) (rcells E ++ n.cells)) (hg : (w.alloc (.cells n.cells.toArray 42)).grownBy w7 v.ownBlock) : OwnN w0 w7 v' (E ++ [n]) :=
  ⟨by rw [rcells_snoc, List.length_append]; exact hown, (h.2.alloc h.2.size _).grown hg (by simp; have := h.2.size; omega) (own_lo3 h.1)⟩
theorem cells3_new (w : World) (a b c : Value) : ∀ j u, [a, b, c][j]? = some u → (w.alloc (.cells #[a, b, c] 42)).cell? ((⟨w.heap.size, 0, none⟩ : Addr).add j) = some u := by
  intro j u hj
  have hn := World.alloc_heap_new w (.cells #[a, b, c] 42)
  match j, hj with
  | 0, hj => simp at hj; subst hj; show (w.alloc _).cell? ⟨w.heap.size, 0, none⟩ = _; unfold World.cell?; rw [hn]; rfl
  | 1, hj => simp at hj; subst hj; show (w.alloc _).cell? ⟨w.heap.size, 0 + 1, none⟩ = _; unfold World.cell?; rw [hn]; rfl
  | 2, hj => simp at hj; subst hj; show (w.alloc _).cell? ⟨w.heap.size, 0 + 2, none⟩ = _; unfold World.cell?; rw [hn]; rfl
  | j + 3, hj => simp at hj

theorem info42 : ∃ i, Try.prog.info? 42 = some i ∧ i.zero = some (.agg #[.string ⟨#[]⟩, .slice none 0 0, .bool false]) ∧ i.size = 3 ∧ i.bytes = 48 := ⟨_, rfl, by kernel_rfl, by kernel_rfl, by kernel_rfl⟩
theorem zero42 : (Value.agg #[.string ⟨#[]⟩, .slice none 0 0, .bool false]).cells.size = 3 := rfl

theorem Strs.lt2 {w : World} {S : Nat → Prop} {v : Value} {l : List Bs} (h : Strs w S v l) : Strs w (fun b => S b ∧ b < w.heap.size) v l := by
  obtain ⟨A, c, rfl, h1, h2⟩ := h
  exact ⟨A, c, rfl, fun hp => let ⟨b, off, e, hs, hl, hc⟩ := h1 hp; ⟨b, off, e, ⟨hs, hl⟩, hl, hc⟩, h2⟩

/-- What the reference's Add leaves. -/
def RAdded (w : World) (R : Nat → Prop) (r : Nat) (D' : List RN) (out : List Bs) (e : Ending) (w' : World) : Prop :=
  ∃ u v' R', e = .returned u ∧ RefAt w' R' r v' D' ∧ (∀ i, R' i → R i ∨ w.heap.size ≤ i) ∧ Frame (· = r) w w' ∧ Strs w' (fun _ => True) u out

theorem Strs.setCell {w : World} {S : Nat → Prop} {v : Value} {l : List Bs} (h : Strs w S v l) (a : Addr) (u : Value) (hn : ∀ b, S b → b ≠ a.block) : Strs (w.setCell a u) S v l :=
  h.same (by simp [World.setCell]) (fun i _ hS => Below.heap_setCell _ _ _ _ (hn i hS))

/-- Behind the store of the new list. -/
theorem RefAt.stored {w w4 wc : World} {R : Nat → Prop} {r : Nat} {v vE : Value} {D : List RN} {n : RN} (h : RefAt w R r v D) (hb : Below w.heap.size w w4) (hO : OwnN w4 wc vE (rins n D)) (hnew : place D n.id = none)
    (hp : Strs wc (fun b => w.heap.size ≤ b ∧ b < w4.heap.size) n.pv n.ps) (hid : n.id.length ≤ 1000) (h6 : n.ps.length ≤ 6) (hlen : D.length < 100) :
    ∃ R' : Nat → Prop, RefAt (wc.setCell ⟨r, 0, none⟩ vE) R' r vE (rins n D) ∧ (∀ i, R' i → R i ∨ w.heap.size ≤ i) ∧ Frame (· = r) w (wc.setCell ⟨r, 0, none⟩ vE) := by
  have hbc : Below w.heap.size w wc := hb.trans (hO.2.mono hb.size)
  have hrl := h.lt r h.pr
  have hc : wc.cell? ⟨r, 0, none⟩ = some v := (hbc.cell (p := ⟨r, 0, none⟩) hrl).trans h.cell
  have hsz : (wc.setCell ⟨r, 0, none⟩ vE).heap.size = wc.heap.size := by simp [World.setCell]
  have hgl : ∀ g, vE.ownBlock = some g → w4.heap.size ≤ g ∧ g < wc.heap.size := fun g hg => hO.1.lt g hg
  refine ⟨fun i => R i ∨ (w.heap.size ≤ i ∧ i < wc.heap.size), ?_, fun i hi => hi.imp id (fun h => h.1), ⟨hbc.os, hbc.tape, hbc.output, by rw [hsz]; exact hbc.size, fun i hi hn => (Below.heap_setCell _ _ _ _ hn).trans (hbc.block i hi)⟩⟩
  constructor
  · exact World.cell?_setCell_same wc ⟨r, 0, none⟩ vE hc
  · have hrw : (wc.setCell ⟨r, 0, none⟩ vE).ownsRow w4.heap.size 42 3 vE (rins n D).length (rcells (rins n D)) := ownsRow_setCell_below (a := ⟨r, 0, none⟩) hO.1 (by show r < w4.heap.size; have := hb.size; omega) vE
    exact ⟨hrw.1, hrw.2.imp id (fun ⟨g, cap, cur, a, _, c⟩ => ⟨g, cap, cur, a, Nat.zero_le _, c⟩)⟩
  · intro g hg
    have := hgl g hg
    have := hb.size
    exact ⟨.inr (by omega), by omega⟩
  · exact .inl h.pr
  · rw [World.frozen?_setCell]
    rw [hbc.frozen (p := ⟨r, 0, none⟩) hrl]; exact h.fz
  · intro m hm
    rcases mem_rins.1 hm with rfl | hm
    · refine (hp.setCell _ _ (fun b hb' => ?_)).mono (fun b hb' => ⟨.inr ?_, ?_, fun hg => ?_⟩)
      · show b ≠ r; omega
      · have := hO.2.size; omega
      · omega
      · have := hgl b hg; omega
    · refine (((h.par m hm).below hbc).setCell _ _ (fun b hb' => hb'.2.1)).mono (fun b hb' => ⟨.inl hb'.1, hb'.2.1, fun hg => ?_⟩)
      have := hgl b hg
      have := h.lt b hb'.1
      have := hb.size
      omega
  · intro i hi
    rw [hsz]
    rcases hi with hi | hi
    · have := h.lt i hi; have := hbc.size; omega
    · exact hi.2
  · intro m hm
    rcases mem_rins.1 hm with rfl | hm
    · exact hid
    · exact h.ids m hm
  · rw [rins_len]; omega
  · intro m hm
    rcases mem_rins.1 hm with rfl | hm
    · exact h6
    · exact h.six m hm
  · refine rins_up h.up (fun m hm e => ?_)
    unfold place at hnew
    rw [List.findIdx?_eq_none_iff] at hnew
    have := hnew m hm
    simp [e] at this

end Go.Proofs.Ytccpblefebjadaa
