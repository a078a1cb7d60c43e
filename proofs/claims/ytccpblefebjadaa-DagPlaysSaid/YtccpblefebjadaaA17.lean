/- The nodes of an argument; grapevineref15.Few. -/
import Derived.Test.YtccpblefebjadaaA16
namespace Go.Proofs.Ytccpblefebjadaa
open Go.RowKit Go.Maps Go.WideMaps Go.Sort Go.Shelf
open Go.Proofs (encStr)
open M (Rising keys get Graph Stands Searched)

structure Nd where
  id : ByteArray
  ps : List ByteArray
instance : Inhabited Nd := ⟨⟨⟨#[]⟩, []⟩⟩

/-- The slice v holds the strings l, of whatever length. -/
def RawStrs (w : World) (v : Value) (l : List ByteArray) : Prop :=
  ∃ A c, v = .slice A l.length c ∧ l.length ≤ maxLen ∧ (∀ s ∈ l, s.size ≤ maxLen) ∧ (0 < l.length → ∃ b off, A = some ⟨b, off, none⟩ ∧ b < w.heap.size ∧ ∀ j, j < l.length → w.cell? ⟨b, off + j, none⟩ = some (.string (l.getD j ⟨#[]⟩)))

def NodesAt (w : World) (v : Value) (L : List Nd) : Prop :=
  ∃ A c, v = .slice A L.length c ∧ L.length ≤ maxLen ∧ (0 < L.length → ∃ b off, A = some ⟨b, off, none⟩ ∧ b < w.heap.size ∧ ∀ j, j < L.length →
    w.cell? ⟨b, off + j * 3, none⟩ = some (.string (L.getD j default).id) ∧ (L.getD j default).id.size ≤ maxLen ∧ ∃ pv, w.cell? ⟨b, off + j * 3 + 1, none⟩ = some pv ∧ RawStrs w pv (L.getD j default).ps)

def fewPs (l : List ByteArray) : Bool := l.all fun p => decide (p.size ≤ 40)
def fewNd (n : Nd) : Bool := decide (n.id.size ≤ 40) && (decide (n.ps.length ≤ 6) && fewPs n.ps)
def few (L : List Nd) : Bool := L.all fewNd && decide (L.length ≤ 14)

theorem all_take_succ {α : Type} (d : α) (f : α → Bool) (l : List α) (k : Nat) (hk : k < l.length) (h : (l.take k).all f = true) : (l.take (k + 1)).all f = f (l.getD k d) := by
  rw [List.take_succ_eq_append_getElem hk, List.all_append, h]; simp [List.getD_eq_getElem?_getD, hk]
theorem all_false_at {α : Type} (d : α) (f : α → Bool) (l : List α) (k : Nat) (hk : k < l.length) (h : f (l.getD k d) = false) : l.all f = false := by
  rw [List.all_eq_false]
  exact ⟨l.getD k d, by simp [List.getD_eq_getElem?_getD, hk], by rw [h]; simp⟩

set_option maxRecDepth 100000 in
set_option maxHeartbeats 2000000 in
theorem few_walk (w : World) {v : Value} {L : List Nd} (hv : NodesAt w v L) : Calls Try.prog 9 #[v] w (RetSame (.bool (few L)) w) := by
  obtain ⟨A, c, rfl, hmax, hA⟩ := hv
  have hmx : maxLen ≤ 9223372036854775807 := by decide
  go_enter Try.func9, Try.ntmps9
  go_wp2
  go_loopg [3] L.length (fun m i wr => ∃ k : Nat, k + m = L.length ∧ i = .int .i64 k ∧ w = wr ∧ Aside ((L.take k).all fewNd = true))
  case atStart => exact ⟨0, by omega, rfl, rfl, by show _ = _; simp⟩
  case round =>
    obtain ⟨k, hk, rfl, rfl, HR⟩ := hrel
    cases gk with
    | zero =>
      obtain rfl : k = L.length := by omega
      have hf : ¬ ((L.length : Int) < (L.length : Int)) := by omega
      have hall : L.all fewNd = true := by have := HR.out; rwa [List.take_length] at this
      have HF := Lib.hid hall
      clear hall
      by_cases h14 : L.length ≤ 14
      · have h14' : ((L.length : Int) ≤ 14) := by omega
        have HG := Lib.hid h14
        clear h14
        go_wp2
        go_ret
        exact RetSame.mk (vbool (by unfold few; rw [HF.out, decide_eq_true HG.out]; rfl))
      · have h14' : ¬ ((L.length : Int) ≤ 14) := by omega
        have HG := Lib.hid h14
        clear h14
        go_wp2
        go_ret
        exact RetSame.mk (vbool (by unfold few; rw [HF.out, decide_eq_false HG.out]; rfl))
    | succ m =>
      have hlt : k < L.length := by omega
      obtain ⟨b, off, rfl, hb, hc⟩ := hA (by omega)
      obtain ⟨c0, hs0, pv, c1, hps⟩ := hc k hlt
      have hno : fewNd (L.getD k default) = false → few L = false := fun h => by unfold few; rw [all_false_at default fewNd L k hlt h]; rfl
      have hyes := all_take_succ default fewNd L k hlt HR.out
      have HN := Lib.hid (And.intro hno hyes)
      clear hno hyes hc hA
      generalize L.getD k default = nd at *
      obtain ⟨id, ps⟩ := nd
      simp only at c0 hs0 hps
      obtain ⟨B, d, rfl, hpm, hpx, hB⟩ := hps
      by_cases h40 : id.size ≤ 40
      · have h40' : ¬ ((id.size : Int) > 40) := by omega
        by_cases h6 : ps.length ≤ 6
        · have h6' : ¬ ((ps.length : Int) > 6) := by omega
          go_wp2
          go_loopg [4] ps.length (fun q i wr => ∃ j : Nat, j + q = ps.length ∧ i = .int .i64 j ∧ w = wr ∧ Aside (fewPs (ps.take j) = true))
          case atStart => exact ⟨0, by omega, rfl, rfl, by show _ = _; simp [fewPs]⟩
          case round =>
            obtain ⟨j, hj, rfl, rfl, HS⟩ := hrel
            cases gk with
            | zero =>
              obtain rfl : j = ps.length := by omega
              have hf : ¬ ((ps.length : Int) < (ps.length : Int)) := by omega
              have hall : fewPs ps = true := by have := HS.out; rwa [List.take_length] at this
              have HF := Lib.hid (And.intro hall (And.intro h40 h6))
              clear hall
              go_wp2
              go_roundg m
              case measure => omega
              case rel => exact ⟨k + 1, by omega, by go_num, rfl, by show _ = _; rw [HN.out.2]; unfold fewNd; rw [HF.out.1, decide_eq_true HF.out.2.1, decide_eq_true HF.out.2.2]; rfl⟩
            | succ q =>
              have hjl : j < ps.length := by omega
              obtain ⟨b2, o2, rfl, hb2, hc2⟩ := hB (by omega)
              have g := hc2 j hjl
              have hsz := hpx (ps.getD j ⟨#[]⟩) (by simp [List.getD_eq_getElem?_getD, hjl])
              have h1 := all_take_succ ⟨#[]⟩ (fun p : ByteArray => decide (p.size ≤ 40)) ps j hjl HS.out
              have h2 := all_false_at ⟨#[]⟩ (fun p : ByteArray => decide (p.size ≤ 40)) ps j hjl
              have HP := Lib.hid (And.intro h1 h2)
              clear h1 h2 hc2 hB
              generalize ps.getD j ⟨#[]⟩ = s at *
              by_cases hs : s.size ≤ 40
              · have hs' : ¬ ((s.size : Int) > 40) := by omega
                go_wp2
                go_roundg q
                case measure => omega
                case rel => exact ⟨j + 1, by omega, by go_num, rfl, by show fewPs _ = _; unfold fewPs; rw [HP.out.1]; exact decide_eq_true hs⟩
              · have hs' : ((s.size : Int) > 40) := by omega
                go_wp2
                go_ret
                exact RetSame.mk (vbool (HN.out.1 (by unfold fewNd fewPs; simp only; rw [HP.out.2 (decide_eq_false hs)]; simp)).symm)
        · have h6' : ((ps.length : Int) > 6) := by omega
          go_wp2
          go_ret
          exact RetSame.mk (vbool (HN.out.1 (by unfold fewNd; simp only; rw [decide_eq_false h6]; simp)).symm)
      · have h40' : ((id.size : Int) > 40) := by omega
        go_wp2
        go_ret
        exact RetSame.mk (vbool (HN.out.1 (by unfold fewNd; simp only; rw [decide_eq_false h40]; rfl)).symm)
end Go.Proofs.Ytccpblefebjadaa
