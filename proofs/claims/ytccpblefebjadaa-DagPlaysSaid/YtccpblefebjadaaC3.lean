/- grapevineref15.Sorted. -/
import Derived.Test.YtccpblefebjadaaC2
namespace Go.Proofs.Ytccpblefebjadaa
open Go.RowKit Go.Maps Go.WideMaps Go.Sort Go.Shelf
open Go.Proofs (encStr)
open M (Rising keys get Graph Stands Searched)

def srt (l : List Bs) : List Bs := l.foldl (fun o x => M.insU x o) []
theorem srt_snoc (l : List Bs) (x : Bs) : srt (l ++ [x]) = M.insU x (srt l) := by simp [srt]
theorem srt_all (l : List Bs) : ∀ o : List Bs, o.Pairwise (· < ·) → (l.foldl (fun o x => M.insU x o) o).Pairwise (· < ·) ∧ ∀ x, x ∈ l.foldl (fun o x => M.insU x o) o ↔ x ∈ o ∨ x ∈ l := by
  induction l with
  | nil => intro o h; simp [h]
  | cons y r ih =>
    intro o h
    obtain ⟨h1, h2⟩ := ih (M.insU y o) (M.rising_insU h)
    refine ⟨h1, fun x => ?_⟩
    rw [List.foldl_cons, h2, M.mem_insU, List.mem_cons]
    constructor
    · rintro ((h | h) | h)
      · exact .inr (.inl h)
      · exact .inl h
      · exact .inr (.inr h)
    · rintro (h | h | h)
      · exact .inl (.inr h)
      · exact .inl (.inl h)
      · exact .inr h
theorem srt_rising (l : List Bs) : (srt l).Pairwise (· < ·) := (srt_all l [] List.Pairwise.nil).1
theorem mem_srt {l : List Bs} {x : Bs} : x ∈ srt l ↔ x ∈ l := by have := (srt_all l [] List.Pairwise.nil).2 x; simpa [srt] using this
theorem srt_norm (l : List Bs) : srt l = M.norm l := M.rising_ext (srt_rising l) (M.rising_norm l) (fun x => by rw [mem_srt, M.mem_norm])
theorem srt_len : ∀ (l : List Bs), (srt l).length ≤ l.length := fun l => by rw [srt_norm]; exact M.length_norm l

set_option maxRecDepth 100000 in
set_option maxHeartbeats 2000000 in
theorem sorted_walk (w : World) {S : Nat → Prop} {v : Value} {l : List Bs} (hv : Strs w S v l) (hl : l.length < 1000) : Calls Try.prog 42 #[v] w (NewStrs w (M.norm l)) := by
  obtain ⟨A, c, rfl, hA, hax, _⟩ := hv
  go_enter Try.func42, Try.ntmps42
  go_wp2
  go_loopg [3, 4] l.length (fun d s3 s4 wr => ∃ k : Nat, k + d = l.length ∧ s4 = .int .i64 k ∧ Strs wr (fun b => w.heap.size ≤ b) s3 (srt (l.take k)) ∧ Below w.heap.size w wr)
  case atStart => exact ⟨0, by omega, rfl, ⟨none, 0, rfl, fun h => absurd h (by simp [srt]), by simp [srt], by simp [srt]⟩, Below.refl _ _⟩
  case round =>
    obtain ⟨k, hk, rfl, hO, hB⟩ := hrel
    cases gk with
    | zero =>
      obtain rfl : k = l.length := by omega
      have hf : ¬ ((l.length : Int) < (l.length : Int)) := by omega
      rw [List.take_length, srt_norm] at hO
      have HO := Lib.hid (And.intro hO hB)
      clear hO hB
      go_wp2
      go_ret
      exact ⟨_, rfl, HO.out.1, HO.out.2⟩
    | succ d =>
      have hf : ((k : Int) < (l.length : Int)) := by omega
      have hkl : k < l.length := by omega
      obtain ⟨b, off, rfl, _, hbl, hc⟩ := hA (by omega)
      have g := (hB.cell (p := ⟨b, off + k, none⟩) hbl).trans (hc k hkl)
      have hx := hax _ (getD_mem hkl)
      have hst : srt (l.take (k + 1)) = M.insU (l.getD k []) (srt (l.take k)) := by rw [take_succ_getD l k hkl, srt_snoc]
      have hln := srt_len (l.take k)
      rw [List.length_take] at hln
      have hp := put_walk wr hO (l.getD k []) hx (by omega)
      rw [putL_eq (srt_rising _)] at hp
      have hins := M.length_insU (l.getD k []) (srt (l.take k))
      have hall : ∀ x ∈ M.insU (l.getD k []) (srt (l.take k)), x.length ≤ 1000 := fun x hx' => by
        rcases M.mem_insU.1 hx' with rfl | h
        · exact hx
        · exact hax x (List.mem_of_mem_take (mem_srt.1 h))
      have hp' : Calls Try.prog 45 #[u3, encStr (l.getD k [])] wr (fun e w' => ∃ u, e = .returned u ∧ Aside (Strs w' (fun b => w.heap.size ≤ b) u (srt (l.take (k + 1))) ∧ Below w.heap.size w w')) := by
        refine hp.mono ?_
        rintro e w' ⟨u, rfl, hu⟩
        exact ⟨u, rfl, by rw [hst]; exact (hu.strs hall (by omega)).mono (fun b hb => Nat.le_trans hB.size hb), hB.trans (hu.2.mono hB.size)⟩
      have HP := Lib.hid hp'
      clear hp hp' hst hO hB hins hall hln hc hA hax hx
      generalize l.getD k [] = x at *
      simp only [encStr_eq] at g HP
      go_wp2_with fail
      refine HP.out.mono ?_
      rintro e w5 ⟨u, rfl, H5⟩
      go_wp2
      go_roundg d
      case measure => omega
      case rel => exact ⟨k + 1, by omega, by go_num, H5.1, H5.2⟩
end Go.Proofs.Ytccpblefebjadaa
