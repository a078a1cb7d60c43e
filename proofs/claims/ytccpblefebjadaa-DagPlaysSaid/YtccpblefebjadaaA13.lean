/- slices.IndexFunc, slices.ContainsFunc with the closure of Above. -/
import Derived.Test.YtccpblefebjadaaA12
namespace Go.Proofs.Ytccpblefebjadaa
open Go.RowKit Go.Maps Go.WideMaps Go.Sort Go.Shelf
open Go.Proofs (encStr)
open M (Rising keys get Graph)

/-- What the closure does at each element of a list, told by J (it goes on) and Jx (it has said yes). -/
def Asked (J : Nat → World → Prop) (Jx : World → Prop) (k : Nat) (e : Ending) (W' : World) : Prop :=
  (e = .returned (.bool false) ∧ J (k + 1) W') ∨ (e = .returned (.bool true) ∧ Jx W')
def IndexPost (J : Nat → World → Prop) (Jx : World → Prop) (n : Nat) (e : Ending) (w' : World) : Prop :=
  (∃ i : Nat, e = .returned (.int .i64 i) ∧ Jx w') ∨ (e = .returned (.int .i64 (-1)) ∧ J n w')

set_option maxRecDepth 100000 in
set_option maxHeartbeats 1000000 in
theorem indexFunc_any (A : Option Addr) (c : Nat) (ps : List Bs) (hn : ps.length ≤ 1000) (p1 p2 p3 p4 : Option Addr) (J : Nat → World → Prop) (Jx : World → Prop) (w : World) (h0 : J 0 w)
    (hc : ∀ k W, k < ps.length → J k W → ∃ ad, A = some ad ∧ W.cell? (ad.add k) = some (encStr (ps.getD k [])))
    (hf : ∀ k W, k < ps.length → J k W → Calls Try.prog 33 #[encStr (ps.getD k []), .pointer p1, .pointer p2, .pointer p3, .pointer p4] W (Asked J Jx k)) :
    Calls Try.prog 51 #[.slice A ps.length c, .func (.func 33) #[] #[.pointer p1, .pointer p2, .pointer p3, .pointer p4]] w (IndexPost J Jx ps.length) := by
  have HC := Lib.hid hc
  have HF := Lib.hid hf
  clear hc hf
  go_enter Try.func51, Try.ntmps51
  go_wp2
  go_loopg [8] ps.length (fun d i wr => ∃ k : Nat, k + d = ps.length ∧ i = .int .i64 k ∧ J k wr)
  case atStart => exact ⟨0, by omega, rfl, h0⟩
  case round =>
    obtain ⟨k, hkd, rfl, hJ⟩ := hrel
    cases gk with
    | zero =>
      obtain rfl : k = ps.length := by omega
      go_wp2
      go_ret
      exact .inr ⟨rfl, hJ⟩
    | succ d =>
      have hkz : ((k : Int) < (ps.length : Int)) := by omega
      obtain ⟨ad, rfl, hcell⟩ := HC.out k wr (by omega) hJ
      have hcall := HF.out k wr (by omega) hJ
      have HJ := Lib.hid hcall
      clear hcall hJ
      generalize ps.getD k [] = x at *
      go_wp2_with (go_at_call 33; refine HJ.out.mono ?_; rintro e w' (⟨rfl, hJ'⟩ | ⟨rfl, hJ'⟩))
      · go_roundg d
        case measure => omega
        case rel => exact ⟨k + 1, by omega, by go_num, hJ'⟩
      · go_ret
        exact .inl ⟨k, rfl, hJ'⟩

set_option maxRecDepth 100000 in
theorem containsFunc_any (A : Option Addr) (c : Nat) (ps : List Bs) (hn : ps.length ≤ 1000) (p1 p2 p3 p4 : Option Addr) (J : Nat → World → Prop) (Jx : World → Prop) (w : World) (h0 : J 0 w)
    (hc : ∀ k W, k < ps.length → J k W → ∃ ad, A = some ad ∧ W.cell? (ad.add k) = some (encStr (ps.getD k [])))
    (hf : ∀ k W, k < ps.length → J k W → Calls Try.prog 33 #[encStr (ps.getD k []), .pointer p1, .pointer p2, .pointer p3, .pointer p4] W (Asked J Jx k)) :
    Calls Try.prog 34 #[.slice A ps.length c, .func (.func 33) #[] #[.pointer p1, .pointer p2, .pointer p3, .pointer p4]] w
      (fun e w' => (e = .returned (.bool true) ∧ Jx w') ∨ (e = .returned (.bool false) ∧ J ps.length w')) := by
  have HI := Lib.hid (indexFunc_any A c ps hn p1 p2 p3 p4 J Jx w h0 hc hf)
  clear hc hf h0
  go_enter Try.func34, Try.ntmps34
  go_wp2_with (go_at_call 51; refine HI.out.mono ?_; rintro e w' (⟨i, rfl, hJ'⟩ | ⟨rfl, hJ'⟩))
  · go_ret
    exact .inl ⟨rfl, hJ'⟩
  · go_ret
    exact .inr ⟨rfl, hJ'⟩
end Go.Proofs.Ytccpblefebjadaa
