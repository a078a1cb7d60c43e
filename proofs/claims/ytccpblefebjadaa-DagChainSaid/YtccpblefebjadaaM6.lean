/- Plain laws of a chain that is added from behind. -/
import Derived.Test.YtccpblefebjadaaM3
import Derived.Test.YtccpblefebjadaaA11
namespace Go.Proofs.Ytccpblefebjadaa
open M (Rising keys get Graph Stands Searched Bs)

def cid (i : Nat) : Bs := [UInt8.ofNat (122 - i)]
/-- behind m of them: n-1, n-2, .. -/
def chainG (n : Nat) : Nat → Graph
  | 0 => Graph.empty
  | m + 1 => ((chainG n m).add (cid (n - 1 - m)) [cid (n - 2 - m)]).1
def chainAll (n : Nat) : Graph := ((chainG n (n - 1)).add (cid 0) []).1
def wants (n : Nat) : List Bs := (List.range n).map cid

def chain1 (n m : Nat) : Bool :=
  decide (((chainG n m).add (cid (n - 1 - m)) [cid (n - 2 - m)]).2 = []) && (decide ((chainG n (m + 1)).ids.length = 0) && (decide ((chainG n (m + 1)).waiting.length = m + 1) && decide ((chainG n (m + 1)).lacks = [cid (n - 2 - m)])))
def chain2 (n : Nat) : Bool :=
  decide (((chainG n (n - 1)).add (cid 0) []).2 = wants n) && ((List.range n).all (fun i => decide ((chainAll n).level (cid i) = i)) && (decide ((chainAll n).waiting = []) && (decide ((chainAll n).lacks = []) && decide ((chainAll n).heads = [cid (n - 1)]))))

theorem chain1_all : ∀ n, n < 13 → ∀ m, m < n → (m + 1 < n → chain1 n m = true) := by decide +kernel
theorem chain2_all : ∀ n, n < 13 → (0 < n → chain2 n = true) := by decide +kernel

theorem chain_step {n m : Nat} (hn : n < 13) (hm : m + 1 < n) : ((chainG n m).add (cid (n - 1 - m)) [cid (n - 2 - m)]).2 = [] ∧ (chainG n (m + 1)).ids.length = 0 ∧ (chainG n (m + 1)).waiting.length = m + 1 ∧ (chainG n (m + 1)).lacks = [cid (n - 2 - m)] := by
  have := chain1_all n hn m (by omega) hm
  simpa [chain1] using this
theorem chain_end {n : Nat} (hn : n < 13) (hp : 0 < n) : ((chainG n (n - 1)).add (cid 0) []).2 = wants n ∧ (∀ i, i < n → (chainAll n).level (cid i) = i) ∧ (chainAll n).waiting = [] ∧ (chainAll n).lacks = [] ∧ (chainAll n).heads = [cid (n - 1)] := by
  have := chain2_all n hn hp
  simpa [chain2] using this
theorem chain_cnt {n : Nat} : ∀ m, (chainG n m).Ok ∧ (chainG n m).inn.length + (chainG n m).wai.length ≤ m
  | 0 => ⟨Graph.Ok.empty, by simp [chainG, Graph.empty]⟩
  | m + 1 => by
    obtain ⟨h1, h2⟩ := chain_cnt (n := n) m
    have hx : (cid (n - 1 - m)).length ≤ 1000 := by simp [cid]
    refine ⟨h1.add hx _, ?_⟩
    have := M.Graph.count_add h1 hx [cid (n - 2 - m)]
    show ((chainG n m).add _ _).1.inn.length + ((chainG n m).add _ _).1.wai.length ≤ _
    omega
end Go.Proofs.Ytccpblefebjadaa
