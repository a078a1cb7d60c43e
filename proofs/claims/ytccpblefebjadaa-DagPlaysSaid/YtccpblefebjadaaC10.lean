/- The reference's Add: plain steps; its rows in memory. -/
import Derived.Test.YtccpblefebjadaaC9
namespace Go.Proofs.Ytccpblefebjadaa
open Go.RowKit Go.Maps Go.WideMaps Go.Sort Go.Shelf
open Go.Proofs (encStr)
open M (Rising keys get Graph Stands Searched)

def rins (n : RN) : List RN → List RN
  | [] => [n]
  | m :: r => if n.id < m.id then n :: m :: r else m :: rins n r
def rstep (n : RN) (s : List RN × Bool) (m : RN) : List RN × Bool :=
  if s.2 = true then (s.1 ++ [m], true) else if n.id < m.id then ((s.1 ++ [n]) ++ [m], true) else (s.1 ++ [m], false)
def rst (n : RN) (l : List RN) : List RN × Bool := l.foldl (rstep n) ([], false)
def rfin (n : RN) (s : List RN × Bool) : List RN := if s.2 = true then s.1 else s.1 ++ [n]
theorem rst_snoc (n : RN) (l : List RN) (m : RN) : rst n (l ++ [m]) = rstep n (rst n l) m := by simp [rst]
theorem rst_done (n : RN) (l : List RN) (a : List RN) : l.foldl (rstep n) (a, true) = (a ++ l, true) := by
  induction l generalizing a with
  | nil => simp
  | cons x r ih => rw [List.foldl_cons, show rstep n (a, true) x = (a ++ [x], true) by simp [rstep], ih]; simp
theorem rst_ins (n : RN) : ∀ (l a : List RN), rfin n (l.foldl (rstep n) (a, false)) = a ++ rins n l
  | [], a => by simp [rins, rfin]
  | x :: r, a => by
    rw [List.foldl_cons]
    unfold rins
    by_cases hlt : n.id < x.id
    · rw [show rstep n (a, false) x = ((a ++ [n]) ++ [x], true) by simp [rstep, hlt], rst_done, if_pos hlt]; simp [rfin]
    · rw [show rstep n (a, false) x = (a ++ [x], false) by simp [rstep, hlt], if_neg hlt, rst_ins n r (a ++ [x])]; simp
theorem rst_len (n : RN) (l : List RN) : (rst n l).1.length ≤ l.length + 1 := by
  suffices ∀ (l : List RN) (s : List RN × Bool), (l.foldl (rstep n) s).1.length ≤ s.1.length + l.length + (if s.2 = true then 0 else 1) by
    have := this l ([], false)
    simp at this; unfold rst; omega
  intro l
  induction l with
  | nil => intro s; simp
  | cons x r ih =>
    intro s
    have := ih (rstep n s x)
    rw [List.foldl_cons, List.length_cons]
    obtain ⟨a, b⟩ := s
    revert this
    unfold rstep
    cases b
    · simp only [Bool.false_eq_true, if_false]
      split
      · simp; omega
      · simp; omega
    · simp; omega
theorem mem_rins {n m : RN} : ∀ {l : List RN}, m ∈ rins n l ↔ m = n ∨ m ∈ l
  | [] => by simp [rins]
  | x :: r => by
    unfold rins
    split
    · simp
    · rw [List.mem_cons, mem_rins (l := r), List.mem_cons]
      constructor
      · rintro (h | h | h)
        · exact .inr (.inl h)
        · exact .inl h
        · exact .inr (.inr h)
      · rintro (h | h | h)
        · exact .inr (.inl h)
        · exact .inl h
        · exact .inr (.inr h)
theorem rins_len (n : RN) : ∀ (l : List RN), (rins n l).length = l.length + 1
  | [] => rfl
  | x :: r => by
    unfold rins
    split
    · rfl
    · simp [rins_len n r]
theorem rins_up {n : RN} : ∀ {l : List RN}, l.Pairwise (fun a b => a.id < b.id) → (∀ m ∈ l, m.id ≠ n.id) → (rins n l).Pairwise (fun a b => a.id < b.id)
  | [], _, _ => by simp [rins]
  | x :: r, h, hne => by
    obtain ⟨h1, h2⟩ := List.pairwise_cons.1 h
    unfold rins
    split
    · rename_i hlt
      exact List.pairwise_cons.2 ⟨fun m hm => (List.mem_cons.1 hm).elim (fun e => e ▸ hlt) (fun hm => M.lt_trans hlt (h1 m hm)), h⟩
    · rename_i hlt
      refine List.pairwise_cons.2 ⟨fun m hm => ?_, rins_up h2 (fun m hm => hne m (by simp [hm]))⟩
      rcases mem_rins.1 hm with rfl | hm
      · exact M.lt_or (fun e => hne x (by simp) e.symm) hlt
      · exact h1 m hm

def mark (D : List RN) (i : Nat) : List RN := D.set i { D.getD i default with inn := true }
def rwant (D : List RN) (n : RN) : Bool := !n.inn && rready D n.ps
def rnext (D : List RN) : Option Nat := D.findIdx? (rwant D)
def rsettle : Nat → List RN → List Bs → List RN × List Bs
  | 0, D, out => (D, out)
  | n + 1, D, out => match rnext D with
    | none => (D, out)
    | some i => rsettle n (mark D i) (out ++ [(D.getD i default).id])
def waits (D : List RN) : Nat := D.countP fun n => !n.inn
theorem rcells_mark {D : List RN} {i : Nat} (hi : i < D.length) : rcells (mark D i) = (rcells D).set (i * 3 + 2) (.bool true) := by
  unfold mark
  have key : ∀ (D : List RN) (i : Nat) (n : RN), i < D.length → n.id = (D.getD i default).id → n.pv = (D.getD i default).pv → n.inn = true → rcells (D.set i n) = (rcells D).set (i * 3 + 2) (.bool true) := by
    intro D
    induction D with
    | nil => intro i n h; simp at h
    | cons m r ih =>
      intro i n h e1 e2 e3
      cases i with
      | zero =>
        simp only [List.getD_cons_zero] at e1 e2
        simp [rcells, RN.cells, e1, e2, e3]
      | succ i =>
        have := ih i n (by simpa using h) (by simpa using e1) (by simpa using e2) e3
        show m.cells ++ rcells (r.set i n) = (m.cells ++ rcells r).set ((i + 1) * 3 + 2) (.bool true)
        rw [this, List.set_append_right _ _ (by simp [RN.cells]; omega)]
        simp [RN.cells]
        congr 1; omega
  exact key D i _ hi rfl rfl rfl
theorem waits_mark {D : List RN} {i : Nat} (hi : i < D.length) (hn : (D.getD i default).inn = false) : waits (mark D i) + 1 = waits D := by
  unfold waits mark
  have key : ∀ (D : List RN) (i : Nat) (n : RN), i < D.length → (D.getD i default).inn = false → n.inn = true → (D.set i n).countP (fun n => !n.inn) + 1 = D.countP (fun n => !n.inn) := by
    intro D
    induction D with
    | nil => intro i n h; simp at h
    | cons m r ih =>
      intro i n h e1 e2
      cases i with
      | zero =>
        simp only [List.getD_cons_zero] at e1
        simp [List.countP_cons, e1, e2]
      | succ i =>
        have := ih i n (by simpa using h) (by simpa using e1) e2
        simp only [List.set_cons_succ, List.countP_cons]
        omega
  exact key D i _ hi hn rfl
end Go.Proofs.Ytccpblefebjadaa
