/- The graph of what stands on what, as lists: keys rising, parents, levels; what 'Add' does. Plain lists: no Go, no memory. -/
namespace Go.Proofs.Ytccpblefebjadaa.M

abbrev Bs := List UInt8
abbrev AL (α : Type) := List (Bs × α)

def get {α : Type} : AL α → Bs → Option α
  | [], _ => none
  | (x, v) :: r, k => if k = x then some v else get r k
def ins {α : Type} (k : Bs) (v : α) : AL α → AL α
  | [] => [(k, v)]
  | (x, u) :: r => if k = x then (k, v) :: r else if k < x then (k, v) :: (x, u) :: r else (x, u) :: ins k v r
def rem {α : Type} (k : Bs) : AL α → AL α
  | [] => []
  | (x, u) :: r => if k = x then r else (x, u) :: rem k r
def Rising {α : Type} (l : AL α) : Prop := l.Pairwise fun p q => p.1 < q.1
def keys {α : Type} (l : AL α) : List Bs := l.map (·.1)

theorem lt_irrefl (x : Bs) : ¬ x < x := List.lt_irrefl x
theorem lt_trans {x y z : Bs} (h : x < y) (h' : y < z) : x < z := List.lt_trans h h'
theorem lt_or {x y : Bs} (h : x ≠ y) (h' : ¬ x < y) : y < x :=
  Decidable.byContradiction fun hn => h (List.le_antisymm (List.not_lt.1 hn) (List.not_lt.1 h'))

section
variable {α : Type}
theorem mem_keys_ins {k : Bs} {v : α} {x : Bs} : ∀ {l : AL α}, x ∈ keys (ins k v l) ↔ x = k ∨ x ∈ keys l
  | [] => by simp [ins, keys]
  | (y, u) :: r => by
    have ih := mem_keys_ins (k := k) (v := v) (x := x) (l := r)
    simp only [keys] at ih ⊢
    unfold ins
    split
    · subst k; simp
    · split
      · simp
      · simp only [List.map_cons, List.mem_cons, ih]
        constructor
        · rintro (h | h | h)
          · exact .inr (.inl h)
          · exact .inl h
          · exact .inr (.inr h)
        · rintro (h | h | h)
          · exact .inr (.inl h)
          · exact .inl h
          · exact .inr (.inr h)
theorem rising_cons {p : Bs × α} {l : AL α} : Rising (p :: l) ↔ (∀ x ∈ keys l, p.1 < x) ∧ Rising l := by
  unfold Rising keys
  rw [List.pairwise_cons]
  constructor
  · rintro ⟨h1, h2⟩
    exact ⟨fun x hx => by obtain ⟨q, hq, rfl⟩ := List.mem_map.1 hx; exact h1 q hq, h2⟩
  · rintro ⟨h1, h2⟩
    exact ⟨fun q hq => h1 _ (List.mem_map.2 ⟨q, hq, rfl⟩), h2⟩
theorem rising_nil : Rising ([] : AL α) := List.Pairwise.nil
theorem rising_ins {k : Bs} {v : α} : ∀ {l : AL α}, Rising l → Rising (ins k v l)
  | [], _ => by simp [ins, Rising]
  | (y, u) :: r, h => by
    obtain ⟨h1, h2⟩ := rising_cons.1 h
    unfold ins
    split
    · rename_i e
      subst k
      exact rising_cons.2 ⟨h1, h2⟩
    · rename_i e
      split
      · rename_i hlt
        refine rising_cons.2 ⟨fun x hx => ?_, h⟩
        simp only [keys, List.map_cons, List.mem_cons] at hx
        rcases hx with rfl | hx
        · exact hlt
        · exact lt_trans hlt (h1 x hx)
      · rename_i hlt
        refine rising_cons.2 ⟨fun x hx => ?_, rising_ins h2⟩
        rcases mem_keys_ins.1 hx with rfl | hx
        · exact lt_or e hlt
        · exact h1 x hx
theorem keys_rem_sub {k x : Bs} : ∀ {l : AL α}, x ∈ keys (rem k l) → x ∈ keys l
  | [], h => h
  | (y, u) :: r, h => by
    unfold rem at h
    split at h
    · simp only [keys, List.map_cons, List.mem_cons]; exact .inr h
    · simp only [keys, List.map_cons, List.mem_cons] at h ⊢
      exact h.imp id keys_rem_sub
theorem rising_rem {k : Bs} : ∀ {l : AL α}, Rising l → Rising (rem k l)
  | [], _ => rising_nil
  | (y, u) :: r, h => by
    obtain ⟨h1, h2⟩ := rising_cons.1 h
    unfold rem
    split
    · exact h2
    · exact rising_cons.2 ⟨fun x hx => h1 x (keys_rem_sub hx), rising_rem h2⟩
theorem get_none {k : Bs} : ∀ {l : AL α}, k ∉ keys l → get l k = none
  | [], _ => rfl
  | (y, u) :: r, h => by
    simp only [keys, List.map_cons, List.mem_cons, not_or] at h
    unfold get
    rw [if_neg h.1]
    exact get_none h.2
theorem isSome_get {k : Bs} : ∀ {l : AL α}, (get l k).isSome = true ↔ k ∈ keys l
  | [] => by simp [get, keys]
  | (y, u) :: r => by
    unfold get
    split
    · subst k; simp [keys]
    · rename_i h
      rw [isSome_get]
      simp [keys, h]
theorem get_ins {k x : Bs} {v : α} : ∀ {l : AL α}, get (ins k v l) x = if x = k then some v else get l x
  | [] => by simp [ins, get]
  | (y, u) :: r => by
    unfold ins
    split
    · rename_i e
      subst k
      simp only [get]
      split <;> rfl
    · rename_i e
      split
      · simp only [get]
      · simp only [get]
        rw [get_ins (l := r)]
        by_cases h1 : x = y
        · subst h1; simp [Ne.symm e]
        · simp [h1]
theorem get_rem {k x : Bs} : ∀ {l : AL α}, Rising l → get (rem k l) x = if x = k then none else get l x
  | [], _ => by simp [rem, get]
  | (y, u) :: r, h => by
    obtain ⟨h1, h2⟩ := rising_cons.1 h
    unfold rem
    split
    · rename_i e
      subst k
      simp only [get]
      split
      · subst x
        exact get_none fun hx => lt_irrefl _ (h1 _ hx)
      · rfl
    · rename_i e
      simp only [get]
      rw [get_rem h2]
      by_cases h3 : x = y
      · subst h3; simp [Ne.symm e]
      · simp [h3]
theorem mem_get {k : Bs} {v : α} : ∀ {l : AL α}, Rising l → ((k, v) ∈ l ↔ get l k = some v)
  | [], _ => by simp [get]
  | (y, u) :: r, h => by
    obtain ⟨h1, h2⟩ := rising_cons.1 h
    simp only [get, List.mem_cons, Prod.mk.injEq]
    split
    · subst k
      constructor
      · rintro (⟨_, e⟩ | hm)
        · rw [e]
        · exact absurd (h1 y (List.mem_map.2 ⟨(y, v), hm, rfl⟩)) (lt_irrefl y)
      · intro e; cases e; exact .inl ⟨rfl, rfl⟩
    · rename_i hne
      rw [← mem_get h2]
      constructor
      · rintro (⟨e, _⟩ | hm)
        · exact absurd e hne
        · exact hm
      · exact .inr
theorem length_ins_new {k : Bs} {v : α} : ∀ {l : AL α}, k ∉ keys l → (ins k v l).length = l.length + 1
  | [], _ => rfl
  | (y, u) :: r, h => by
    simp only [keys, List.map_cons, List.mem_cons, not_or] at h
    unfold ins
    rw [if_neg h.1]
    split
    · rfl
    · simp [length_ins_new h.2]
theorem length_rem_old {k : Bs} : ∀ {l : AL α}, k ∈ keys l → (rem k l).length + 1 = l.length
  | [], h => by simp [keys] at h
  | (y, u) :: r, h => by
    unfold rem
    split
    · rfl
    · rename_i e
      simp only [keys, List.map_cons, List.mem_cons] at h
      simp [length_rem_old (h.resolve_left e)]
theorem nodup_keys {l : AL α} (h : Rising l) : (keys l).Nodup := by
  unfold keys
  refine List.pairwise_map.2 (h.imp fun {p q} hlt e => ?_)
  rw [e] at hlt
  exact lt_irrefl _ hlt
theorem sorted_keys {l : AL α} (h : Rising l) : (keys l).Pairwise (· < ·) := List.pairwise_map.2 h
end

/-- Two rising lists with the same members are one. -/
theorem rising_ext : ∀ {l l' : List Bs}, l.Pairwise (· < ·) → l'.Pairwise (· < ·) → (∀ x, x ∈ l ↔ x ∈ l') → l = l'
  | [], [], _, _, _ => rfl
  | [], b :: s, _, _, h => by have := (h b).2 (by simp); simp at this
  | a :: r, [], _, _, h => by have := (h a).1 (by simp); simp at this
  | a :: r, b :: s, h1, h2, h => by
    obtain ⟨a1, a2⟩ := List.pairwise_cons.1 h1
    obtain ⟨b1, b2⟩ := List.pairwise_cons.1 h2
    have hab : a = b := by
      rcases List.mem_cons.1 ((h a).1 (by simp)) with e | ha
      · exact e
      · rcases List.mem_cons.1 ((h b).2 (by simp)) with e | hb
        · exact e.symm
        · exact absurd (lt_trans (a1 b hb) (b1 a ha)) (lt_irrefl a)
    subst hab
    rw [rising_ext a2 b2 (fun p => ⟨fun hp => by
      rcases List.mem_cons.1 ((h p).1 (by simp [hp])) with e | hp'
      · exact absurd (e ▸ a1 p hp) (lt_irrefl _)
      · exact hp', fun hp => by
      rcases List.mem_cons.1 ((h p).2 (by simp [hp])) with e | hp'
      · exact absurd (e ▸ b1 p hp) (lt_irrefl _)
      · exact hp'⟩)]

/-- a list with one more, each once, rising. -/
def insU (k : Bs) : List Bs → List Bs
  | [] => [k]
  | x :: r => if k = x then x :: r else if k < x then k :: x :: r else x :: insU k r
/-- rising, each once. -/
def norm (l : List Bs) : List Bs := l.foldr insU []
theorem mem_insU {k x : Bs} : ∀ {l : List Bs}, x ∈ insU k l ↔ x = k ∨ x ∈ l
  | [] => by simp [insU]
  | y :: r => by
    unfold insU
    split
    · subst k; simp
    · split
      · simp
      · simp only [List.mem_cons, mem_insU (l := r)]
        constructor
        · rintro (h | h | h)
          · exact .inr (.inl h)
          · exact .inl h
          · exact .inr (.inr h)
        · rintro (h | h | h)
          · exact .inr (.inl h)
          · exact .inl h
          · exact .inr (.inr h)
theorem rising_insU {k : Bs} : ∀ {l : List Bs}, l.Pairwise (· < ·) → (insU k l).Pairwise (· < ·)
  | [], _ => by simp [insU]
  | y :: r, h => by
    obtain ⟨h1, h2⟩ := List.pairwise_cons.1 h
    unfold insU
    split
    · exact h
    · rename_i e
      split
      · rename_i hlt
        refine List.pairwise_cons.2 ⟨fun x hx => ?_, h⟩
        rcases List.mem_cons.1 hx with rfl | hx
        · exact hlt
        · exact lt_trans hlt (h1 x hx)
      · rename_i hlt
        refine List.pairwise_cons.2 ⟨fun x hx => ?_, rising_insU h2⟩
        rcases mem_insU.1 hx with rfl | hx
        · exact lt_or e hlt
        · exact h1 x hx
theorem mem_norm {x : Bs} : ∀ {l : List Bs}, x ∈ norm l ↔ x ∈ l
  | [] => by simp [norm]
  | y :: r => by
    have ih := mem_norm (x := x) (l := r)
    unfold norm at ih ⊢
    rw [List.foldr_cons, mem_insU, ih, List.mem_cons]
theorem rising_norm : ∀ (l : List Bs), (norm l).Pairwise (· < ·)
  | [] => by simp [norm]
  | y :: r => by
    have ih := rising_norm r
    unfold norm at ih ⊢
    rw [List.foldr_cons]
    exact rising_insU ih
theorem length_insU (k : Bs) : ∀ (l : List Bs), (insU k l).length ≤ l.length + 1
  | [] => by simp [insU]
  | y :: r => by
    have ih := length_insU k r
    unfold insU
    split
    · simp
    · split <;> simp; omega
theorem length_norm : ∀ (l : List Bs), (norm l).length ≤ l.length
  | [] => by simp [norm]
  | y :: r => by
    have ih := length_norm r
    have h := length_insU y (norm r)
    unfold norm at ih h ⊢
    rw [List.foldr_cons, List.length_cons]
    omega

structure Graph where
  inn : AL (List Bs × Nat)
  wai : AL (List Bs)
def Graph.empty : Graph := ⟨[], []⟩

def Graph.has (G : Graph) (x : Bs) : Bool := (get G.inn x).isSome
def Graph.ready (G : Graph) (ps : List Bs) : Bool := ps.all G.has
def Graph.lev (G : Graph) (x : Bs) : Nat := ((get G.inn x).map (·.2)).getD 0
def Graph.levOf (G : Graph) (ps : List Bs) : Nat := ps.foldl (fun l p => max l (G.lev p + 1)) 0
def Graph.enter (G : Graph) (x : Bs) (ps : List Bs) : Graph := ⟨ins x (ps, G.levOf ps) G.inn, rem x G.wai⟩
def Graph.next (G : Graph) : Option (Bs × List Bs) := G.wai.find? fun e => G.ready e.2
def Graph.settle : Nat → Graph → List Bs → Graph × List Bs
  | 0, G, out => (G, out)
  | n + 1, G, out => match G.next with
    | none => (G, out)
    | some e => Graph.settle n (G.enter e.1 e.2) (out ++ [e.1])
def Graph.add (G : Graph) (x : Bs) (ps : List Bs) : Graph × List Bs :=
  if (get G.wai x).isSome || G.has x then (G, []) else
  if G.ready (norm ps) then Graph.settle (G.enter x (norm ps)).wai.length (G.enter x (norm ps)) [x] else (⟨G.inn, ins x (norm ps) G.wai⟩, [])
def Graph.parents (G : Graph) (x : Bs) : List Bs := ((get G.inn x).map (·.1)).getD []
def Graph.level (G : Graph) (x : Bs) : Int := if G.has x then (G.lev x : Int) else -1
/-- who is in, rising. -/
def Graph.ids (G : Graph) : List Bs := keys G.inn
def Graph.waiting (G : Graph) : List Bs := keys G.wai

/-- What holds of every graph that is made. -/
structure Graph.Ok (G : Graph) : Prop where
  ri : Rising G.inn
  rw : Rising G.wai
  apart : ∀ x, x ∈ keys G.inn → x ∉ keys G.wai
  ki : ∀ x ∈ keys G.inn, x.length ≤ 1000
  kw : ∀ x ∈ keys G.wai, x.length ≤ 1000
  lev : ∀ x p, get G.inn x = some p → p.2 < G.inn.length
  cl : ∀ x p, get G.inn x = some p → G.ready p.1 = true
  lv : ∀ x p, get G.inn x = some p → p.2 = G.levOf p.1
theorem Graph.Ok.empty : Graph.empty.Ok := ⟨rising_nil, rising_nil, by simp [Graph.empty, keys], by simp [Graph.empty, keys], by simp [Graph.empty, keys], by simp [Graph.empty, get], by simp [Graph.empty, get], by simp [Graph.empty, get]⟩
theorem levOf_congr {f h : Bs → Nat} (ps : List Bs) (e : ∀ p ∈ ps, f p = h p) : ∀ a, ps.foldl (fun l p => max l (f p + 1)) a = ps.foldl (fun l p => max l (h p + 1)) a := by
  induction ps with
  | nil => intro a; rfl
  | cons p r ih =>
    intro a
    simp only [List.foldl_cons]
    rw [e p (by simp)]
    exact ih (fun q hq => e q (by simp [hq])) _
theorem Graph.has_enter {G : Graph} {x : Bs} {ps : List Bs} {y : Bs} : (G.enter x ps).has y = (decide (y = x) || G.has y) := by
  unfold Graph.has
  rw [show (G.enter x ps).inn = ins x (ps, G.levOf ps) G.inn from rfl, get_ins]
  split
  · simp [*]
  · simp [*]
theorem Graph.lev_enter {G : Graph} {x : Bs} {ps : List Bs} {y : Bs} (h : y ≠ x) : (G.enter x ps).lev y = G.lev y := by
  unfold Graph.lev
  rw [show (G.enter x ps).inn = ins x (ps, G.levOf ps) G.inn from rfl, get_ins, if_neg h]
theorem Graph.levOf_enter {G : Graph} {x : Bs} {ps qs : List Bs} (hn : x ∉ keys G.inn) (hr : G.ready qs = true) : (G.enter x ps).levOf qs = G.levOf qs :=
  levOf_congr qs (fun q hq => Graph.lev_enter (by
    rintro rfl
    have := List.all_eq_true.1 hr q hq
    exact hn (isSome_get.1 this))) 0
theorem Graph.ready_enter {G : Graph} {x : Bs} {ps qs : List Bs} (hr : G.ready qs = true) : (G.enter x ps).ready qs = true :=
  List.all_eq_true.2 fun q hq => by rw [Graph.has_enter, List.all_eq_true.1 hr q hq]; simp
theorem Graph.Ok.lev_le {G : Graph} (h : G.Ok) (x : Bs) : G.lev x ≤ G.inn.length := by
  unfold Graph.lev
  cases hx : get G.inn x with
  | none => simp
  | some p => simpa using Nat.le_of_lt (h.lev x p hx)
theorem Graph.lev_lt {G : Graph} (h : G.Ok) {x : Bs} (hx : G.has x = true) : G.lev x < G.inn.length := by
  unfold Graph.has at hx
  unfold Graph.lev
  cases hg : get G.inn x with
  | none => rw [hg] at hx; cases hx
  | some p => simpa using h.lev x p hg
theorem levOf_le (f : Bs → Nat) (B : Nat) (ps : List Bs) (h : ∀ p ∈ ps, f p + 1 ≤ B) : ∀ a, a ≤ B → ps.foldl (fun l p => max l (f p + 1)) a ≤ B := by
  induction ps with
  | nil => intro a ha; exact ha
  | cons p r ih => intro a ha; exact ih (fun q hq => h q (by simp [hq])) _ (by have := h p (by simp); show max a (f p + 1) ≤ B; omega)
theorem Graph.Ok.enter {G : Graph} (h : G.Ok) {x : Bs} {ps : List Bs} (hx : x.length ≤ 1000) (hn : x ∉ keys G.inn) (hr : G.ready ps = true) : (G.enter x ps).Ok where
  ri := rising_ins h.ri
  rw := rising_rem h.rw
  apart y hy hw := by
    have hw' := keys_rem_sub hw
    rcases mem_keys_ins.1 hy with rfl | hy
    · have h1 := isSome_get.2 hw
      rw [show (G.enter y ps).wai = rem y G.wai from rfl, get_rem h.rw, if_pos rfl] at h1
      cases h1
    · exact h.apart y hy hw'
  ki y hy := by
    rcases mem_keys_ins.1 hy with rfl | hy
    · exact hx
    · exact h.ki y hy
  kw y hy := h.kw y (keys_rem_sub hy)
  lev y p hp := by
    have hlen : (G.enter x ps).inn.length = G.inn.length + 1 := length_ins_new hn
    rw [hlen]
    have hp' : get (ins x (ps, G.levOf ps) G.inn) y = some p := hp
    rw [get_ins] at hp'
    split at hp'
    · cases hp'
      have : G.levOf ps ≤ G.inn.length := levOf_le G.lev G.inn.length ps (fun q hq => Graph.lev_lt h (List.all_eq_true.1 hr q hq)) 0 (by omega)
      simp only; omega
    · have := h.lev y p hp'; omega
  cl y p hp := by
    have hp' : get (ins x (ps, G.levOf ps) G.inn) y = some p := hp
    rw [get_ins] at hp'
    split at hp'
    · cases hp'; exact Graph.ready_enter hr
    · exact Graph.ready_enter (h.cl y p hp')
  lv y p hp := by
    have hp' : get (ins x (ps, G.levOf ps) G.inn) y = some p := hp
    rw [get_ins] at hp'
    split at hp'
    · cases hp'; exact (Graph.levOf_enter hn hr).symm
    · rw [Graph.levOf_enter hn (h.cl y p hp')]; exact h.lv y p hp'
theorem Graph.Ok.wait {G : Graph} (h : G.Ok) {x : Bs} {ps : List Bs} (hx : x.length ≤ 1000) (hn : x ∉ keys G.inn) : Graph.Ok ⟨G.inn, ins x ps G.wai⟩ where
  ri := h.ri
  rw := rising_ins h.rw
  apart y hy hw := by
    rcases mem_keys_ins.1 hw with rfl | hw
    · exact hn hy
    · exact h.apart y hy hw
  ki := h.ki
  kw y hy := by
    rcases mem_keys_ins.1 hy with rfl | hy
    · exact hx
    · exact h.kw y hy
  lev := h.lev
  cl := h.cl
  lv := h.lv
theorem Graph.next_mem {G : Graph} {e : Bs × List Bs} (h : G.next = some e) : e ∈ G.wai ∧ G.ready e.2 = true := ⟨List.mem_of_find?_eq_some h, by simpa using List.find?_some h⟩
theorem mem_keys {α : Type} {l : AL α} {e : Bs × α} (h : e ∈ l) : e.1 ∈ keys l := List.mem_map.2 ⟨e, h, rfl⟩
theorem Graph.Ok.next {G : Graph} (h : G.Ok) {e : Bs × List Bs} (he : G.next = some e) : (G.enter e.1 e.2).Ok :=
  let ⟨h1, h2⟩ := Graph.next_mem he
  h.enter (h.kw _ (mem_keys h1)) (fun hi => h.apart _ hi (mem_keys h1)) h2
theorem Graph.Ok.settle : ∀ (n : Nat) {G : Graph} (_ : G.Ok) (out : List Bs), (Graph.settle n G out).1.Ok
  | 0, _, h, _ => h
  | n + 1, G, h, out => by
    unfold Graph.settle
    split
    · exact h
    · rename_i e he
      exact Graph.Ok.settle n (h.next he) _
theorem Graph.count_next {G : Graph} (h : G.Ok) {e : Bs × List Bs} (he : G.next = some e) : (G.enter e.1 e.2).inn.length = G.inn.length + 1 ∧ (G.enter e.1 e.2).wai.length + 1 = G.wai.length := by
  obtain ⟨h1, h2⟩ := Graph.next_mem he
  exact ⟨length_ins_new (fun hi => h.apart _ hi (mem_keys h1)), length_rem_old (mem_keys h1)⟩
theorem Graph.count_settle : ∀ (n : Nat) {G : Graph} (_ : G.Ok) (out : List Bs), (Graph.settle n G out).1.inn.length + (Graph.settle n G out).1.wai.length = G.inn.length + G.wai.length
  | 0, _, _, _ => rfl
  | n + 1, G, h, out => by
    unfold Graph.settle
    split
    · rfl
    · rename_i e he
      have := Graph.count_next h he
      rw [Graph.count_settle n (h.next he)]; omega
/-- With as many rounds as there are that wait, or more, it is settled. -/
theorem Graph.settle_done : ∀ (n : Nat) {G : Graph} (_ : G.Ok) (_ : G.wai.length ≤ n) (out : List Bs), (Graph.settle n G out).1.next = none
  | 0, G, _, hn, out => by
    have : G.wai = [] := List.eq_nil_of_length_eq_zero (by omega)
    simp [Graph.settle, Graph.next, this]
  | n + 1, G, h, hn, out => by
    unfold Graph.settle
    split
    · assumption
    · rename_i e he
      have := Graph.count_next h he
      exact Graph.settle_done n (h.next he) (by omega) _
/-- .. and more rounds do nothing. -/
theorem Graph.settle_more : ∀ (n : Nat) {G : Graph} (_ : G.Ok) (_ : G.wai.length ≤ n) (m : Nat) (_ : G.wai.length ≤ m) (out : List Bs), Graph.settle n G out = Graph.settle m G out
  | 0, G, h, hn, m, hm, out => by
    have : G.wai = [] := List.eq_nil_of_length_eq_zero (by omega)
    cases m with
    | zero => rfl
    | succ m => simp [Graph.settle, Graph.next, this]
  | n + 1, G, h, hn, m, hm, out => by
    cases m with
    | zero =>
      have : G.wai = [] := List.eq_nil_of_length_eq_zero (by omega)
      simp [Graph.settle, Graph.next, this]
    | succ m =>
      unfold Graph.settle
      split
      · rfl
      · rename_i e he
        have := Graph.count_next h he
        exact Graph.settle_more n (h.next he) (by omega) m (by omega) _
theorem Graph.Ok.add {G : Graph} (h : G.Ok) {x : Bs} (hx : x.length ≤ 1000) (ps : List Bs) : (G.add x ps).1.Ok := by
  unfold Graph.add
  split
  · exact h
  · rename_i hn
    have hi : x ∉ keys G.inn := fun hi => hn (by simp [Graph.has, isSome_get.2 hi])
    split
    · rename_i hr
      exact Graph.Ok.settle _ (h.enter hx hi hr) _
    · exact h.wait hx hi
theorem Graph.count_add {G : Graph} (h : G.Ok) {x : Bs} (hx : x.length ≤ 1000) (ps : List Bs) : (G.add x ps).1.inn.length + (G.add x ps).1.wai.length ≤ G.inn.length + G.wai.length + 1 := by
  unfold Graph.add
  split
  · simp
  · rename_i hn
    have hi : x ∉ keys G.inn := fun hi => hn (by simp [Graph.has, isSome_get.2 hi])
    have hw : x ∉ keys G.wai := fun hi => hn (by simp [isSome_get.2 hi])
    split
    · rename_i hr
      rw [Graph.count_settle _ (h.enter hx hi hr)]
      have h1 : (G.enter x (norm ps)).inn.length = G.inn.length + 1 := length_ins_new hi
      have h2 : (rem x G.wai).length ≤ G.wai.length := by
        clear h1
        have : ∀ l : AL (List Bs), (rem x l).length ≤ l.length := by
          intro l
          induction l with
          | nil => simp [rem]
          | cons p r ih => obtain ⟨y, u⟩ := p; unfold rem; split <;> simp <;> omega
        exact this _
      have h3 : (G.enter x (norm ps)).wai = rem x G.wai := rfl
      rw [h3]; omega
    · simp only [length_ins_new hw]; omega

end Go.Proofs.Ytccpblefebjadaa.M
