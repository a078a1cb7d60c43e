/- The reference's Below, Above. -/
import Derived.Test.YtccpblefebjadaaC8
namespace Go.Proofs.Ytccpblefebjadaa
open Go.RowKit Go.Maps Go.WideMaps Go.Sort Go.Shelf
open Go.Proofs (encStr)
open M (Rising keys get Graph Stands Searched)

theorem nodup_len : ∀ (l m : List Bs), l.Nodup → (∀ x ∈ l, x ∈ m) → l.length ≤ m.length
  | [], m, _, _ => Nat.zero_le _
  | x :: l, m, h, hs => by
    obtain ⟨h1, h2⟩ := List.nodup_cons.1 h
    have hx := hs x (by simp)
    have := nodup_len l (m.erase x) h2 (fun y hy => (List.mem_erase_of_ne (fun (e : y = x) => h1 (by rw [← e]; exact hy))).2 (hs y (by simp [hy])))
    rw [List.length_erase_of_mem hx] at this
    have hp : 0 < m.length := List.length_pos_of_mem hx
    simp only [List.length_cons]; omega
theorem nodup_up {l : List Bs} (h : l.Pairwise (· < ·)) : l.Nodup := h.imp (fun {a b} hlt e => by rw [e] at hlt; exact M.lt_irrefl _ hlt)

/-- s steps down from b. -/
inductive SP (D : List RN) (b : Bs) : Nat → Bs → Prop where
  | self : SP D b 0 b
  | step {s : Nat} {x p : Bs} : SP D b s x → p ∈ rpar D x → SP D b (s + 1) p

structure BelowOk (D : List RN) (b : Bs) (o : List Bs) : Prop where
  up : o.Pairwise (· < ·)
  sp : ∀ x ∈ o, ∃ s, SP D b s x
  pl : ∀ x ∈ o, x ∈ D.map (·.id)
theorem BelowOk.len {D : List RN} {b : Bs} {o : List Bs} (h : BelowOk D b o) : o.length ≤ D.length := by
  have := nodup_len o (D.map (·.id)) (nodup_up h.up) h.pl
  simpa using this
theorem place_mem {D : List RN} {x : Bs} {i : Nat} (h : place D x = some i) : x ∈ D.map (·.id) := by
  obtain ⟨hi, hx⟩ := place_at h
  exact List.mem_map.2 ⟨_, rmem hi, hx⟩
theorem rpar_placed {D : List RN} {L : Nat → Nat} (hL : LevOk D L) {x p : Bs} (h : p ∈ rpar D x) : ∃ i j, place D x = some i ∧ place D p = some j ∧ L j + 1 ≤ L i ∧ (D.getD i default).inn = true := by
  unfold rpar at h
  cases hp : place D x with
  | none => rw [hp] at h; simp at h
  | some i =>
    rw [hp] at h
    simp only at h
    split at h
    · rename_i hin
      obtain ⟨j, hj, hl⟩ := hL.l1 i (place_at hp).1 hin p h
      exact ⟨i, j, rfl, hj, hl, hin⟩
    · simp at h
theorem BelowOk.put {D : List RN} {L : Nat → Nat} (hL : LevOk D L) {b : Bs} {o : List Bs} (h : BelowOk D b o) {x p : Bs} (hx : x ∈ o) (hp : p ∈ rpar D x) : BelowOk D b (M.insU p o) where
  up := M.rising_insU h.up
  sp y hy := by
    rcases M.mem_insU.1 hy with rfl | hy
    · obtain ⟨s, hs⟩ := h.sp x hx; exact ⟨s + 1, .step hs hp⟩
    · exact h.sp y hy
  pl y hy := by
    rcases M.mem_insU.1 hy with rfl | hy
    · obtain ⟨i, j, _, hj, _⟩ := rpar_placed hL hp; exact place_mem hj
    · exact h.pl y hy

/-- No chain is longer than the level it starts at. -/
theorem SP.short {D : List RN} {L : Nat → Nat} (hL : LevOk D L) {b : Bs} {i : Nat} (hb : place D b = some i) {s : Nat} {y : Bs} (h : SP D b s y) : ∃ j, place D y = some j ∧ L j + s ≤ L i := by
  induction h with
  | self => exact ⟨i, hb, by omega⟩
  | step _ hp ih =>
    obtain ⟨j, hj, hl⟩ := ih
    obtain ⟨i', j', h1, h2, h3, _⟩ := rpar_placed hL hp
    rw [hj] at h1; cases h1
    exact ⟨j', h2, by omega⟩

theorem strs_unit (w : World) (x : Bs) (hx : x.length ≤ 1000) : Strs (w.alloc (.cells #[encStr x] 30)) (fun _ => True) (.slice (some ⟨w.heap.size, 0, none⟩) 1 1) [x] :=
  ⟨_, 1, rfl, fun _ => ⟨w.heap.size, 0, rfl, trivial, by simp, fun j hj => by
    obtain rfl : j = 0 := by simp at hj; exact hj
    have := World.alloc_heap_new w (.cells #[encStr x] 30)
    unfold World.cell?; rw [this]; rfl⟩, by simpa using hx, by simp⟩

theorem strs_fm {w : World} {S : Nat → Prop} {v : Value} {l : List Bs} (h : Strs w S v l) : ∃ A c, v = .slice A l.length c ∧ l.length ≤ 1000 := by
  obtain ⟨A, c, rfl, _, _, hl⟩ := h
  exact ⟨A, c, rfl, hl⟩

def RBelowPost (w : World) (D : List RN) (b : Bs) (e : Ending) (w' : World) : Prop := ∃ u o, e = .returned u ∧ Strs w' (fun _ => True) u o ∧ Below w.heap.size w w' ∧ ((rhas D b = true ∧ ∀ y, y ∈ o ↔ ∃ s, SP D b s y) ∨ (rhas D b = false ∧ o = []))

set_option maxRecDepth 100000 in
set_option maxHeartbeats 4000000 in
theorem rbelow_walk (w : World) {R : Nat → Prop} {r : Nat} {v : Value} {D : List RN} (h : RefAt w R r v D) {L : Nat → Nat} (hL : LevOk D L) (b : Bs) (hb1 : b.length ≤ 1000) : Calls Try.prog 48 #[.pointer (some ⟨r, 0, none⟩), encStr b] w (RBelowPost w D b) := by
  have hh := rhas_walk w h b
  cases hb : rhas D b with
  | false =>
    rw [hb] at hh
    have HH := Lib.hid hh
    have HB := Lib.hid hb
    clear hh hb h
    simp only [encStr_eq] at HH ⊢
    go_enter Try.func48, Try.ntmps48
    go_wp2_with fail
    refine HH.out.mono ?_
    rintro e w' ⟨rfl, rfl⟩
    go_wp2
    go_ret
    exact ⟨_, [], rfl, ⟨none, 0, rfl, fun h => absurd h (by simp), by simp, by simp⟩, Below.refl _ _, .inr ⟨HB.out, rfl⟩⟩
  | true =>
    rw [hb] at hh
    have hp : ∃ i, place D b = some i := by
      unfold rhas at hb
      cases hp : place D b with
      | none => rw [hp] at hb; cases hb
      | some i => exact ⟨i, rfl⟩
    obtain ⟨ib, hpb⟩ := hp
    have hlen := h.len
    have hids := h.ids
    have hs1 := (strs_unit w b hb1)
    have hstart : BelowOk D b [b] := ⟨by simp, fun x hx => by simp at hx; subst hx; exact ⟨0, .self⟩, fun x hx => by simp at hx; subst hx; exact place_mem hpb⟩
    have hbel0 : Below w.heap.size w (w.alloc (.cells #[encStr b] 30)) := (Below.refl _ _).alloc (Nat.le_refl _) _
    obtain ⟨A, cap, rfl⟩ := h.form
    have HH := Lib.hid hh
    have H := Lib.hid (And.intro h (And.intro hL (And.intro hb (And.intro hpb hids))))
    have HS := Lib.hid (And.intro hs1 (And.intro hstart hbel0))
    clear hh hb h hL hpb hs1 hstart hbel0 hids
    simp only [encStr_eq] at HH HS ⊢
    go_enter Try.func48, Try.ntmps48
    go_wp2_with fail
    refine HH.out.mono ?_
    rintro e w' ⟨rfl, rfl⟩
    go_wp2
    go_loopg [6, 7, 8, 9, 10, 11] D.length (fun d s6 s7 s8 s9 s10 s11 wr => ∃ (t : Nat) (o : List Bs), t + d = D.length ∧ s7 = .int .i64 t ∧ Aside (Strs wr (fun _ => True) s6 o ∧ BelowOk D b o ∧ (∀ s, s ≤ t → ∀ y, SP D b s y → y ∈ o) ∧ Below w.heap.size w wr))
    case atStart => exact ⟨0, [b], by omega, rfl, HS.out.1, HS.out.2.1, (fun s hs y hy => by obtain rfl : s = 0 := by omega
                                                                                             cases hy; simp), HS.out.2.2⟩
    case round =>
      obtain ⟨t, o, ht, rfl, HO⟩ := hrel
      have hc := (H.out.1.below HO.out.2.2.2).cell
      cases gk with
      | zero =>
        obtain rfl : t = D.length := by omega
        have hf : ¬ ((D.length : Int) < (D.length : Int)) := by omega
        have HX : Hid (∀ y, y ∈ o ↔ ∃ s, SP D b s y) := Lib.hid (fun y => ⟨HO.out.2.1.sp y, fun ⟨s, hs⟩ => by
          obtain ⟨j, hj, hl⟩ := hs.short H.out.2.1 H.out.2.2.2.1
          have := H.out.2.1.l4 ib (place_at H.out.2.2.2.1).1
          exact HO.out.2.2.1 s (by omega) y hs⟩)
        go_wp2
        go_ret
        exact ⟨_, o, rfl, HO.out.1, HO.out.2.2.2, .inl ⟨H.out.2.2.1, HX.out⟩⟩
      | succ d =>
        have hf : ((t : Int) < (D.length : Int)) := by omega
        obtain ⟨Ao, co, rfl, _⟩ := id HO.out.1
        have hol := HO.out.2.1.len
        have HA := Lib.hid HO.out.1
        obtain ⟨w0, hw0⟩ : ∃ w0 : World, w0 = wr := ⟨_, rfl⟩
        subst hw0
        go_wp2
        go_loopg [6, 9, 10, 11] o.length (fun e s6 s9 s10 s11 wx => ∃ (i : Nat) (q : List Bs), i + e = o.length ∧ s9 = .int .i64 i ∧ Aside (Strs wx (fun _ => True) s6 q ∧ BelowOk D b q ∧ (∀ y ∈ o, y ∈ q) ∧ (∀ x ∈ o.take i, ∀ p ∈ rpar D x, p ∈ q) ∧ Below w0.heap.size w0 wx))
        case atStart => exact ⟨0, o, by omega, rfl, HO.out.1, HO.out.2.1, (fun y hy => hy), (fun x hx => by simp at hx), Below.refl _ _⟩
        case round =>
          obtain ⟨i, q, hi, rfl, HQ⟩ := hrel
          have hB := HO.out.2.2.2.trans (HQ.out.2.2.2.2.mono HO.out.2.2.2.size)
          cases gk with
          | zero =>
            obtain rfl : i = o.length := by omega
            have hf2 : ¬ ((o.length : Int) < (o.length : Int)) := by omega
            have HX : Hid (∀ s, s ≤ t + 1 → ∀ y, SP D b s y → y ∈ q) := Lib.hid (fun s hs y hy => by
              by_cases e : s ≤ t
              · exact HQ.out.2.2.1 y (HO.out.2.2.1 s e y hy)
              · obtain rfl : s = t + 1 := by omega
                cases hy with
                | step h1 h2 => exact HQ.out.2.2.2.1 _ (by rw [List.take_length]; exact HO.out.2.2.1 t (Nat.le_refl _) _ h1) _ h2)
            have HBB := Lib.hid hB
            clear hB
            go_wp2
            go_roundg d
            case measure => omega
            case rel => exact ⟨t + 1, q, by omega, by go_num, HQ.out.1, HQ.out.2.1, HX.out, HBB.out⟩
          | succ e =>
            have hf2 : ((i : Int) < (o.length : Int)) := by omega
            have hil : i < o.length := by omega
            obtain ⟨bo, oo, rfl⟩ := strs_adr HA.out (by omega)
            have c1 := strs_cell HA.out rfl HQ.out.2.2.2.2 hil
            have hmem := getD_mem hil
            have hpar := rpar_walk wr (H.out.1.below hB) (o.getD i [])
            have hpar' : Calls Try.prog (28 : Nat) #[.pointer (some ⟨r, 0, none⟩), encStr (o.getD i [])] wr (fun e w' => ∃ A c, e = .returned (.slice A (rpar D (o.getD i [])).length c) ∧ Aside (Strs w' (fun _ => True) (.slice A (rpar D (o.getD i [])).length c) (rpar D (o.getD i [])) ∧ Below wr.heap.size wr w')) := by
              refine hpar.mono ?_
              rintro e w' ⟨u, rfl, hu, hb⟩
              have hu' := hu.mono (T := fun _ => True) (fun _ _ => trivial)
              obtain ⟨A, c, rfl, _⟩ := hu
              exact ⟨A, c, rfl, hu', hb⟩
            have htk := take_succ_getD o i hil
            have HM := Lib.hid (And.intro hmem htk)
            have HPA := Lib.hid hpar'
            have HB := Lib.hid hB
            clear hpar hpar' hmem htk hB
            generalize o.getD i [] = x at *
            simp only [encStr_eq] at c1 HPA
            go_wp2_with fail
            refine HPA.out.mono ?_
            rintro e5 w5 ⟨Al, cl, rfl, H5⟩
            have hpl : ∃ l, rpar D x = l := ⟨_, rfl⟩
            obtain ⟨l, hpl⟩ := hpl
            have HPL := Lib.hid hpl
            rw [hpl] at H5 ⊢
            clear hpl HPA
            have hll : l.length ≤ 1000 := let ⟨_, _, _, _, _, h⟩ := H5.1; h
            go_wp2
            go_loopg [6, 11] l.length (fun e' s6 s11 wx => ∃ (k : Nat) (q2 : List Bs), k + e' = l.length ∧ s11 = .int .i64 k ∧ Aside (Strs wx (fun _ => True) s6 q2 ∧ BelowOk D b q2 ∧ (∀ y ∈ q, y ∈ q2) ∧ (∀ p ∈ l.take k, p ∈ q2) ∧ Below w5.heap.size w5 wx))
            case atStart => exact ⟨0, q, by omega, rfl, HQ.out.1.below H5.2, HQ.out.2.1, (fun y hy => hy), (fun p hp => by simp at hp), Below.refl _ _⟩
            case round =>
              obtain ⟨k, q2, hk, rfl, HQ2⟩ := hrel
              have hB5 := H5.2.trans (HQ2.out.2.2.2.2.mono H5.2.size)
              have hB6 := HQ.out.2.2.2.2.trans (hB5.mono HQ.out.2.2.2.2.size)
              cases gk with
              | zero =>
                obtain rfl : k = l.length := by omega
                have hf3 : ¬ ((l.length : Int) < (l.length : Int)) := by omega
                have HX : Hid ((∀ y ∈ o, y ∈ q2) ∧ ∀ x' ∈ o.take (i + 1), ∀ p ∈ rpar D x', p ∈ q2) := Lib.hid ⟨fun y hy => HQ2.out.2.2.1 y (HQ.out.2.2.1 y hy), fun x' hx' p hp => by
                  rw [HM.out.2] at hx'
                  rcases List.mem_append.1 hx' with hx' | hx'
                  · exact HQ2.out.2.2.1 p (HQ.out.2.2.2.1 x' hx' p hp)
                  · simp at hx'; subst hx'
                    rw [HPL.out] at hp
                    exact HQ2.out.2.2.2.1 p (by rw [List.take_length]; exact hp)⟩
                have HBB := Lib.hid hB6
                clear hB5 hB6
                go_wp2
                go_roundg e
                case measure => omega
                case rel => exact ⟨i + 1, q2, by omega, by go_num, HQ2.out.1, HQ2.out.2.1, HX.out.1, HX.out.2, HBB.out⟩
              | succ e' =>
                have hf3 : ((k : Int) < (l.length : Int)) := by omega
                have hkl : k < l.length := by omega
                obtain ⟨bl, ol, rfl⟩ := strs_adr H5.1 (by omega)
                have c2 := strs_cell H5.1 rfl HQ2.out.2.2.2.2 hkl
                have hpm : l.getD k [] ∈ rpar D x := by rw [HPL.out]; exact getD_mem hkl
                have hxq : x ∈ q2 := HQ2.out.2.2.1 x (HQ.out.2.2.1 x HM.out.1)
                have hput0 := HQ2.out.2.1.put H.out.2.1 hxq hpm
                have hq2 := HQ2.out.2.1.len
                have hp1 : (l.getD k []).length ≤ 1000 := by
                  obtain ⟨_, _, _, _, hx, _⟩ := H5.1
                  exact hx _ (getD_mem hkl)
                have hput := put_walk wr HQ2.out.1 (l.getD k []) hp1 (by omega)
                rw [putL_eq HQ2.out.2.1.up] at hput
                have hput' : Calls Try.prog (45 : Nat) #[u6, encStr (l.getD k [])] wr (fun e w' => ∃ u, e = .returned u ∧ Aside (Strs w' (fun _ => True) u (M.insU (l.getD k []) q2) ∧ Below wr.heap.size wr w')) := by
                  refine hput.mono ?_
                  rintro e w' ⟨u, rfl, hu⟩
                  have hsz : ∀ y ∈ M.insU (l.getD k []) q2, y.length ≤ 1000 := fun y hy => by
                    obtain ⟨n, hn, rfl⟩ := List.mem_map.1 (hput0.pl y hy)
                    exact H.out.2.2.2.2 n hn
                  exact ⟨u, rfl, (hu.strs hsz (by have := hput0.len; omega)).mono (fun _ _ => trivial), hu.2⟩
                have hin : ∀ p ∈ l.take (k + 1), p ∈ M.insU (l.getD k []) q2 := fun p hp => by
                  rw [take_succ_getD l k hkl] at hp
                  rcases List.mem_append.1 hp with hp | hp
                  · exact M.mem_insU.2 (.inr (HQ2.out.2.2.2.1 p hp))
                  · simp only [List.mem_singleton] at hp; exact M.mem_insU.2 (.inl hp)
                have hin2 : ∀ y ∈ q, y ∈ M.insU (l.getD k []) q2 := fun y hy => M.mem_insU.2 (.inr (HQ2.out.2.2.1 y hy))
                have HX := Lib.hid (And.intro hput0 (And.intro hin2 hin))
                have HPU := Lib.hid hput'
                clear hput hput' hput0 hin hin2 hpm hxq hp1 hB5 hB6
                generalize l.getD k [] = p at *
                simp only [encStr_eq] at c2 HPU
                go_wp2_with fail
                refine HPU.out.mono ?_
                rintro e7 w7 ⟨u, rfl, H7⟩
                go_wp2
                go_roundg e'
                case measure => omega
                case rel => exact ⟨k + 1, _, by omega, by go_num, H7.1, HX.out.1, HX.out.2.1, HX.out.2.2, HQ2.out.2.2.2.2.trans (H7.2.mono HQ2.out.2.2.2.2.size)⟩

def RAbovePost (w : World) (D : List RN) (a b : Bs) (e : Ending) (w' : World) : Prop := ∃ q : Bool, e = .returned (.bool q) ∧ (q = true ↔ rhas D b = true ∧ ∃ s, SP D b s a) ∧ Below w.heap.size w w'
set_option maxRecDepth 100000 in
set_option maxHeartbeats 2000000 in
theorem rabove_walk (w : World) {R : Nat → Prop} {r : Nat} {v : Value} {D : List RN} (h : RefAt w R r v D) {L : Nat → Nat} (hL : LevOk D L) (a b : Bs) (hb1 : b.length ≤ 1000) : Calls Try.prog 30 #[.pointer (some ⟨r, 0, none⟩), encStr a, encStr b] w (RAbovePost w D a b) := by
  have HB := Lib.hid (rbelow_walk w h hL b hb1)
  clear h hL
  simp only [encStr_eq] at HB ⊢
  go_enter Try.func30, Try.ntmps30
  go_wp2_with fail
  refine HB.out.mono ?_
  rintro e w5 ⟨u, o, rfl, hu, hbel, hiff⟩
  obtain ⟨A, c, rfl, hon⟩ := strs_fm hu
  have HO := Lib.hid (And.intro hu (And.intro hbel hiff))
  clear hu hbel hiff HB
  go_wp2
  go_loopg [8] o.length (fun d s8 wx => ∃ k : Nat, k + d = o.length ∧ s8 = .int .i64 k ∧ w5 = wx ∧ Aside (∀ j, j < k → o.getD j [] ≠ a))
  case atStart => exact ⟨0, by omega, rfl, rfl, fun j hj => by omega⟩
  case round =>
    obtain ⟨k, hk, rfl, rfl, HR⟩ := hrel
    cases gk with
    | zero =>
      obtain rfl : k = o.length := by omega
      have hf : ¬ ((o.length : Int) < (o.length : Int)) := by omega
      have HX : Hid (¬ (rhas D b = true ∧ ∃ s, SP D b s a)) := Lib.hid (fun ⟨h1, h2⟩ => by
        rcases HO.out.2.2 with ⟨_, hi⟩ | ⟨h0, _⟩
        · obtain ⟨j, hj, he⟩ := List.getElem_of_mem ((hi a).2 h2)
          exact HR.out j hj (by simpa [List.getD_eq_getElem?_getD, hj] using he)
        · rw [h1] at h0; cases h0)
      go_wp2
      go_ret
      exact ⟨false, rfl, ⟨fun h => (by cases h), fun h => absurd h HX.out⟩, HO.out.2.1⟩
    | succ d =>
      have hf : ((k : Int) < (o.length : Int)) := by omega
      have hkl : k < o.length := by omega
      obtain ⟨bo, oo, rfl⟩ := strs_adr HO.out.1 (by omega)
      have c1 := strs_cell HO.out.1 rfl (Below.refl _ _) hkl
      have hmem := getD_mem hkl
      have hS : o.getD k [] ≠ a → ∀ j, j < k + 1 → o.getD j [] ≠ a := fun e j hj => by
        by_cases hjk : j = k
        · subst hjk; exact e
        · exact HR.out j (by omega)
      have HS := Lib.hid (And.intro hmem hS)
      clear hmem hS
      generalize o.getD k [] = y at *
      simp only [encStr_eq] at c1
      by_cases e : y = a
      · have he : (y == a) = true := by simp [e]
        have HX : Hid (rhas D b = true ∧ ∃ s, SP D b s a) := Lib.hid (by
          rcases HO.out.2.2 with ⟨h1, hi⟩ | ⟨_, h0⟩
          · exact ⟨h1, (hi a).1 (e ▸ HS.out.1)⟩
          · have := HS.out.1; rw [h0] at this; simp at this)
        clear e
        go_wp2
        go_ret
        exact ⟨true, rfl, ⟨fun _ => HX.out, fun _ => rfl⟩, HO.out.2.1⟩
      · have he : (y == a) = false := by simp [e]
        have HE := Lib.hid e
        clear e
        go_wp2
        go_roundg d
        case measure => omega
        case rel => exact ⟨k + 1, by omega, by go_num, rfl, HS.out.2 HE.out⟩
end Go.Proofs.Ytccpblefebjadaa
