/- Add: an id that comes in, and those that wait behind it. -/
import Derived.Test.YtccpblefebjadaaA9
namespace Go.Proofs.Ytccpblefebjadaa
open Go.RowKit Go.Maps Go.WideMaps Go.Sort Go.Shelf
open Go.Proofs (encStr)
open M (Rising keys get Graph)

/-- The head of the outer loop: what is still to be settled, and what has come in. -/
structure AtLoop (w : World) (F : Nat → Prop) (F' : Nat → Prop) (base g : Nat) (bi bw bl : Nat) (Gf : Graph) (outf : List Bs) (n : Nat) (v : Value) (wr : World) : Prop where
  ex : ∃ (G' : Graph) (fi fw fl : Bs → Option Value) (out : List Bs), DagIn wr F' g G' bi bw bl fi fw fl ∧ G'.wai.length = n ∧ Graph.settle n G' out = (Gf, outf) ∧ wr.ownsRow base 30 1 v out.length (out.map encStr) ∧ (∀ x ∈ out, x.length ≤ 1000) ∧ out.length + n ≤ 600
  fr : Frame (fun i => F i ∨ w.heap.size ≤ i) w wr
  lo : w.heap.size ≤ base
  bs : base ≤ wr.heap.size
  hi : ∀ i, F' i → i < base
  sub : ∀ i, F' i → F i ∨ w.heap.size ≤ i
  sup : ∀ i, F i → F' i
  lt : ∀ i, F i → i < w.heap.size

/-- Nothing more comes in: what is handed back. -/
theorem AtLoop.done {w : World} {F F' : Nat → Prop} {base g bi bw bl : Nat} {Gf : Graph} {outf : List Bs} {v : Value} {wr : World} {G' : Graph} {fi fw fl : Bs → Option Value} {out : List Bs} {n : Nat}
    (h1 : DagIn wr F' g G' bi bw bl fi fw fl) (hs : Graph.settle n G' out = (Gf, outf)) (hnext : G'.next = none) (ho : wr.ownsRow base 30 1 v out.length (out.map encStr)) (hx : ∀ x ∈ out, x.length ≤ 1000) (hn : out.length + n ≤ 600)
    (fr : Frame (fun i => F i ∨ w.heap.size ≤ i) w wr) (lo : w.heap.size ≤ base) (hi : ∀ i, F' i → i < base) (sub : ∀ i, F' i → F i ∨ w.heap.size ≤ i) (sup : ∀ i, F i → F' i) : Added w F g Gf outf (.returned v) wr := by
  have e : Graph.settle n G' out = (G', out) := by
    cases n with
    | zero => rfl
    | succ n => unfold Graph.settle; rw [hnext]
  rw [e] at hs
  cases hs
  refine ⟨v, rfl, F', ⟨_, _, _, _, _, _, h1⟩, sub, sup, fr.mono (fun i hi h => h.resolve_right (by omega)), (Strs.of_own ho hx (by omega)).mono (fun b hb => ⟨Nat.le_trans lo hb, fun hf => absurd (hi b hf) (by omega)⟩)⟩

/-- The first that is ready stands at place k. -/
theorem next_at {G : Graph} {k : Nat} (hk : k < G.wai.length) (h0 : (G.wai.take k).all (fun e => !G.ready e.2) = true) (h1 : G.ready (G.wai[k]).2 = true) : G.next = some G.wai[k] := by
  unfold Graph.next
  have hsplit : G.wai = G.wai.take k ++ G.wai[k] :: G.wai.drop (k + 1) := by rw [List.getElem_cons_drop, List.take_append_drop]
  have hn : (G.wai.take k).find? (fun e => G.ready e.2) = none := by
    rw [List.find?_eq_none]
    intro e he
    have := List.all_eq_true.1 h0 e he
    simpa using this
  have e : G.wai.find? (fun e => G.ready e.2) = (G.wai.take k ++ G.wai[k] :: G.wai.drop (k + 1)).find? (fun e => G.ready e.2) := by rw [← hsplit]
  rw [e, List.find?_append, hn, Option.none_or]
  exact List.find?_cons_of_pos (p := fun e : M.Bs × List M.Bs => G.ready e.2) h1
theorem next_none {G : Graph} (h0 : G.wai.all (fun e => !G.ready e.2) = true) : G.next = none := by
  unfold Graph.next
  rw [List.find?_eq_none]
  intro e he
  have := List.all_eq_true.1 h0 e he
  simpa using this

/-- ONE THAT IS READY, in memory: 'enter', and the append behind it. -/
theorem AtLoop.step {w : World} {F F' : Nat → Prop} {base g bi bw bl : Nat} {Gf : Graph} {outf : List Bs} {v : Value} {W5 : World} {G' : Graph} {fi fw fl : Bs → Option Value} {out : List Bs} {n : Nat}
    (h1 : DagIn W5 F' g G' bi bw bl fi fw fl) (hlen : G'.wai.length = n) (hs : Graph.settle n G' out = (Gf, outf)) (e : Bs × List Bs) (hnext : G'.next = some e) (ho : W5.ownsRow base 30 1 v out.length (out.map encStr)) (hx : ∀ x ∈ out, x.length ≤ 1000) (hn : out.length + n ≤ 600)
    (fr : Frame (fun i => F i ∨ w.heap.size ≤ i) w W5) (lo : w.heap.size ≤ base) (bs : base ≤ W5.heap.size) (hi : ∀ i, F' i → i < base) (sub : ∀ i, F' i → F i ∨ w.heap.size ≤ i) (sup : ∀ i, F i → F' i) (hlt : ∀ i, F i → i < w.heap.size)
    {vl : Value} (hvl : Strs W5 F' vl e.2) :
    Calls Try.prog 39 #[.pointer (some ⟨g, 0, none⟩), .string ⟨e.1.toArray⟩, vl] W5 (fun en W6 => en = .returned (.tuple #[]) ∧ W6.ownsRow base 30 1 v out.length (out.map encStr) ∧ base ≤ W6.heap.size ∧
      Hid (∀ (w7 : World) (v' : Value), w7.ownsRow base 30 1 v' (out.length + 1) (out.map encStr ++ [.string ⟨e.1.toArray⟩]) → (W6.alloc (.cells #[.string ⟨e.1.toArray⟩] 30)).grownBy w7 v.ownBlock → ∃ n', n' < n ∧ AtLoop w F F' base g bi bw bl Gf outf n' v' w7)) := by
  obtain ⟨hm, hrd⟩ := M.Graph.next_mem hnext
  have hkw := M.mem_keys hm
  have hex := h1.ok.kw _ hkw
  have hni : e.1 ∉ keys G'.inn := fun hi => h1.ok.apart _ hi hkw
  have hc := M.Graph.count_next h1.ok hnext
  refine (h1.enter_any hex hvl).mono ?_
  rintro en W6 ⟨rfl, hE⟩
  have h6 := h1.enter hex hni hrd hvl hE (by have := h1.cnt; omega)
  have hbase : base ≤ W5.heap.size ∨ v.ownBlock = none := by
    rcases ho.2 with ⟨rfl, _⟩ | ⟨gb, cap, cur, rfl, hb, hg, _⟩
    · exact .inr rfl
    · exact .inl (Nat.le_trans hb (Nat.le_of_lt (Array.getElem?_eq_some_iff.1 hg).1))
  have hob : ∀ k, v.ownBlock = some k → base ≤ k := fun k hk => by
    rcases ho.2 with ⟨rfl, _⟩ | ⟨gb, cap, cur, rfl, hb, _⟩
    · cases hk
    · cases hk; exact hb
  have ho6 : W6.ownsRow base 30 1 v out.length (out.map encStr) := by
    rcases ho.2 with ⟨rfl, h0⟩ | ⟨gb, cap, cur, rfl, hb, hg, r⟩
    · exact ⟨ho.1, .inl ⟨rfl, h0⟩⟩
    · refine ⟨ho.1, .inr ⟨gb, cap, cur, rfl, hb, ?_, r⟩⟩
      have hgl := (Array.getElem?_eq_some_iff.1 hg).1
      rw [hE.fr.block gb hgl (by
        rintro (rfl | rfl | rfl)
        · have := hi _ h1.pi; omega
        · have := hi _ h1.pl; omega
        · have := hi _ h1.pw; omega)]
      exact hg
  refine ⟨rfl, ho6, ?_, ?_⟩
  · exact Nat.le_trans bs hE.fr.size
  · refine Lib.hid (fun w7 v' hown hgrow => ⟨n - 1, by omega, ?_⟩)
    have h6a := h6.same (w' := W6.alloc (.cells #[.string ⟨e.1.toArray⟩] 30)) (by simp) (fun i hi _ => Below.heap_alloc _ _ i hi)
    have h7 := h6a.same (w' := w7) hgrow.size (fun i hi' hf => hgrow.block i hi' (fun ee => by have := hob i ee.symm; have := hi i hf; omega))
    have f6 : Frame (fun i => F i ∨ w.heap.size ≤ i) W5 W6 := hE.fr.mono (fun i _ h' => by rcases h' with e | e | e <;> rw [e] <;> first | exact sub _ h1.pi | exact sub _ h1.pl | exact sub _ h1.pw)
    have f6a : Frame (fun i => F i ∨ w.heap.size ≤ i) W6 (W6.alloc (.cells #[.string ⟨e.1.toArray⟩] 30)) := (Frame.of_below ((Below.refl _ _).alloc (Nat.le_refl _) _)).mono (fun i _ h => h.elim)
    have f7 : Frame (fun i => F i ∨ w.heap.size ≤ i) (W6.alloc (.cells #[.string ⟨e.1.toArray⟩] 30)) w7 := ⟨hgrow.os, hgrow.tape, hgrow.output, hgrow.size, fun i hi' hn' => hgrow.block i hi' (fun ee => hn' (.inr (Nat.le_trans lo (hob i ee.symm))))⟩
    refine ⟨⟨G'.enter e.1 e.2, _, _, _, out ++ [e.1], h7, by omega, ?_, ?_, ?_, by simp; omega⟩, ((fr.trans f6).trans f6a).trans f7, lo, Nat.le_trans bs (((f6.trans f6a).trans f7).size), hi, sub, sup, hlt⟩
    · rw [← hs]
      obtain ⟨m, rfl⟩ : ∃ m, n = m + 1 := ⟨n - 1, by omega⟩
      conv => rhs; unfold Graph.settle
      rw [hnext]; rfl
    · simpa [encStr_eq] using hown
    · intro y hy
      rcases List.mem_append.1 hy with hy | hy
      · exact hx y hy
      · simp at hy; subst hy; exact hex

set_option maxRecDepth 100000 in
set_option maxHeartbeats 2000000 in
theorem add_ready {w : World} {F : Nat → Prop} {g : Nat} {G : Graph} (h : DagAt w F g G) (hcnt : G.inn.length + G.wai.length < 500) (x : Bs) (hx : x.length ≤ 1000) {S : Nat → Prop} {v : Value} {ps : List Bs} (hv : Strs w S v ps)
    (hk1 : (get G.wai x).isSome = false) (hk2 : G.has x = false) (hr : G.ready (M.norm ps) = true) (Gf : Graph) (outf : List Bs) (hf : Graph.settle (G.enter x (M.norm ps)).wai.length (G.enter x (M.norm ps)) [x] = (Gf, outf)) :
    Calls Try.prog 15 #[.pointer (some ⟨g, 0, none⟩), encStr x, v] w (Added w F g Gf outf) := by
  have hh := has_dag h x hx
  have hni : x ∉ keys G.inn := fun hi => by have := M.isSome_get.2 hi; unfold Graph.has at hk2; rw [hk2] at this; cases this
  have hcnt2 : (G.enter x (M.norm ps)).inn.length + (G.enter x (M.norm ps)).wai.length ≤ 500 := by
    have h1 : (G.enter x (M.norm ps)).inn.length = G.inn.length + 1 := M.length_ins_new hni
    have h2 : (G.enter x (M.norm ps)).wai = M.rem x G.wai := rfl
    have h3 : M.rem x G.wai = G.wai := by
      have : x ∉ keys G.wai := fun hi => by have := M.isSome_get.2 hi; rw [hk1] at this; cases this
      clear h1 h2 hf hv hh h hcnt hk1 hk2 hr hni
      revert this
      generalize G.wai = l
      intro this
      induction l with
      | nil => rfl
      | cons p r ih =>
        obtain ⟨y, u⟩ := p
        simp only [keys, List.map_cons, List.mem_cons, not_or] at this
        unfold M.rem
        rw [if_neg this.1, ih this.2]
    rw [h1, h2, h3]; omega
  have hFlt := h.lt
  obtain ⟨bi, bw, bl, fi, fw, fl, h⟩ := h
  obtain ⟨u, hl, _⟩ := lookw w h x hx
  rw [hk1] at hl
  rw [hk2] at hh
  have hc := h.c1
  obtain ⟨A, c, rfl, hA⟩ := id hv
  have hS := sortedV_any A c ps hA.2.2 w hv.lies
  have hps : ∀ x ∈ ps, x.length ≤ 1000 := hA.2.1
  have hpn : ps.length ≤ 1000 := hA.2.2
  obtain ⟨i0, hi0, hz0, hz1, hz2⟩ := info_parts info30
  have key : ∀ (W1 : World) (W2 : World) (v2 : Value), Below w.heap.size w W1 → Strs W2 (fun b => w.heap.size ≤ b) v2 (M.norm ps) → Below w.heap.size W1 W2 →
      Calls Try.prog 38 #[.pointer (some ⟨g, 0, none⟩), v2] W2 (RetSame (.bool true) W2) ∧
      Calls Try.prog 39 #[.pointer (some ⟨g, 0, none⟩), .string ⟨x.toArray⟩, v2] W2 (fun e W3 => e = .returned (.tuple #[]) ∧ AtLoop w F (Wider F w W2) W3.heap.size g bi bw bl Gf outf (G.enter x (M.norm ps)).wai.length (.slice (some ⟨W3.heap.size, 0, none⟩) 1 1) (W3.alloc (.cells #[.string ⟨x.toArray⟩] 30))) := by
    intro W1 W2 v2 hb1 hs2 hb2
    have ho : Own w ps v2 W2 := ⟨hs2, hb1.trans hb2⟩
    obtain ⟨h2, hv2⟩ := DagAt.own h ho
    have hrd := ready_dag ⟨bi, bw, bl, fi, fw, fl, h2⟩ hv2
    rw [hr] at hrd
    refine ⟨hrd, (h2.enter_any hx hv2).mono ?_⟩
    rintro e W3 ⟨rfl, hE⟩
    have h3 := h2.enter hx hni hr hv2 hE hcnt2
    have h4 := h3.same (w' := W3.alloc (.cells #[encStr x] 30)) (by simp) (fun i hi _ => Below.heap_alloc _ _ i hi)
    have f1 : Frame (fun i => F i ∨ w.heap.size ≤ i) w W2 := (Frame.of_below ho.below).mono (fun i _ h => h.elim)
    have f2 : Frame (fun i => F i ∨ w.heap.size ≤ i) W2 W3 := hE.fr.mono (fun i hi h' => by rcases h' with e | e | e <;> rw [e] <;> first | exact .inl h.pi | exact .inl h.pl | exact .inl h.pw)
    have f3 : Frame (fun i => F i ∨ w.heap.size ≤ i) W3 (W3.alloc (.cells #[encStr x] 30)) := (Frame.of_below ((Below.refl _ _).alloc (Nat.le_refl _) _)).mono (fun i _ h => h.elim)
    refine ⟨rfl, ⟨_, _, _, _, [x], h4, rfl, hf, ?_, by simpa using hx, by simp; omega⟩, (f1.trans f2).trans f3, Nat.le_trans ho.below.size hE.fr.size, by simp, fun i hi => h3.lt i hi, ?_, fun i hi => .inl hi, hFlt⟩
    · exact ⟨by simp, .inr ⟨W3.heap.size, 1, #[encStr x], rfl, Nat.le_refl _, World.alloc_heap_new _ _, Nat.le_refl _, by unfold maxLen; omega, rfl, rfl⟩⟩
    · rintro i (hi | hi)
      · exact .inl hi
      · exact .inr hi.1
  have HK := Lib.hid key
  have HH := Lib.hid hh
  have HS := Lib.hid hS
  clear h hA hv key hh hS hni hk1 hk2 hr hcnt hcnt2 hFlt
  generalize (G.enter x (M.norm ps)).wai.length = n0 at *
  clear hf
  simp only [encStr_eq] at HH HK ⊢
  go_enter Try.func15, Try.ntmps15
  go_wp2
  go_step3
  go_wp2_with (first
    | (go_at_call 24; refine HH.out.mono ?_; rintro e w' ⟨rfl, rfl⟩)
    | (go_at_call 37; refine (values_any _ _ _ _).mono ?_; rintro e w' ⟨rfl, rfl⟩)
    | (go_at_call 36; refine HS.out.mono ?_; rintro e W1 ⟨v1, rfl, hrow, hb1⟩)
    | (go_at_call 35; refine (compact_any w.heap.size _ ps hps hpn _ hrow).mono ?_; rintro e W2 ⟨v2, rfl, hs2, hb2⟩; obtain ⟨hrd, hen⟩ := HK.out _ _ _ hb1 hs2 hb2; have HR := Lib.hid hrd; have HE := Lib.hid hen; clear hrd hen)
    | (go_at_call 38; refine HR.out.mono ?_; rintro e w' ⟨rfl, rfl⟩)
    | (go_at_call 39; refine HE.out.mono ?_; rintro e W3 ⟨rfl, hat⟩; have HA := Lib.hid hat; clear hat))
  go_step3
  go_wp2
  go_loopg [10] n0 (fun n v wr => AtLoop w F (Wider F w W2) W3.heap.size g bi bw bl Gf outf n v wr)
  case atStart => exact HA.out
  case round =>
    clear HA hl
    obtain ⟨⟨G', fi', fw', fl', out, h1, hlen, hs, ho, hox, hon⟩, fr, lo, bs, hi, sub, sup, hlt⟩ := hrel
    have hc1 := h1.c1
    have HS31 := Lib.hid (sorted49 bw _ okS fw' G'.wai h1.ok.rw (fun y => by rw [h1.isSomeW, M.isSome_get]) h1.ok.kw (by have := h1.cnt; omega) wr h1.mw)
    go_wp2_with (go_at_call 31; refine HS31.out.mono ?_; rintro e W5 ⟨kv, rfl, ⟨Ak, ck, rfl, hkA, hkx, hkn⟩, hb5⟩)
    have h5 := h1.same (w' := W5) hb5.size (fun i hi _ => hb5.block i hi)
    have ho5 : W5.ownsRow (W3.heap.size) 30 1 u10 out.length (out.map encStr) := ho.kept (row := none) ⟨hb5.os, hb5.tape, hb5.output, hb5.size, fun i hi _ => hb5.block i hi⟩ (by cases u10.ownBlock <;> simp)
    have fr5 : Frame (fun i => F i ∨ w.heap.size ≤ i) w W5 := fr.trans ((Frame.of_below hb5).mono (fun i _ h => h.elim))
    have bs5 : W3.heap.size ≤ W5.heap.size := Nat.le_trans bs hb5.size
    have hkl : (keys G'.wai).length = G'.wai.length := by simp [keys]
    have HX := Lib.hid (And.intro ho5 (And.intro fr5 (And.intro hs (And.intro hkl hlen))))
    have H5 := Lib.hid h5
    have HKA := Lib.hid hkA
    have HF := Lib.hid (And.intro hi (And.intro sub (And.intro sup hlt)))
    clear HS31 hc1 h1 ho hkA h5 ho5 fr5 fr hi sub sup hlt hs hlen hkl hb5
    go_loopg [10, 55] (keys G'.wai).length (fun m s10 s55 wy => ∃ k : Nat, k + m = (keys G'.wai).length ∧ s55 = .int .i64 k ∧ u10 = s10 ∧ W5 = wy ∧ Aside ((G'.wai.take k).all (fun e => !G'.ready e.2) = true))
    case atStart => exact ⟨0, by omega, rfl, rfl, rfl, rfl⟩
    case round =>
      obtain ⟨k, hkm, rfl, rfl, rfl, HR⟩ := hrel
      cases gk with
      | zero =>
        have hkz : ¬ ((k : Int) < ((keys G'.wai).length : Int)) := by omega
        have hfin : Added w F g Gf outf (.returned u10) W5 := by
          obtain ⟨hi, sub, sup, hlt⟩ := HF.out
          obtain ⟨ho5, fr5, hs, hkl, hlen⟩ := HX.out
          have hall := HR.out
          rw [List.take_of_length_le (by omega)] at hall
          exact AtLoop.done H5.out hs (next_none hall) ho5 hox hon fr5 lo hi sub sup
        have HA := Lib.hid hfin
        clear hfin
        go_wp2
        go_ret
        exact HA.out
      | succ m =>
        have hkz : ((k : Int) < ((keys G'.wai).length : Int)) := by omega
        have hkn' : k < (keys G'.wai).length := by omega
        have hkw : k < G'.wai.length := by have := HX.out.2.2.2.1; omega
        obtain ⟨bk, ok, rfl, _, _, hck⟩ := HKA.out (by omega)
        have hcell := hck k hkn'
        have hxe : (keys G'.wai).getD k [] = (G'.wai[k]).1 := by simp [keys, List.getD_eq_getElem?_getD, hkw]
        rw [hxe] at hcell
        have hmem : G'.wai[k] ∈ G'.wai := List.getElem_mem hkw
        have hxl := H5.out.ok.kw _ (M.mem_keys hmem)
        obtain ⟨vl, hvl, hsl⟩ := H5.out.vw (G'.wai[k]).1 (G'.wai[k]).2 ((M.mem_get (k := (G'.wai[k]).1) (v := (G'.wai[k]).2) H5.out.ok.rw).1 hmem)
        have hlook := H5.out.mw.look Try.underlying30 Try.underlying49 (zeroS W5) rfl ⟨(G'.wai[k]).1.toArray⟩ (size_ok hxl)
        simp only at hlook
        rw [hvl] at hlook
        simp only [Option.getD_some] at hlook
        have hc1 := H5.out.c1
        have hrd := ready_dag ⟨bi, bw, bl, fi', fw', fl', H5.out⟩ hsl
        have HTK : (G'.wai.take (k + 1)).all (fun e => !G'.ready e.2) = !(G'.ready (G'.wai[k]).2) := by
          rw [List.take_succ_eq_append_getElem hkw, List.all_append, HR.out]; simp
        have HTK' := Lib.hid HTK
        clear HTK hxe hck HKA
        cases hb : G'.ready (G'.wai[k]).2 with
        | false =>
          rw [hb] at hrd
          have HB := Lib.hid hb
          have HRD := Lib.hid hrd
          clear hb hrd hmem hvl hsl
          generalize (G'.wai[k]).1 = y at *
          clear hxl
          simp only [encStr_eq] at hcell
          go_wp2_with (go_at_call 38; refine HRD.out.mono ?_; rintro e w' ⟨rfl, rfl⟩)
          go_roundg m
          case measure => omega
          case rel => exact ⟨k + 1, by omega, by go_num, rfl, rfl, by show _ = _; rw [HTK'.out, HB.out]; rfl⟩
        | true =>
          rw [hb] at hrd
          have hnext := next_at hkw HR.out hb
          obtain ⟨hi, sub, sup, hlt⟩ := HF.out
          obtain ⟨ho5, fr5, hs, hkl, hlen⟩ := HX.out
          have hen := AtLoop.step H5.out hlen hs (G'.wai[k]) hnext ho5 hox hon fr5 lo bs5 hi sub sup hlt hsl
          have HEN := Lib.hid hen
          have HRD := Lib.hid hrd
          have hol : out.length ≤ 600 := by omega
          clear hb hrd hmem hvl hsl hen hnext hi sub sup hlt ho5 fr5 hs hkl hlen
          generalize (G'.wai[k]).1 = y at *
          clear hxl
          simp only [encStr_eq] at hcell
          go_wp2_with (first
            | (go_at_call 38; refine HRD.out.mono ?_; rintro e w' ⟨rfl, rfl⟩)
            | (go_at_call 39; refine HEN.out.mono ?_; rintro e W6 ⟨rfl, ho6, hb6, HQ⟩)
            | (at_builtin; refine wpList_append_own _ rfl _ _ 27 rfl W3.heap.size 30 i0 (.string ⟨#[]⟩) 1 16 Try.underlying27 hi0 hz0 hz1 hz2 rfl (by decide) _ _ _ rfl (ho6.alloc _) ⟨W6.heap.size, 0, none⟩ 1 1 [.string ⟨y.toArray⟩] rfl rfl (cell_one_new _ _ _) (by simp [Value.oneCell']) (by unfold maxLen; omega) (by omega) (by simp; omega) ?_; intro v' w7 hown' hgrow _; obtain ⟨n', hn', hat⟩ := HQ.out w7 v' hown' hgrow; have HAT := Lib.hid hat; clear hat))
          go_roundg n'
          case measure => exact hn'
          case rel => exact HAT.out

/-- ADD. -/
theorem add_dag {w : World} {F : Nat → Prop} {g : Nat} {G : Graph} (h : DagAt w F g G) (hcnt : G.inn.length + G.wai.length < 500) (x : Bs) (hx : x.length ≤ 1000) {S : Nat → Prop} {v : Value} {ps : List Bs} (hv : Strs w S v ps) :
    Calls Try.prog 15 #[.pointer (some ⟨g, 0, none⟩), encStr x, v] w (Added w F g (G.add x ps).1 (G.add x ps).2) := by
  unfold Graph.add
  by_cases hk : ((get G.wai x).isSome || G.has x) = true
  · rw [if_pos hk]
    exact add_known h x hx v (by simpa using hk)
  · rw [if_neg hk]
    simp only [Bool.or_eq_true, not_or, Bool.not_eq_true] at hk
    by_cases hr : G.ready (M.norm ps) = true
    · rw [if_pos hr]
      exact add_ready h hcnt x hx hv hk.1 hk.2 hr _ _ rfl
    · rw [if_neg hr]
      exact add_wait h hcnt x hx hv hk.1 hk.2 (by simpa using hr)
end Go.Proofs.Ytccpblefebjadaa
