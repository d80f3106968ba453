/- Lines: the walk over the statements. -/
import Derived.Test.YtjmjdmmojgmcdaaDoorNL
import Derived.StillTailTactics
namespace Go.Proofs.YtjmjdmmojgmcdaaDoor
open Go.RowKit
set_option linter.unusedVariables false
set_option linter.unusedSimpArgs false
attribute [local go_sem ↓] Go.wp_at_zero Go.wp_at_succ

/-- blocks that lines may change: the box of the row, and rows of lines -/
def Lw (bo : Nat) (w : World) : Nat → Prop := fun j => j = bo ∨ ∃ cs fz, Blk w j (.cells cs 90 fz)
theorem Lw.not {bo j : Nat} {w : World} {cs : Array Value} {t : TypeId} {fz : Nat × Nat} (h : Blk w j (.cells cs t fz)) (ht : t ≠ 90) (hj : j ≠ bo) : ¬ Lw bo w j := by
  rintro (e | ⟨cs', fz', h'⟩)
  · exact hj e
  · have h1 : w.heap[j]? = _ := h
    have h2 : w.heap[j]? = _ := h'
    rw [h1] at h2
    simp only [Option.some.injEq, Obj.cells.injEq] at h2
    exact ht h2.2.1
def LnK (w0 : World) (v0 : Value) (B bo bd d : Nat) (wr : World) (l : List Ln) : Prop :=
  ∃ v', Blk wr bo (outO v') ∧ Blk wr bd (depO d) ∧ LnOwn wr B v' l ∧ Fr (fun j => v0.ownBlock = some j) w0 wr ∧ (∀ k, v'.ownBlock = some k → v0.ownBlock = some k ∨ w0.heap.size ≤ k)
def LnOut (B : Nat) (v : Value) (l : List Ln) (w : World) (e : Ending) (w' : World) : Prop :=
  ∃ v', e = .returned v' ∧ LnOwn w' B v' l ∧ Fr (fun j => v.ownBlock = some j) w w' ∧ (∀ k, v'.ownBlock = some k → v.ownBlock = some k ∨ w.heap.size ≤ k)
theorem LnK.fr {w0 wr : World} {v0 : Value} {B bo bd d : Nat} {l : List Ln} (h : LnK w0 v0 B bo bd d wr l) : Fr (fun j => v0.ownBlock = some j) w0 wr := by
  obtain ⟨_, _, _, _, h, _⟩ := h
  exact h
theorem LnK.no {w0 wr w' : World} {v0 : Value} {B bo bd d : Nat} {l : List Ln} (h : LnK w0 v0 B bo bd d wr l) (f : Fr No wr w') : LnK w0 v0 B bo bd d w' l := by
  obtain ⟨v', h1, h2, h3, h4, h5⟩ := h
  exact ⟨v', h1.fr f (fun x => x), h2.fr f (fun x => x), own_fr h3 f (fun _ _ x => x), h4.callNo f, h5⟩
theorem ln_line {w0 wr : World} {v0 : Value} {B bo bd d : Nat} {l : List Ln} (x : Ln) (hx : x.depth = d) (hl : l.length ≤ 100000) (hne : bo ≠ bd) (hB : B ≤ w0.heap.size) (hbo : w0.heap.size ≤ bo) (h : LnK w0 v0 B bo bd d wr l) :
    Calls Tryd.prog 70 #[.int .i64 x.kind, .string ⟨x.text.toArray⟩, .agg (plA x.at_), .pointer (some ⟨bo, 0, none⟩), .pointer (some ⟨bd, 0, none⟩)] wr fun e w' => e = .returned (.tuple #[]) ∧ LnK w0 v0 B bo bd d w' (l ++ [x]) ∧ Fr (Lw bo wr) wr w' := by
  subst hx
  obtain ⟨v', h1, h2, h3, h4, h5⟩ := h
  refine (lines1_calls h3 h1 h2 hne hl (Nat.le_trans hB h4.size)).mono ?_
  rintro e w' ⟨rfl, v'', o, b, f, k⟩
  refine ⟨rfl, ⟨v'', b, h2.fr f ?_, o, h4.call f ?_, ?_⟩, f.mono ?_⟩
  · rintro (e | e)
    · exact hne e.symm
    · exact own_ne h3 h2 (by decide) e
  · rintro j hj (e | e)
    · omega
    · rcases h5 j e with h | h
      · exact h
      · omega
  · intro j hj
    rcases k j hj with h | h
    · exact h5 j h
    · exact Or.inr (Nat.le_trans h4.size h)
  · rintro j hj (e | e)
    · exact Or.inl e
    · obtain ⟨cur, hc⟩ := own_obj h3 e
      exact Or.inr ⟨cur, _, hc⟩
theorem ln_rec {w0 wr w' : World} {v0 v' v'' : Value} {B bo bd d : Nat} {l m : List Ln} (hne : bo ≠ bd) (hbo : w0.heap.size ≤ bo) (h1 : Blk wr bo (outO v')) (h2 : Blk wr bd (depO d)) (h3 : LnOwn wr B v' l) (h4 : Fr (fun j => v0.ownBlock = some j) w0 wr) (h5 : ∀ k, v'.ownBlock = some k → v0.ownBlock = some k ∨ w0.heap.size ≤ k)
    (o : LnOwn w' B v'' m) (f : Fr (fun j => v'.ownBlock = some j) wr w') (k : ∀ k, v''.ownBlock = some k → v'.ownBlock = some k ∨ wr.heap.size ≤ k) :
    LnK w0 v0 B bo bd d (w'.setCell ⟨bo, 0, none⟩ v'') m ∧ Fr (Lw bo wr) wr (w'.setCell ⟨bo, 0, none⟩ v'') := by
  have b1 := h1.fr f (fun e => own_ne h3 h1 (by decide) e)
  have b2 := h2.fr f (fun e => own_ne h3 h2 (by decide) e)
  have hfk := (Fr.refl (· = bo) w').setCell (a := ⟨bo, 0, none⟩) v'' (fun _ => rfl)
  have f2 : Fr (Lw bo wr) wr w' := f.mono (fun j _ e => by
    obtain ⟨cur, hc⟩ := own_obj h3 e
    exact Or.inr ⟨cur, _, hc⟩)
  refine ⟨⟨v'', b1.setOff 0 _, b2.fr hfk (fun e => hne e.symm), own_fr o hfk (fun j hj e => own_ne o b1 (by decide) (e ▸ hj)), (h4.call f ?_).call hfk ?_, ?_⟩, f2.call hfk (fun j _ e => Or.inl e)⟩
  · intro j hj e
    rcases h5 j e with h | h
    · exact h
    · omega
  · intro j hj e
    have : j = bo := e
    omega
  · intro j hj
    rcases k j hj with h | h
    · exact h5 j h
    · exact Or.inr (Nat.le_trans h4.size h)
theorem LnK.as {w0 wr : World} {v0 : Value} {B bo bd d : Nat} {l l' : List Ln} {x : Addr} {a : Option Addr} {n n' c : Nat} (h : LnK w0 v0 B bo bd d (wr.setCell x (.slice a n c)) l) (e1 : n = n') (e2 : l = l') : LnK w0 v0 B bo bd d (wr.setCell x (.slice a n' c)) l' := by
  subst e1 e2
  exact h
theorem LnK.as0 {w0 wr : World} {v0 : Value} {B bo bd d : Nat} {l l' : List Ln} (h : LnK w0 v0 B bo bd d wr l) (e2 : l = l') : LnK w0 v0 B bo bd d wr l' := by
  subst e2
  exact h
theorem own_M {w : World} {B : Nat} {v : Value} {l : List Ln} (h : LnOwn w B v l) : ∃ M, l = M ∧ LnOwn w B v M := ⟨_, rfl, h⟩
theorem other_line {w : World} {B0 B : Nat} {v : Value} {l : List Ln} (h : LnOwn w B v l) : Other (fun j => v.ownBlock = some j) B0 w := fun j _ _ e => by
  obtain ⟨cur, hcur⟩ := own_obj h e
  exact ⟨_, _, _, hcur, by decide, by decide, by decide⟩
def LnC (k : Nat) : Prop := ∀ (l : Sms) (a : Option Addr) (n c : Nat) (vs : List Value) (d B0 B : Nat) (v : Value) (acc : List Ln) (w : World), l.sz ≤ k → l.okS → w.ownsRow B0 105 1 (.slice a n c) n vs → SmsAre w B0 l vs → LnOwn w B v acc → LnB (lnSms d l) → acc.length + l.sz ≤ 100000 → d + l.sz ≤ 100000 → B ≤ w.heap.size →
  Calls Tryd.prog 38 #[v, .slice a n c, .int .i64 d] w (LnOut B v (acc ++ lnSms d l) w)
theorem nila_Set (p : Pl) (k : Int) (x : ByteArray) (y : Value) (w : World) : (nilAhead 157 154 (.agg #[.int .i64 p.b, .int .i64 p.g, .int .i64 p.l, .int .i64 p.c, .int .i64 k, .string x, y]) "Place").run Tryd.prog w = .ok (some false) w := by kernel_rfl
theorem meth_Set (p : Pl) (k : Int) (x : ByteArray) (y : Value) (w : World) : (method 157 154 (.agg #[.int .i64 p.b, .int .i64 p.g, .int .i64 p.l, .int .i64 p.c, .int .i64 k, .string x, y]) "Place").run Tryd.prog w = .ok (119, .agg #[.int .i64 p.b, .int .i64 p.g, .int .i64 p.l, .int .i64 p.c]) w := by kernel_rfl
theorem nila_Skip (p : Pl)  (w : World) : (nilAhead 157 147 (.agg #[.int .i64 p.b, .int .i64 p.g, .int .i64 p.l, .int .i64 p.c]) "Place").run Tryd.prog w = .ok (some false) w := by kernel_rfl
theorem meth_Skip (p : Pl)  (w : World) : (method 157 147 (.agg #[.int .i64 p.b, .int .i64 p.g, .int .i64 p.l, .int .i64 p.c]) "Place").run Tryd.prog w = .ok (119, .agg #[.int .i64 p.b, .int .i64 p.g, .int .i64 p.l, .int .i64 p.c]) w := by kernel_rfl
theorem nila_Stop (p : Pl)  (w : World) : (nilAhead 157 148 (.agg #[.int .i64 p.b, .int .i64 p.g, .int .i64 p.l, .int .i64 p.c]) "Place").run Tryd.prog w = .ok (some false) w := by kernel_rfl
theorem meth_Stop (p : Pl)  (w : World) : (method 157 148 (.agg #[.int .i64 p.b, .int .i64 p.g, .int .i64 p.l, .int .i64 p.c]) "Place").run Tryd.prog w = .ok (119, .agg #[.int .i64 p.b, .int .i64 p.g, .int .i64 p.l, .int .i64 p.c]) w := by kernel_rfl
theorem nila_Mark (p : Pl) (x : ByteArray) (w : World) : (nilAhead 157 157 (.agg #[.int .i64 p.b, .int .i64 p.g, .int .i64 p.l, .int .i64 p.c, .string x]) "Place").run Tryd.prog w = .ok (some false) w := by kernel_rfl
theorem meth_Mark (p : Pl) (x : ByteArray) (w : World) : (method 157 157 (.agg #[.int .i64 p.b, .int .i64 p.g, .int .i64 p.l, .int .i64 p.c, .string x]) "Place").run Tryd.prog w = .ok (119, .agg #[.int .i64 p.b, .int .i64 p.g, .int .i64 p.l, .int .i64 p.c]) w := by kernel_rfl
theorem nila_Choose (p : Pl) (a : Option Addr) (n c : Nat) (w : World) : (nilAhead 157 129 (.agg #[.int .i64 p.b, .int .i64 p.g, .int .i64 p.l, .int .i64 p.c, .slice a n c]) "Place").run Tryd.prog w = .ok (some false) w := by kernel_rfl
theorem meth_Choose (p : Pl) (a : Option Addr) (n c : Nat) (w : World) : (method 157 129 (.agg #[.int .i64 p.b, .int .i64 p.g, .int .i64 p.l, .int .i64 p.c, .slice a n c]) "Place").run Tryd.prog w = .ok (119, .agg #[.int .i64 p.b, .int .i64 p.g, .int .i64 p.l, .int .i64 p.c]) w := by kernel_rfl
theorem nila_Loop (p : Pl) (a : Option Addr) (n c : Nat) (w : World) : (nilAhead 157 132 (.agg #[.int .i64 p.b, .int .i64 p.g, .int .i64 p.l, .int .i64 p.c, .slice a n c]) "Place").run Tryd.prog w = .ok (some false) w := by kernel_rfl
theorem meth_Loop (p : Pl) (a : Option Addr) (n c : Nat) (w : World) : (method 157 132 (.agg #[.int .i64 p.b, .int .i64 p.g, .int .i64 p.l, .int .i64 p.c, .slice a n c]) "Place").run Tryd.prog w = .ok (119, .agg #[.int .i64 p.b, .int .i64 p.g, .int .i64 p.l, .int .i64 p.c]) w := by kernel_rfl
theorem nila_If (p : Pl) (y z : Value) (eq : Bool) (a : Option Addr) (n c : Nat) (ev : Value) (w : World) : (nilAhead 157 141 (.agg #[.int .i64 p.b, .int .i64 p.g, .int .i64 p.l, .int .i64 p.c, y, z, .bool eq, .slice a n c, ev]) "Place").run Tryd.prog w = .ok (some false) w := by kernel_rfl
theorem meth_If (p : Pl) (y z : Value) (eq : Bool) (a : Option Addr) (n c : Nat) (ev : Value) (w : World) : (method 157 141 (.agg #[.int .i64 p.b, .int .i64 p.g, .int .i64 p.l, .int .i64 p.c, y, z, .bool eq, .slice a n c, ev]) "Place").run Tryd.prog w = .ok (119, .agg #[.int .i64 p.b, .int .i64 p.g, .int .i64 p.l, .int .i64 p.c]) w := by kernel_rfl
theorem nila_While (p : Pl) (y z : Value) (eq : Bool) (a : Option Addr) (n c : Nat) (w : World) : (nilAhead 157 138 (.agg #[.int .i64 p.b, .int .i64 p.g, .int .i64 p.l, .int .i64 p.c, y, z, .bool eq, .slice a n c]) "Place").run Tryd.prog w = .ok (some false) w := by kernel_rfl
theorem meth_While (p : Pl) (y z : Value) (eq : Bool) (a : Option Addr) (n c : Nat) (w : World) : (method 157 138 (.agg #[.int .i64 p.b, .int .i64 p.g, .int .i64 p.l, .int .i64 p.c, y, z, .bool eq, .slice a n c]) "Place").run Tryd.prog w = .ok (119, .agg #[.int .i64 p.b, .int .i64 p.g, .int .i64 p.l, .int .i64 p.c]) w := by kernel_rfl
set_option maxRecDepth 100000 in
set_option maxHeartbeats 16000000 in
theorem lines_step {k : Nat} (ih : LnC k) : LnC (k + 1) := by
  intro l a n c vs d B0 B v acc w hk hok ho hs hrow hb hacc hd hB
  have hnL : n = l.toL.length := by
    have h1 := SmsAre.len l vs hs
    have h2 := ho.1
    omega
  have hnk := toL_len l
  have hflat := lnSms_flat d l
  obtain ⟨L, hL⟩ : ∃ L, l.toL = L := ⟨_, rfl⟩
  have hget := fun i s (hi : L[i]? = some s) => SmsAre.get l vs i s hs (by rw [hL]; exact hi)
  have hsub := fun s (hi : s ∈ L) => sms_sub l s (by rw [hL]; exact hi)
  have htak := fun i s (hi : L[i]? = some s) => ln_take d l i s (by rw [hL]; exact hi)
  have hbnd := fun i s (hi : L[i]? = some s) => lnB_take d l i s hb (by rw [hL]; exact hi)
  rw [hL] at hnL hflat hnk
  rw [hL] at htak
  rw [hflat]
  have hlsz : l.sz ≤ k + 1 := hk
  have hnl2 : L.length ≤ 100000 := by omega
  have hoth : Other (fun j => v.ownBlock = some j) B0 w := other_line hrow
  have hf0 : Fr No w ((w.alloc (outO v)).alloc (depO d)) := ((Fr.refl No w).alloc _).alloc _
  have hK0 : LnK w v B w.heap.size (w.heap.size + 1) d ((w.alloc (outO v)).alloc (depO d)) acc := by
    refine ⟨v, (Blk.new w _).alloc _, ?_, own_fr hrow hf0 (fun _ _ x => x), hf0.mono (fun _ _ x => x.elim), fun k h => Or.inl h⟩
    have h := Blk.new (w.alloc (outO v)) (depO d)
    rwa [alloc_size] at h
  unfold outO depO at hK0
  have HH := Lib.hid (And.intro hget (And.intro hsub (And.intro htak (And.intro hbnd (And.intro hs (And.intro ho (And.intro hok hoth)))))))
  have HR := Lib.hid hrow
  clear hL hget hsub hflat hs hok hoth htak hbnd hb
  subst hnL
  have hvf := own_form hrow
  obtain ⟨av, cv, rfl⟩ := hvf
  go_enter Tryd.func38, Tryd.ntmps38
  go_wp2_with fail
  go_loopg [19] L.length (fun gk x19 wr => ∃ i : Nat, gk = L.length - i ∧ i ≤ L.length ∧ x19 = .int .i64 i ∧ LnK w (.slice av acc.length cv) B w.heap.size (w.heap.size + 1) d wr (acc ++ (L.take i).flatMap (lnSm d)))
  case atStart => exact ⟨0, rfl, Nat.zero_le _, rfl, by simpa using hK0⟩
  case round =>
    clear hK0 ho hrow
    obtain ⟨i, hgk, hi, rfl, hK⟩ := hrel
    have HG := Lib.hid hgk
    clear hgk
    by_cases hlt : i < L.length
    · obtain ⟨s, hsi⟩ : ∃ s, L[i]? = some s := ⟨L[i], List.getElem?_eq_getElem hlt⟩
      obtain ⟨sv, hv, hsm⟩ := HH.out.1 i s hsi
      have hssz := HH.out.2.1 s (List.mem_of_getElem? hsi)
      have hsok := hssz.2 HH.out.2.2.2.2.2.2.1
      have hss : s.sz < l.sz := hssz.1
      have htk := HH.out.2.2.1 i s hsi
      have hbd := HH.out.2.2.2.1 i s hsi
      have hf1 := hK.fr
      have hor := own_other HH.out.2.2.2.2.2.1 hf1 HH.out.2.2.2.2.2.2.2 (Or.inr (Or.inl rfl))
      have hsm1 := SmIs.other hf1 HH.out.2.2.2.2.2.2.2 s sv hsm
      have hsuc : acc ++ (L.take (i + 1)).flatMap (lnSm d) = (acc ++ (L.take i).flatMap (lnSm d)) ++ lnSm d s := by
        rw [List.take_add_one, hsi, List.flatMap_append, List.append_assoc]
        simp
      have hal : (acc ++ (L.take i).flatMap (lnSm d)).length + s.sz < 100000 := by rw [List.length_append]; omega
      obtain ⟨AC, hAC⟩ : ∃ AC, acc ++ (L.take i).flatMap (lnSm d) = AC := ⟨_, rfl⟩
      rw [hAC] at hK hsuc hal
      rcases own_cases hor with ⟨_, h2, _⟩ | ⟨g, cap, h1, hBg, hgl, hcap⟩
      · omega
      · simp only [Value.slice.injEq] at h1
        obtain ⟨rfl, _, rfl⟩ := h1
        have hc1 := own_cell hor hv
        have i1 : (0 : Int) ≤ (i : Int) := by omega
        have i2 : (i : Int) < (L.length : Int) := by omega
        have hds : d + s.sz ≤ 100000 := by omega
        have hks : s.sz ≤ k := by omega
        have HS := Lib.hid (And.intro hsi (And.intro hAC hsuc))
        have hkd := fun (W : World) (f : Fr (fun j => (Value.slice av acc.length cv).ownBlock = some j) w W) => kind_calls (SmIs.other f HH.out.2.2.2.2.2.2.2 s sv hsm)
        have hhd := fun (W : World) (f : Fr (fun j => (Value.slice av acc.length cv).ownBlock = some j) w W) (hl : (hdS s).length ≤ 1000000000) => head_calls (SmIs.other f HH.out.2.2.2.2.2.2.2 s sv hsm) (okS_ok1 hsok) hl
        clear hsi hAC hsuc hv hsm1 hssz hor hss htk hf1
        cases s with
        | set p k0 x e =>
          obtain ⟨y, rfl⟩ : ∃ y, sv = .iface 154 (.agg #[.int .i64 p.b, .int .i64 p.g, .int .i64 p.l, .int .i64 p.c, .int .i64 k0, .string ⟨x.toArray⟩, y]) := by
            cases e with
            | none => simp only [SmIs] at hsm; exact ⟨_, hsm⟩
            | some n => simp only [SmIs] at hsm; obtain ⟨y, _, h⟩ := hsm; exact ⟨_, h⟩
          have hm : lnSm d (.set p k0 x e : Sm) = ⟨kdS (.set p k0 x e : Sm), d, hdS (.set p k0 x e : Sm), p⟩ :: [] := by simp only [lnSm]
          have hb1 : LnB (⟨kdS (.set p k0 x e : Sm), d, hdS (.set p k0 x e : Sm), p⟩ :: []) := by rw [← hm]; exact hbd
          have hb2 := (LnB.cons.mp hb1).1
          have hb3 := (LnB.cons.mp hb1).2
          simp only at hb2
          rw [hm] at HS
          have hkd := fun (W : World) (f : Fr (fun j => (Value.slice av acc.length cv).ownBlock = some j) w W) => hkd W f
          have hhd := fun (W : World) (f : Fr (fun j => (Value.slice av acc.length cv).ownBlock = some j) w W) => hhd W f (by omega)
          have na := fun (W : World) => nila_Set p k0 ⟨x.toArray⟩ y W
          have me := fun (W : World) => meth_Set p k0 ⟨x.toArray⟩ y W
          generalize hKD : kdS (.set p k0 x e : Sm) = KD at *
          generalize hHD : hdS (.set p k0 x e : Sm) = HD at *
          clear hm hbd hb1
          have HC := Lib.hid (And.intro hkd (And.intro hhd (And.intro hb3 hsok)))
          clear hkd hhd hb3 hsok hKD hHD
          have s0 := pa_Choose_Set
          have s1 := pa_Loop_Set
          have s2 := pa_While_Set
          have s3 := pa_If_Set
          go_wp2_with fail
          refine (HC.out.1 _ hK.fr).mono ?_
          rintro e w1 ⟨rfl, hf2⟩
          have hK1 := hK.no hf2
          go_wp2_with fail
          refine (HC.out.2.1 _ hK1.fr).mono ?_
          rintro e w2 ⟨rfl, hf3⟩
          have hK2 := hK1.no hf3
          clear hK1 hf2 hf3
          go_wp2_with fail
          refine (place_calls p).mono ?_
          rintro e w3 ⟨rfl, hf5⟩
          have hK3 := hK2.no hf5
          clear hK2 hf5
          unfold plA
          go_wp2_with fail
          refine (ln_line (d := d) ⟨KD, d, HD, p⟩ rfl (by omega) (by omega) hB (Nat.le_refl _) hK3).mono ?_
          rintro e w4 ⟨rfl, hK4, _⟩
          clear hK3
          go_wp2_with fail
          go_roundg (L.length - (i + 1))
          case measure => rw [HG.out]; omega
          case rel => exact ⟨i + 1, rfl, by omega, by go_num, by rw [HS.out.2.2]; exact hK4⟩

        | skip p =>
          simp only [SmIs] at hsm
          subst hsm
          have hm : lnSm d (.skip p : Sm) = ⟨kdS (.skip p : Sm), d, hdS (.skip p : Sm), p⟩ :: [] := by simp only [lnSm, hdS]
          have hb1 : LnB (⟨kdS (.skip p : Sm), d, hdS (.skip p : Sm), p⟩ :: []) := by rw [← hm]; exact hbd
          have hb2 := (LnB.cons.mp hb1).1
          have hb3 := (LnB.cons.mp hb1).2
          simp only at hb2
          rw [hm] at HS
          have hkd := fun (W : World) (f : Fr (fun j => (Value.slice av acc.length cv).ownBlock = some j) w W) => hkd W f
          have hhd := fun (W : World) (f : Fr (fun j => (Value.slice av acc.length cv).ownBlock = some j) w W) => hhd W f (by omega)
          have na := fun (W : World) => nila_Skip p  W
          have me := fun (W : World) => meth_Skip p  W
          generalize hKD : kdS (.skip p : Sm) = KD at *
          generalize hHD : hdS (.skip p : Sm) = HD at *
          clear hm hbd hb1
          have HC := Lib.hid (And.intro hkd (And.intro hhd (And.intro hb3 hsok)))
          clear hkd hhd hb3 hsok hKD hHD
          have s0 := pa_Choose_Skip
          have s1 := pa_Loop_Skip
          have s2 := pa_While_Skip
          have s3 := pa_If_Skip
          go_wp2_with fail
          refine (HC.out.1 _ hK.fr).mono ?_
          rintro e w1 ⟨rfl, hf2⟩
          have hK1 := hK.no hf2
          go_wp2_with fail
          refine (HC.out.2.1 _ hK1.fr).mono ?_
          rintro e w2 ⟨rfl, hf3⟩
          have hK2 := hK1.no hf3
          clear hK1 hf2 hf3
          go_wp2_with fail
          refine (place_calls p).mono ?_
          rintro e w3 ⟨rfl, hf5⟩
          have hK3 := hK2.no hf5
          clear hK2 hf5
          unfold plA
          go_wp2_with fail
          refine (ln_line (d := d) ⟨KD, d, HD, p⟩ rfl (by omega) (by omega) hB (Nat.le_refl _) hK3).mono ?_
          rintro e w4 ⟨rfl, hK4, _⟩
          clear hK3
          go_wp2_with fail
          go_roundg (L.length - (i + 1))
          case measure => rw [HG.out]; omega
          case rel => exact ⟨i + 1, rfl, by omega, by go_num, by rw [HS.out.2.2]; exact hK4⟩

        | stop p =>
          simp only [SmIs] at hsm
          subst hsm
          have hm : lnSm d (.stop p : Sm) = ⟨kdS (.stop p : Sm), d, hdS (.stop p : Sm), p⟩ :: [] := by simp only [lnSm, hdS]
          have hb1 : LnB (⟨kdS (.stop p : Sm), d, hdS (.stop p : Sm), p⟩ :: []) := by rw [← hm]; exact hbd
          have hb2 := (LnB.cons.mp hb1).1
          have hb3 := (LnB.cons.mp hb1).2
          simp only at hb2
          rw [hm] at HS
          have hkd := fun (W : World) (f : Fr (fun j => (Value.slice av acc.length cv).ownBlock = some j) w W) => hkd W f
          have hhd := fun (W : World) (f : Fr (fun j => (Value.slice av acc.length cv).ownBlock = some j) w W) => hhd W f (by omega)
          have na := fun (W : World) => nila_Stop p  W
          have me := fun (W : World) => meth_Stop p  W
          generalize hKD : kdS (.stop p : Sm) = KD at *
          generalize hHD : hdS (.stop p : Sm) = HD at *
          clear hm hbd hb1
          have HC := Lib.hid (And.intro hkd (And.intro hhd (And.intro hb3 hsok)))
          clear hkd hhd hb3 hsok hKD hHD
          have s0 := pa_Choose_Stop
          have s1 := pa_Loop_Stop
          have s2 := pa_While_Stop
          have s3 := pa_If_Stop
          go_wp2_with fail
          refine (HC.out.1 _ hK.fr).mono ?_
          rintro e w1 ⟨rfl, hf2⟩
          have hK1 := hK.no hf2
          go_wp2_with fail
          refine (HC.out.2.1 _ hK1.fr).mono ?_
          rintro e w2 ⟨rfl, hf3⟩
          have hK2 := hK1.no hf3
          clear hK1 hf2 hf3
          go_wp2_with fail
          refine (place_calls p).mono ?_
          rintro e w3 ⟨rfl, hf5⟩
          have hK3 := hK2.no hf5
          clear hK2 hf5
          unfold plA
          go_wp2_with fail
          refine (ln_line (d := d) ⟨KD, d, HD, p⟩ rfl (by omega) (by omega) hB (Nat.le_refl _) hK3).mono ?_
          rintro e w4 ⟨rfl, hK4, _⟩
          clear hK3
          go_wp2_with fail
          go_roundg (L.length - (i + 1))
          case measure => rw [HG.out]; omega
          case rel => exact ⟨i + 1, rfl, by omega, by go_num, by rw [HS.out.2.2]; exact hK4⟩

        | mark p x =>
          simp only [SmIs] at hsm
          subst hsm
          have hm : lnSm d (.mark p x : Sm) = ⟨kdS (.mark p x : Sm), d, hdS (.mark p x : Sm), p⟩ :: [] := by simp only [lnSm]
          have hb1 : LnB (⟨kdS (.mark p x : Sm), d, hdS (.mark p x : Sm), p⟩ :: []) := by rw [← hm]; exact hbd
          have hb2 := (LnB.cons.mp hb1).1
          have hb3 := (LnB.cons.mp hb1).2
          simp only at hb2
          rw [hm] at HS
          have hkd := fun (W : World) (f : Fr (fun j => (Value.slice av acc.length cv).ownBlock = some j) w W) => hkd W f
          have hhd := fun (W : World) (f : Fr (fun j => (Value.slice av acc.length cv).ownBlock = some j) w W) => hhd W f (by omega)
          have na := fun (W : World) => nila_Mark p ⟨x.toArray⟩ W
          have me := fun (W : World) => meth_Mark p ⟨x.toArray⟩ W
          generalize hKD : kdS (.mark p x : Sm) = KD at *
          generalize hHD : hdS (.mark p x : Sm) = HD at *
          clear hm hbd hb1
          have HC := Lib.hid (And.intro hkd (And.intro hhd (And.intro hb3 hsok)))
          clear hkd hhd hb3 hsok hKD hHD
          have s0 := pa_Choose_Mark
          have s1 := pa_Loop_Mark
          have s2 := pa_While_Mark
          have s3 := pa_If_Mark
          go_wp2_with fail
          refine (HC.out.1 _ hK.fr).mono ?_
          rintro e w1 ⟨rfl, hf2⟩
          have hK1 := hK.no hf2
          go_wp2_with fail
          refine (HC.out.2.1 _ hK1.fr).mono ?_
          rintro e w2 ⟨rfl, hf3⟩
          have hK2 := hK1.no hf3
          clear hK1 hf2 hf3
          go_wp2_with fail
          refine (place_calls p).mono ?_
          rintro e w3 ⟨rfl, hf5⟩
          have hK3 := hK2.no hf5
          clear hK2 hf5
          unfold plA
          go_wp2_with fail
          refine (ln_line (d := d) ⟨KD, d, HD, p⟩ rfl (by omega) (by omega) hB (Nat.le_refl _) hK3).mono ?_
          rintro e w4 ⟨rfl, hK4, _⟩
          clear hK3
          go_wp2_with fail
          go_roundg (L.length - (i + 1))
          case measure => rw [HG.out]; omega
          case rel => exact ⟨i + 1, rfl, by omega, by go_num, by rw [HS.out.2.2]; exact hK4⟩

        | choose p b =>
          simp only [SmIs] at hsm
          obtain ⟨a2, n2, c2, vs2, so, sl, rfl⟩ := hsm
          have hm : lnSm d (.choose p b : Sm) = ⟨kdS (.choose p b : Sm), d, hdS (.choose p b : Sm), p⟩ :: lnBl d 0 b := by simp only [lnSm, hdS]
          have hb1 : LnB (⟨kdS (.choose p b : Sm), d, hdS (.choose p b : Sm), p⟩ :: lnBl d 0 b) := by rw [← hm]; exact hbd
          have hb2 := (LnB.cons.mp hb1).1
          have hb3 := (LnB.cons.mp hb1).2
          simp only at hb2
          rw [hm] at HS
          have hkd := fun (W : World) (f : Fr (fun j => (Value.slice av acc.length cv).ownBlock = some j) w W) => hkd W f
          have hhd := fun (W : World) (f : Fr (fun j => (Value.slice av acc.length cv).ownBlock = some j) w W) => hhd W f (by omega)
          have na := fun (W : World) => nila_Choose p a2 n2 c2 W
          have me := fun (W : World) => meth_Choose p a2 n2 c2 W
          generalize hKD : kdS (.choose p b : Sm) = KD at *
          generalize hHD : hdS (.choose p b : Sm) = HD at *
          clear hm hbd hb1
          have HC := Lib.hid (And.intro hkd (And.intro hhd (And.intro hb3 hsok)))
          clear hkd hhd hb3 hsok hKD hHD
          have HB := Lib.hid (And.intro so (sl))
          clear so sl
          have s0 := pa_Choose_Choose
          go_wp2_with fail
          refine (HC.out.1 _ hK.fr).mono ?_
          rintro e w1 ⟨rfl, hf2⟩
          have hK1 := hK.no hf2
          go_wp2_with fail
          refine (HC.out.2.1 _ hK1.fr).mono ?_
          rintro e w2 ⟨rfl, hf3⟩
          have hK2 := hK1.no hf3
          clear hK1 hf2 hf3
          go_wp2_with fail
          refine (place_calls p).mono ?_
          rintro e w3 ⟨rfl, hf5⟩
          have hK3 := hK2.no hf5
          clear hK2 hf5
          unfold plA
          go_wp2_with fail
          refine (ln_line (d := d) ⟨KD, d, HD, p⟩ rfl (by omega) (by omega) hB (Nat.le_refl _) hK3).mono ?_
          rintro e w4 ⟨rfl, hK4, _⟩
          clear hK3
          have hn2 : n2 = b.toP.length := by
            have h1 := BlsAre.lenP b vs2 HB.out.2
            have h2 := HB.out.1.1
            omega
          obtain ⟨BL, hBL⟩ : ∃ BL, b.toP = BL := ⟨_, rfl⟩
          have hgP := fun j x (h : BL[j]? = some x) => BlsAre.getP b vs2 j x HB.out.2 (by rw [hBL]; exact h)
          have htP := fun j x (h : BL[j]? = some x) => ln_takeP d b 0 j x (by rw [hBL]; exact h)
          have hbP := fun j x (h : BL[j]? = some x) => lnB_takeP d b 0 j x HC.out.2.2.1 (by rw [hBL]; exact h)
          have hrw := lnBl_rows d b 0
          have hszb := blks_len b
          have hlT : b.toP.length = b.toL.length := by
            have h1 := BlsAre.lenP b vs2 HB.out.2
            have h2 := BlsAre.len b vs2 HB.out.2
            omega
          rw [hBL] at hn2 hrw htP hlT
          have hbl : BL.length ≤ 100000 := by simp only [Sm.sz] at hal; omega
          have HP := Lib.hid (And.intro hgP (And.intro htP (And.intro hbP (And.intro hrw (And.intro HB.out.1 (by have h := HC.out.2.2.2; simp only [Sm.okS] at h; exact h))))))
          clear hgP htP hbP hrw hBL hszb hlT HB
          subst hn2
          simp only [Sm.sz] at hal hds hks
          have hKc := hK4.no ((Fr.refl No w4).alloc (.cells #[.int .i64 p.b, .int .i64 p.g, .int .i64 p.l, .int .i64 p.c, .slice a2 BL.length c2] 129 (0, 0)))
          clear hK4 hK
          obtain ⟨HDL, hHDL⟩ : ∃ HDL : Ln, HDL = ⟨KD, d, HD, p⟩ := ⟨_, rfl⟩
          rw [← hHDL] at hKc
          have HDLh := Lib.hid hHDL
          clear hHDL
          go_wp2_with fail
          obtain ⟨wo, rfl⟩ : ∃ wo : World, wo = wr := ⟨_, rfl⟩
          go_loopg [38] BL.length (fun gk x38 wr => ∃ j : Nat, gk = BL.length - j ∧ j ≤ BL.length ∧ x38 = .int .i64 j ∧ LnK w (.slice av acc.length cv) B w.heap.size (w.heap.size + 1) d wr (AC ++ [HDL] ++ lnRows d 0 (BL.take j)))
          case atStart => exact ⟨0, rfl, Nat.zero_le _, rfl, by simpa [lnRows] using hKc⟩
          case round =>
            clear hKc
            obtain ⟨j, hgj, hj, rfl, hKj⟩ := hrel
            have HJ := Lib.hid hgj
            clear hgj
            by_cases hjlt : j < BL.length
            · obtain ⟨x, hx⟩ : ∃ x, BL[j]? = some x := ⟨BL[j], List.getElem?_eq_getElem hjlt⟩
              obtain ⟨a4, n4, c4, bs4, y0, y1, y2, y3, y4, y5, y6⟩ := HP.out.1 j x hx
              have htk := (HP.out.2.1 j x hx).1
              have hxok := (HP.out.2.1 j x hx).2 HP.out.2.2.2.2.2
              have hxb := HP.out.2.2.1 j x hx
              have hsx := lnRows_succ d hx
              have hrb := own_other HP.out.2.2.2.2.1 hKj.fr HH.out.2.2.2.2.2.2.2 (Or.inr (Or.inr rfl))
              have q9 : w.heap.size < wr.heap.size := by obtain ⟨_, k1, _⟩ := hKj; exact k1.lt
              have q8 : w.heap.size + 1 < wr.heap.size := by obtain ⟨_, _, k1, _⟩ := hKj; exact k1.lt
              rcases own_cases hrb with ⟨_, h2, _⟩ | ⟨g4, cap4, h1, hBg4, hgl4, hcap4⟩
              · omega
              · simp only [Value.slice.injEq] at h1
                obtain ⟨rfl, _, rfl⟩ := h1
                have r0 := own_cell hrb y0
                have r1 := own_cell hrb y1
                have r2 := own_cell hrb y2
                have r3 := own_cell hrb y3
                have r4 := own_cell hrb y4
                have j1 : (0 : Int) ≤ (j : Int) := by omega
                have j2 : (j : Int) < (BL.length : Int) := by omega
                obtain ⟨q, bb⟩ := x
                simp only at r0 r1 r2 r3 r4 htk hxok hxb y5 y6
                obtain ⟨RW, hRW⟩ : ∃ RW, lnRows d 0 (BL.take j) = RW := ⟨_, rfl⟩
                rw [hRW] at htk hKj hsx
                have HX := Lib.hid (And.intro hxok (And.intro hxb (And.intro hsx (And.intro y5 y6))))
                clear hxok hxb hsx y0 y1 y2 y3 y4 y5 y6 hrb hRW hx
                by_cases hj0 : j = 0
                · have hd1 : decide ((0 : Int) < (j : Int)) = false := by rw [decide_eq_false_iff_not]; omega
                  have hd2 : decide (0 < j) = false := by rw [decide_eq_false_iff_not]; omega
                  have HJ0 := Lib.hid hj0
                  clear hj0
                  obtain ⟨v5, k1, k2, k3, k4, k5⟩ := hKj
                  obtain ⟨a5, c5, rfl⟩ := own_form k3
                  have R := Blk.all k1
                  have R2 := Blk.all k2
                  have Z := Blk.frees k1
                  have q1 := k1.lt
                  have q2 := k2.lt
                  have hal5 := (Fr.refl No wr).alloc (.cells #[.int .i64 q.b, .int .i64 q.g, .int .i64 q.l, .int .i64 q.c, .slice a4 n4 c4] 131 (0, 0))
                  have m1 := k1.fr hal5 (fun x => x)
                  have m2 := k2.fr hal5 (fun x => x)
                  have m3 : LnOwn _ B _ _ := own_fr k3 hal5 (fun _ _ x => x)
                  have m4 := k4.callNo hal5
                  simp only [List.length_append, List.length_cons, List.length_nil, Nat.zero_add] at k3 R k1 k5 m1 m3 ⊢
                  have HM5 := Lib.hid (And.intro k5 (And.intro m1 (And.intro m2 (And.intro m3 m4))))
                  clear k1 k2 k3 k4 k5 m1 m2 m3 m4 hal5
                  go_wp2_with fail
                  rw [show ((d : Int) + 1) = ((d + 1 : Nat) : Int) from rfl]
                  refine (ih bb a4 n4 c4 bs4 (d + 1) B0 B _ _ _ (by omega) HX.out.1 (own_other HX.out.2.2.2.1 HM5.out.2.2.2.2 HH.out.2.2.2.2.2.2.2 (Or.inr (Or.inl rfl))) (SmsAre.other HM5.out.2.2.2.2 HH.out.2.2.2.2.2.2.2 _ _ HX.out.2.2.2.2) HM5.out.2.2.2.1 HX.out.2.1 (by simp only [List.length_append, List.length_cons, List.length_nil]; omega) (by omega) (Nat.le_trans hB HM5.out.2.2.2.2.size)).mono ?_
                  rintro e w5' ⟨v5', rfl, o5, f5, k5⟩
                  obtain ⟨M5, hM5, o5⟩ := own_M o5
                  have HL5 := Lib.hid hM5
                  clear hM5
                  have hT5 := ln_rec (by omega) (Nat.le_refl _) HM5.out.2.1 HM5.out.2.2.1 HM5.out.2.2.2.1 HM5.out.2.2.2.2 HM5.out.1 o5 f5 k5
                  obtain ⟨a5', c5', rfl⟩ := own_form o5
                  have b5 := HM5.out.2.1.fr f5 (fun e => own_ne HM5.out.2.2.2.1 HM5.out.2.1 (by decide) e)
                  have R5 := Blk.all b5
                  have Z5 := Blk.frees b5
                  go_wp2_with fail
                  go_roundg (BL.length - (j + 1))
                  case measure => rw [HJ.out]; omega
                  case rel =>
                    refine ⟨j + 1, rfl, by omega, by go_num, ?_⟩
                    rw [HX.out.2.2.1]
                    unfold lnRw
                    rw [if_pos HJ0.out]
                    exact LnK.as0 hT5.1 (by rw [← HL5.out]; simp)
                · have hd1 : decide ((0 : Int) < (j : Int)) = true := by rw [decide_eq_true_iff]; omega
                  have hd2 : decide (0 < j) = true := by rw [decide_eq_true_iff]; omega
                  have HJ0 := Lib.hid hj0
                  clear hj0
                  have hKk := hKj.no ((Fr.refl No wr).alloc (.cells #[.int .i64 q.b, .int .i64 q.g, .int .i64 q.l, .int .i64 q.c, .slice a4 n4 c4] 131 (0, 0)))
                  have bN := Blk.new wr (.cells #[.int .i64 q.b, .int .i64 q.g, .int .i64 q.l, .int .i64 q.c, .slice a4 n4 c4] 131 (0, 0))
                  have HBN := Lib.hid bN
                  clear bN hKj
                  go_wp2_with fail
                  refine (ln_line (d := d) ⟨8, d, or_, q⟩ rfl (by simp only [List.length_append, List.length_cons, List.length_nil]; omega) (by omega) hB (Nat.le_refl _) hKk).mono ?_
                  rintro e w7 ⟨rfl, hK7, f7⟩
                  have bN7 := HBN.out.fr f7 (Lw.not HBN.out (by decide) (by omega))
                  clear hKk f7
                  have RN := Blk.all bN7
                  obtain ⟨v6, k1, k2, k3, k4, k5⟩ := hK7
                  obtain ⟨a6, c6, rfl⟩ := own_form k3
                  have R := Blk.all k1
                  have R2 := Blk.all k2
                  have Z := Blk.frees k1
                  have q1 := k1.lt
                  have q2 := k2.lt
                  have hal6 := Fr.refl No w7
                  have m1 := k1.fr hal6 (fun x => x)
                  have m2 := k2.fr hal6 (fun x => x)
                  have m3 : LnOwn _ B _ _ := own_fr k3 hal6 (fun _ _ x => x)
                  have m4 := k4.callNo hal6
                  simp only [List.length_append, List.length_cons, List.length_nil, Nat.zero_add] at k3 R k1 k5 m1 m3 ⊢
                  have HM6 := Lib.hid (And.intro k5 (And.intro m1 (And.intro m2 (And.intro m3 m4))))
                  clear k1 k2 k3 k4 k5 m1 m2 m3 m4 hal6
                  go_wp2_with fail
                  rw [show ((d : Int) + 1) = ((d + 1 : Nat) : Int) from rfl]
                  refine (ih bb a4 n4 c4 bs4 (d + 1) B0 B _ _ _ (by omega) HX.out.1 (own_other HX.out.2.2.2.1 HM6.out.2.2.2.2 HH.out.2.2.2.2.2.2.2 (Or.inr (Or.inl rfl))) (SmsAre.other HM6.out.2.2.2.2 HH.out.2.2.2.2.2.2.2 _ _ HX.out.2.2.2.2) HM6.out.2.2.2.1 HX.out.2.1 (by simp only [List.length_append, List.length_cons, List.length_nil]; omega) (by omega) (Nat.le_trans hB HM6.out.2.2.2.2.size)).mono ?_
                  rintro e w6' ⟨v6', rfl, o6, f6, k6⟩
                  obtain ⟨M6, hM6, o6⟩ := own_M o6
                  have HL6 := Lib.hid hM6
                  clear hM6
                  have hT6 := ln_rec (by omega) (Nat.le_refl _) HM6.out.2.1 HM6.out.2.2.1 HM6.out.2.2.2.1 HM6.out.2.2.2.2 HM6.out.1 o6 f6 k6
                  obtain ⟨a6', c6', rfl⟩ := own_form o6
                  have b6 := HM6.out.2.1.fr f6 (fun e => own_ne HM6.out.2.2.2.1 HM6.out.2.1 (by decide) e)
                  have R6 := Blk.all b6
                  have Z6 := Blk.frees b6
                  go_wp2_with fail
                  go_roundg (BL.length - (j + 1))
                  case measure => rw [HJ.out]; omega
                  case rel =>
                    refine ⟨j + 1, rfl, by omega, by go_num, ?_⟩
                    rw [HX.out.2.2.1]
                    unfold lnRw
                    rw [if_neg HJ0.out]
                    exact LnK.as0 hT6.1 (by rw [← HL6.out]; simp)
            · obtain rfl : j = BL.length := by omega
              have j2 : ¬ ((BL.length : Int) < (BL.length : Int)) := by omega
              rw [List.take_length] at hKj
              go_wp2_with fail
              go_roundg (L.length - (i + 1))
              case measure => rw [HG.out]; omega
              case rel => exact ⟨i + 1, rfl, by omega, by go_num, by rw [HS.out.2.2]; exact (by rw [HP.out.2.2.2.1, ← HDLh.out]; exact LnK.as0 hKj (by simp))⟩

        | loop p b =>
          simp only [SmIs] at hsm
          obtain ⟨a2, n2, c2, vs2, so, sl, rfl⟩ := hsm
          have hm : lnSm d (.loop p b : Sm) = ⟨kdS (.loop p b : Sm), d, hdS (.loop p b : Sm), p⟩ :: lnSms (d + 1) b := by simp only [lnSm, hdS]
          have hb1 : LnB (⟨kdS (.loop p b : Sm), d, hdS (.loop p b : Sm), p⟩ :: lnSms (d + 1) b) := by rw [← hm]; exact hbd
          have hb2 := (LnB.cons.mp hb1).1
          have hb3 := (LnB.cons.mp hb1).2
          simp only at hb2
          rw [hm] at HS
          have hkd := fun (W : World) (f : Fr (fun j => (Value.slice av acc.length cv).ownBlock = some j) w W) => hkd W f
          have hhd := fun (W : World) (f : Fr (fun j => (Value.slice av acc.length cv).ownBlock = some j) w W) => hhd W f (by omega)
          have na := fun (W : World) => nila_Loop p a2 n2 c2 W
          have me := fun (W : World) => meth_Loop p a2 n2 c2 W
          generalize hKD : kdS (.loop p b : Sm) = KD at *
          generalize hHD : hdS (.loop p b : Sm) = HD at *
          clear hm hbd hb1
          have HC := Lib.hid (And.intro hkd (And.intro hhd (And.intro hb3 hsok)))
          clear hkd hhd hb3 hsok hKD hHD
          have HB := Lib.hid (And.intro so (sl))
          clear so sl
          have s0 := pa_Choose_Loop
          have s1 := pa_Loop_Loop
          go_wp2_with fail
          refine (HC.out.1 _ hK.fr).mono ?_
          rintro e w1 ⟨rfl, hf2⟩
          have hK1 := hK.no hf2
          go_wp2_with fail
          refine (HC.out.2.1 _ hK1.fr).mono ?_
          rintro e w2 ⟨rfl, hf3⟩
          have hK2 := hK1.no hf3
          clear hK1 hf2 hf3
          go_wp2_with fail
          refine (place_calls p).mono ?_
          rintro e w3 ⟨rfl, hf5⟩
          have hK3 := hK2.no hf5
          clear hK2 hf5
          unfold plA
          go_wp2_with fail
          refine (ln_line (d := d) ⟨KD, d, HD, p⟩ rfl (by omega) (by omega) hB (Nat.le_refl _) hK3).mono ?_
          rintro e w4 ⟨rfl, hK4, _⟩
          clear hK3
          obtain ⟨v4, k1, k2, k3, k4, k5⟩ := hK4
          obtain ⟨a4, c4, rfl⟩ := own_form k3
          have R := Blk.all k1
          have R2 := Blk.all k2
          have Z := Blk.frees k1
          have q1 := k1.lt
          have q2 := k2.lt
          have hal4 := (Fr.refl No w4).alloc (.cells #[.int .i64 p.b, .int .i64 p.g, .int .i64 p.l, .int .i64 p.c, .slice a2 n2 c2] 132 (0, 0))
          have m1 := k1.fr hal4 (fun x => x)
          have m2 := k2.fr hal4 (fun x => x)
          have m3 : LnOwn _ B _ _ := own_fr k3 hal4 (fun _ _ x => x)
          have m4 := k4.callNo hal4
          simp only [List.length_append, List.length_cons, List.length_nil, Nat.zero_add] at k3 R k1 k5 m1 m3 ⊢
          have HM4 := Lib.hid (And.intro k5 (And.intro m1 (And.intro m2 (And.intro m3 m4))))
          clear k1 k2 k3 k4 k5 m1 m2 m3 m4 hal4
          go_wp2_with fail
          rw [show ((d : Int) + 1) = ((d + 1 : Nat) : Int) from rfl]
          refine (ih b a2 n2 c2 vs2 (d + 1) B0 B _ _ _ (by simp only [Sm.sz] at hks; omega) (by have h := HC.out.2.2.2; simpa [Sm.okS] using h) (own_other HB.out.1 HM4.out.2.2.2.2 HH.out.2.2.2.2.2.2.2 (Or.inr (Or.inl rfl))) (SmsAre.other HM4.out.2.2.2.2 HH.out.2.2.2.2.2.2.2 _ _ HB.out.2) HM4.out.2.2.2.1 HC.out.2.2.1 (by simp only [Sm.sz] at hal; simp only [List.length_append, List.length_cons, List.length_nil]; omega) (by simp only [Sm.sz] at hds; omega) (Nat.le_trans hB HM4.out.2.2.2.2.size)).mono ?_
          rintro e w4' ⟨v4', rfl, o4, f4, k4⟩
          obtain ⟨M4, hM4, o4⟩ := own_M o4
          have HL4 := Lib.hid hM4
          clear hM4
          have hT4 := ln_rec (by omega) (Nat.le_refl _) HM4.out.2.1 HM4.out.2.2.1 HM4.out.2.2.2.1 HM4.out.2.2.2.2 HM4.out.1 o4 f4 k4
          obtain ⟨a4', c4', rfl⟩ := own_form o4
          have b4 := HM4.out.2.1.fr f4 (fun e => own_ne HM4.out.2.2.2.1 HM4.out.2.1 (by decide) e)
          have R4 := Blk.all b4
          have Z4 := Blk.frees b4
          clear hK
          go_wp2_with fail
          go_roundg (L.length - (i + 1))
          case measure => rw [HG.out]; omega
          case rel => exact ⟨i + 1, rfl, by omega, by go_num, by rw [HS.out.2.2]; exact (LnK.as0 hT4.1 (by rw [← HL4.out]; simp))⟩

        | iff p l2 r2 eq t e =>
          cases e with
          | none =>
            simp only [SmIs] at hsm
            obtain ⟨y, z, a2, n2, c2, vs2, ev, hy, hz, so, sl, sq, rfl⟩ := hsm
            obtain ⟨ty, xy, rfl⟩ := hy.form
            obtain ⟨tz, xz, rfl⟩ := hz.form
            have hm : lnSm d (.iff p l2 r2 eq t .none : Sm) = ⟨kdS (.iff p l2 r2 eq t .none : Sm), d, hdS (.iff p l2 r2 eq t .none : Sm), p⟩ :: (lnSms (d + 1) t ++ lnEl d .none) := by simp only [lnSm]
            have hb1 : LnB (⟨kdS (.iff p l2 r2 eq t .none : Sm), d, hdS (.iff p l2 r2 eq t .none : Sm), p⟩ :: (lnSms (d + 1) t ++ lnEl d .none)) := by rw [← hm]; exact hbd
            have hb2 := (LnB.cons.mp hb1).1
            have hb3 := (LnB.cons.mp hb1).2
            simp only at hb2
            rw [hm] at HS
            have hkd := fun (W : World) (f : Fr (fun j => (Value.slice av acc.length cv).ownBlock = some j) w W) => hkd W f
            have hhd := fun (W : World) (f : Fr (fun j => (Value.slice av acc.length cv).ownBlock = some j) w W) => hhd W f (by omega)
            have na := fun (W : World) => nila_If p (.iface ty (.agg xy)) (.iface tz (.agg xz)) eq a2 n2 c2 ev W
            have me := fun (W : World) => meth_If p (.iface ty (.agg xy)) (.iface tz (.agg xz)) eq a2 n2 c2 ev W
            generalize hKD : kdS (.iff p l2 r2 eq t .none : Sm) = KD at *
            generalize hHD : hdS (.iff p l2 r2 eq t .none : Sm) = HD at *
            clear hm hbd hb1
            have HC := Lib.hid (And.intro hkd (And.intro hhd (And.intro hb3 hsok)))
            clear hkd hhd hb3 hsok hKD hHD
            have HB := Lib.hid (And.intro hy (And.intro hz (And.intro so (And.intro sl (sq)))))
            clear hy hz so sl sq
            have s0 := pa_Choose_If
            have s1 := pa_Loop_If
            have s2 := pa_While_If
            have s3 := pa_If_If
            go_wp2_with fail
            refine (HC.out.1 _ hK.fr).mono ?_
            rintro e w1 ⟨rfl, hf2⟩
            have hK1 := hK.no hf2
            go_wp2_with fail
            refine (HC.out.2.1 _ hK1.fr).mono ?_
            rintro e w2 ⟨rfl, hf3⟩
            have hK2 := hK1.no hf3
            clear hK1 hf2 hf3
            go_wp2_with fail
            refine (place_calls p).mono ?_
            rintro e w3 ⟨rfl, hf5⟩
            have hK3 := hK2.no hf5
            clear hK2 hf5
            unfold plA
            go_wp2_with fail
            refine (ln_line (d := d) ⟨KD, d, HD, p⟩ rfl (by omega) (by omega) hB (Nat.le_refl _) hK3).mono ?_
            rintro e w4 ⟨rfl, hK4, _⟩
            clear hK3
            have hlb := LnB.app.mp HC.out.2.2.1
            have hln := lnSms_len (d + 1) t
            have HLB := Lib.hid hlb
            clear hlb
            simp only [ElsIs] at HB
            have hev := HB.out.2.2.2.2
            subst hev
            have bN := Blk.new w4 (.cells #[.int .i64 p.b, .int .i64 p.g, .int .i64 p.l, .int .i64 p.c, .iface ty (.agg xy), .iface tz (.agg xz), .bool eq, .slice a2 n2 c2, .pointer none] 141 (0, 0))
            have q9 : w.heap.size < w4.heap.size := by obtain ⟨_, k1, _⟩ := hK4; exact k1.lt
            have HBN := Lib.hid bN
            clear bN
            obtain ⟨v4, k1, k2, k3, k4, k5⟩ := hK4
            obtain ⟨a4, c4, rfl⟩ := own_form k3
            have R := Blk.all k1
            have R2 := Blk.all k2
            have Z := Blk.frees k1
            have q1 := k1.lt
            have q2 := k2.lt
            have hal4 := (Fr.refl No w4).alloc (.cells #[.int .i64 p.b, .int .i64 p.g, .int .i64 p.l, .int .i64 p.c, .iface ty (.agg xy), .iface tz (.agg xz), .bool eq, .slice a2 n2 c2, .pointer none] 141 (0, 0))
            have m1 := k1.fr hal4 (fun x => x)
            have m2 := k2.fr hal4 (fun x => x)
            have m3 : LnOwn _ B _ _ := own_fr k3 hal4 (fun _ _ x => x)
            have m4 := k4.callNo hal4
            simp only [List.length_append, List.length_cons, List.length_nil, Nat.zero_add] at k3 R k1 k5 m1 m3 ⊢
            have HM4 := Lib.hid (And.intro k5 (And.intro m1 (And.intro m2 (And.intro m3 m4))))
            clear k1 k2 k3 k4 k5 m1 m2 m3 m4 hal4
            go_wp2_with fail
            rw [show ((d : Int) + 1) = ((d + 1 : Nat) : Int) from rfl]
            refine (ih t a2 n2 c2 vs2 (d + 1) B0 B _ _ _ (by simp only [Sm.sz, Els.sz] at hks; omega) (by have h := HC.out.2.2.2; simp only [Sm.okS, Els.okS] at h; exact h.2.2.1) (own_other HB.out.2.2.1 HM4.out.2.2.2.2 HH.out.2.2.2.2.2.2.2 (Or.inr (Or.inl rfl))) (SmsAre.other HM4.out.2.2.2.2 HH.out.2.2.2.2.2.2.2 _ _ HB.out.2.2.2.1) HM4.out.2.2.2.1 HLB.out.1 (by simp only [Sm.sz, Els.sz] at hal; simp only [List.length_append, List.length_cons, List.length_nil]; omega) (by simp only [Sm.sz, Els.sz] at hds; omega) (Nat.le_trans hB HM4.out.2.2.2.2.size)).mono ?_
            rintro e w4' ⟨v4', rfl, o4, f4, k4⟩
            obtain ⟨M4, hM4, o4⟩ := own_M o4
            have HL4 := Lib.hid hM4
            clear hM4
            have hT4 := ln_rec (by omega) (Nat.le_refl _) HM4.out.2.1 HM4.out.2.2.1 HM4.out.2.2.2.1 HM4.out.2.2.2.2 HM4.out.1 o4 f4 k4
            obtain ⟨a4', c4', rfl⟩ := own_form o4
            have b4 := HM4.out.2.1.fr f4 (fun e => own_ne HM4.out.2.2.2.1 HM4.out.2.1 (by decide) e)
            have R4 := Blk.all b4
            have Z4 := Blk.frees b4
            clear hK
            go_upto_region 25 with (fail)
            have bN4 := HBN.out.fr hT4.2 (Lw.not HBN.out (by decide) (by omega))
            obtain ⟨w6, hw6⟩ : ∃ w6, w4'.setCell ⟨w.heap.size, 0, none⟩ (.slice a4' M4.length c4') = w6 := ⟨_, rfl⟩
            rw [hw6] at hT4 bN4 ⊢
            have hK6 := hT4.1
            clear hT4 hw6 R R2 Z R4 Z4 b4 o4 f4 k4
            have RN := Blk.all bN4
            have hlN := bN4.lt
            go_wp2_with fail
            go_roundg (L.length - (i + 1))
            case measure => rw [HG.out]; omega
            case rel => exact ⟨i + 1, rfl, by omega, by go_num, by rw [HS.out.2.2]; exact (LnK.as0 hK6 (by rw [← HL4.out]; simp [lnEl]))⟩
          | some q b =>
            simp only [SmIs] at hsm
            obtain ⟨y, z, a2, n2, c2, vs2, ev, hy, hz, so, sl, sq, rfl⟩ := hsm
            obtain ⟨ty, xy, rfl⟩ := hy.form
            obtain ⟨tz, xz, rfl⟩ := hz.form
            have hm : lnSm d (.iff p l2 r2 eq t (.some q b) : Sm) = ⟨kdS (.iff p l2 r2 eq t (.some q b) : Sm), d, hdS (.iff p l2 r2 eq t (.some q b) : Sm), p⟩ :: (lnSms (d + 1) t ++ lnEl d (.some q b)) := by simp only [lnSm]
            have hb1 : LnB (⟨kdS (.iff p l2 r2 eq t (.some q b) : Sm), d, hdS (.iff p l2 r2 eq t (.some q b) : Sm), p⟩ :: (lnSms (d + 1) t ++ lnEl d (.some q b))) := by rw [← hm]; exact hbd
            have hb2 := (LnB.cons.mp hb1).1
            have hb3 := (LnB.cons.mp hb1).2
            simp only at hb2
            rw [hm] at HS
            have hkd := fun (W : World) (f : Fr (fun j => (Value.slice av acc.length cv).ownBlock = some j) w W) => hkd W f
            have hhd := fun (W : World) (f : Fr (fun j => (Value.slice av acc.length cv).ownBlock = some j) w W) => hhd W f (by omega)
            have na := fun (W : World) => nila_If p (.iface ty (.agg xy)) (.iface tz (.agg xz)) eq a2 n2 c2 ev W
            have me := fun (W : World) => meth_If p (.iface ty (.agg xy)) (.iface tz (.agg xz)) eq a2 n2 c2 ev W
            generalize hKD : kdS (.iff p l2 r2 eq t (.some q b) : Sm) = KD at *
            generalize hHD : hdS (.iff p l2 r2 eq t (.some q b) : Sm) = HD at *
            clear hm hbd hb1
            have HC := Lib.hid (And.intro hkd (And.intro hhd (And.intro hb3 hsok)))
            clear hkd hhd hb3 hsok hKD hHD
            have HB := Lib.hid (And.intro hy (And.intro hz (And.intro so (And.intro sl (sq)))))
            clear hy hz so sl sq
            have s0 := pa_Choose_If
            have s1 := pa_Loop_If
            have s2 := pa_While_If
            have s3 := pa_If_If
            go_wp2_with fail
            refine (HC.out.1 _ hK.fr).mono ?_
            rintro e w1 ⟨rfl, hf2⟩
            have hK1 := hK.no hf2
            go_wp2_with fail
            refine (HC.out.2.1 _ hK1.fr).mono ?_
            rintro e w2 ⟨rfl, hf3⟩
            have hK2 := hK1.no hf3
            clear hK1 hf2 hf3
            go_wp2_with fail
            refine (place_calls p).mono ?_
            rintro e w3 ⟨rfl, hf5⟩
            have hK3 := hK2.no hf5
            clear hK2 hf5
            unfold plA
            go_wp2_with fail
            refine (ln_line (d := d) ⟨KD, d, HD, p⟩ rfl (by omega) (by omega) hB (Nat.le_refl _) hK3).mono ?_
            rintro e w4 ⟨rfl, hK4, _⟩
            clear hK3
            have hlb := LnB.app.mp HC.out.2.2.1
            have hln := lnSms_len (d + 1) t
            have HLB := Lib.hid hlb
            clear hlb
            simp only [ElsIs] at HB
            obtain ⟨g2, a3, n3, c3, vs3, hev, hg2, he, so3, sl3⟩ := HB.out.2.2.2.2
            subst hev
            have HE := Lib.hid (And.intro he (And.intro so3 sl3))
            clear he so3 sl3
            have bN := Blk.new w4 (.cells #[.int .i64 p.b, .int .i64 p.g, .int .i64 p.l, .int .i64 p.c, .iface ty (.agg xy), .iface tz (.agg xz), .bool eq, .slice a2 n2 c2, .pointer (some ⟨g2, 0, none⟩)] 141 (0, 0))
            have q9 : w.heap.size < w4.heap.size := by obtain ⟨_, k1, _⟩ := hK4; exact k1.lt
            have HBN := Lib.hid bN
            clear bN
            obtain ⟨v4, k1, k2, k3, k4, k5⟩ := hK4
            obtain ⟨a4, c4, rfl⟩ := own_form k3
            have R := Blk.all k1
            have R2 := Blk.all k2
            have Z := Blk.frees k1
            have q1 := k1.lt
            have q2 := k2.lt
            have hal4 := (Fr.refl No w4).alloc (.cells #[.int .i64 p.b, .int .i64 p.g, .int .i64 p.l, .int .i64 p.c, .iface ty (.agg xy), .iface tz (.agg xz), .bool eq, .slice a2 n2 c2, .pointer (some ⟨g2, 0, none⟩)] 141 (0, 0))
            have m1 := k1.fr hal4 (fun x => x)
            have m2 := k2.fr hal4 (fun x => x)
            have m3 : LnOwn _ B _ _ := own_fr k3 hal4 (fun _ _ x => x)
            have m4 := k4.callNo hal4
            simp only [List.length_append, List.length_cons, List.length_nil, Nat.zero_add] at k3 R k1 k5 m1 m3 ⊢
            have HM4 := Lib.hid (And.intro k5 (And.intro m1 (And.intro m2 (And.intro m3 m4))))
            clear k1 k2 k3 k4 k5 m1 m2 m3 m4 hal4
            go_wp2_with fail
            rw [show ((d : Int) + 1) = ((d + 1 : Nat) : Int) from rfl]
            refine (ih t a2 n2 c2 vs2 (d + 1) B0 B _ _ _ (by simp only [Sm.sz, Els.sz] at hks; omega) (by have h := HC.out.2.2.2; simp only [Sm.okS, Els.okS] at h; exact h.2.2.1) (own_other HB.out.2.2.1 HM4.out.2.2.2.2 HH.out.2.2.2.2.2.2.2 (Or.inr (Or.inl rfl))) (SmsAre.other HM4.out.2.2.2.2 HH.out.2.2.2.2.2.2.2 _ _ HB.out.2.2.2.1) HM4.out.2.2.2.1 HLB.out.1 (by simp only [Sm.sz, Els.sz] at hal; simp only [List.length_append, List.length_cons, List.length_nil]; omega) (by simp only [Sm.sz, Els.sz] at hds; omega) (Nat.le_trans hB HM4.out.2.2.2.2.size)).mono ?_
            rintro e w4' ⟨v4', rfl, o4, f4, k4⟩
            obtain ⟨M4, hM4, o4⟩ := own_M o4
            have HL4 := Lib.hid hM4
            clear hM4
            have hT4 := ln_rec (by omega) (Nat.le_refl _) HM4.out.2.1 HM4.out.2.2.1 HM4.out.2.2.2.1 HM4.out.2.2.2.2 HM4.out.1 o4 f4 k4
            obtain ⟨a4', c4', rfl⟩ := own_form o4
            have b4 := HM4.out.2.1.fr f4 (fun e => own_ne HM4.out.2.2.2.1 HM4.out.2.1 (by decide) e)
            have R4 := Blk.all b4
            have Z4 := Blk.frees b4
            clear hK
            go_upto_region 25 with (fail)
            have bN4 := HBN.out.fr hT4.2 (Lw.not HBN.out (by decide) (by omega))
            obtain ⟨w6, hw6⟩ : ∃ w6, w4'.setCell ⟨w.heap.size, 0, none⟩ (.slice a4' M4.length c4') = w6 := ⟨_, rfl⟩
            rw [hw6] at hT4 bN4 ⊢
            have hK6 := hT4.1
            clear hT4 hw6 R R2 Z R4 Z4 b4 o4 f4 k4
            have RN := Blk.all bN4
            have hlN := bN4.lt
            have hML := congrArg List.length HL4.out
            simp only [List.length_append, List.length_cons, List.length_nil, Nat.zero_add] at hML
            have bE := HE.out.1.fr hK6.fr (fun e => own_ne HR.out HE.out.1 (by decide) e)
            have RE := Blk.all bE
            have hlE := bE.lt
            go_wp2_with fail
            refine (ln_line (d := d) ⟨11, d, else_, q⟩ rfl (by simp only [Sm.sz, Els.sz] at hal; omega) (by omega) hB (Nat.le_refl _) hK6).mono ?_
            rintro e w7 ⟨rfl, hK7, f7⟩
            have bN7 := bN4.fr f7 (Lw.not bN4 (by decide) (by omega))
            have bE7 := HE.out.1.fr hK7.fr (fun e => own_ne HR.out HE.out.1 (by decide) e)
            clear hK6 RN bN4 bE RE hlN hlE
            have RN := Blk.all bN7
            have RE := Blk.all bE7
            obtain ⟨v7, k1, k2, k3, k4, k5⟩ := hK7
            obtain ⟨a7, c7, rfl⟩ := own_form k3
            have R := Blk.all k1
            have R2 := Blk.all k2
            have Z := Blk.frees k1
            have q1 := k1.lt
            have q2 := k2.lt
            have hal7 := Fr.refl No w7
            have m1 := k1.fr hal7 (fun x => x)
            have m2 := k2.fr hal7 (fun x => x)
            have m3 : LnOwn _ B _ _ := own_fr k3 hal7 (fun _ _ x => x)
            have m4 := k4.callNo hal7
            simp only [List.length_append, List.length_cons, List.length_nil, Nat.zero_add] at k3 R k1 k5 m1 m3 ⊢
            have HM7 := Lib.hid (And.intro k5 (And.intro m1 (And.intro m2 (And.intro m3 m4))))
            clear k1 k2 k3 k4 k5 m1 m2 m3 m4 hal7
            go_upto_region 27 with (fail)
            have RN8 := RN
            have RE8 := RE
            go_still_tail 8, (by kernel_rfl)
            change wpList _ _ _ _ _ w7.drew
            have hdr := (Fr.refl No w7).drew
            have HM8 := Lib.hid (And.intro HM7.out.1 (And.intro (HM7.out.2.1.fr hdr (fun x => x)) (And.intro (HM7.out.2.2.1.fr hdr (fun x => x)) (And.intro (own_fr HM7.out.2.2.2.1 hdr (fun _ _ x => x)) (HM7.out.2.2.2.2.callNo hdr)))))
            clear HM7 hdr
            have HM7 := HM8
            clear HM8
            clear R R2 Z q1 q2 RN8 RE8 RN RE bN7 bE7 f7
            generalize w7.drew = w8 at *
            have R := Blk.all HM7.out.2.1
            have Z := Blk.frees HM7.out.2.1
            go_wp2_with fail
            rw [show ((d : Int) + 1) = ((d + 1 : Nat) : Int) from rfl]
            refine (ih b a3 n3 c3 vs3 (d + 1) B0 B _ _ _ (by simp only [Sm.sz, Els.sz] at hks; omega) (by have h := HC.out.2.2.2; simp only [Sm.okS, Els.okS] at h; exact h.2.2.2) (own_other HE.out.2.1 HM7.out.2.2.2.2 HH.out.2.2.2.2.2.2.2 (Or.inr (Or.inl rfl))) (SmsAre.other HM7.out.2.2.2.2 HH.out.2.2.2.2.2.2.2 _ _ HE.out.2.2) HM7.out.2.2.2.1 (LnB.cons.mp (by have h := HLB.out.2; simp only [lnEl] at h; exact h)).2 (by simp only [Sm.sz, Els.sz] at hal; simp only [List.length_append, List.length_cons, List.length_nil]; omega) (by simp only [Sm.sz, Els.sz] at hds; omega) (Nat.le_trans hB HM7.out.2.2.2.2.size)).mono ?_
            rintro e w7' ⟨v7', rfl, o7, f7, k7⟩
            obtain ⟨M7, hM7, o7⟩ := own_M o7
            have HL7 := Lib.hid hM7
            clear hM7
            have hT7 := ln_rec (by omega) (Nat.le_refl _) HM7.out.2.1 HM7.out.2.2.1 HM7.out.2.2.2.1 HM7.out.2.2.2.2 HM7.out.1 o7 f7 k7
            obtain ⟨a7', c7', rfl⟩ := own_form o7
            have b7 := HM7.out.2.1.fr f7 (fun e => own_ne HM7.out.2.2.2.1 HM7.out.2.1 (by decide) e)
            have R7 := Blk.all b7
            have Z7 := Blk.frees b7
            go_wp2_with fail
            go_roundg (L.length - (i + 1))
            case measure => rw [HG.out]; omega
            case rel => exact ⟨i + 1, rfl, by omega, by go_num, by rw [HS.out.2.2]; exact (LnK.as0 hT7.1 (by rw [← HL7.out, ← HL4.out]; simp [lnEl]))⟩

        | whil p l2 r2 eq b =>
          simp only [SmIs] at hsm
          obtain ⟨y, z, a2, n2, c2, vs2, hy, hz, so, sl, rfl⟩ := hsm
          obtain ⟨ty, xy, rfl⟩ := hy.form
          obtain ⟨tz, xz, rfl⟩ := hz.form
          have hm : lnSm d (.whil p l2 r2 eq b : Sm) = ⟨kdS (.whil p l2 r2 eq b : Sm), d, hdS (.whil p l2 r2 eq b : Sm), p⟩ :: lnSms (d + 1) b := by simp only [lnSm]
          have hb1 : LnB (⟨kdS (.whil p l2 r2 eq b : Sm), d, hdS (.whil p l2 r2 eq b : Sm), p⟩ :: lnSms (d + 1) b) := by rw [← hm]; exact hbd
          have hb2 := (LnB.cons.mp hb1).1
          have hb3 := (LnB.cons.mp hb1).2
          simp only at hb2
          rw [hm] at HS
          have hkd := fun (W : World) (f : Fr (fun j => (Value.slice av acc.length cv).ownBlock = some j) w W) => hkd W f
          have hhd := fun (W : World) (f : Fr (fun j => (Value.slice av acc.length cv).ownBlock = some j) w W) => hhd W f (by omega)
          have na := fun (W : World) => nila_While p (.iface ty (.agg xy)) (.iface tz (.agg xz)) eq a2 n2 c2 W
          have me := fun (W : World) => meth_While p (.iface ty (.agg xy)) (.iface tz (.agg xz)) eq a2 n2 c2 W
          generalize hKD : kdS (.whil p l2 r2 eq b : Sm) = KD at *
          generalize hHD : hdS (.whil p l2 r2 eq b : Sm) = HD at *
          clear hm hbd hb1
          have HC := Lib.hid (And.intro hkd (And.intro hhd (And.intro hb3 hsok)))
          clear hkd hhd hb3 hsok hKD hHD
          have HB := Lib.hid (And.intro hy (And.intro hz (And.intro so (sl))))
          clear hy hz so sl
          have s0 := pa_Choose_While
          have s1 := pa_Loop_While
          have s2 := pa_While_While
          go_wp2_with fail
          refine (HC.out.1 _ hK.fr).mono ?_
          rintro e w1 ⟨rfl, hf2⟩
          have hK1 := hK.no hf2
          go_wp2_with fail
          refine (HC.out.2.1 _ hK1.fr).mono ?_
          rintro e w2 ⟨rfl, hf3⟩
          have hK2 := hK1.no hf3
          clear hK1 hf2 hf3
          go_wp2_with fail
          refine (place_calls p).mono ?_
          rintro e w3 ⟨rfl, hf5⟩
          have hK3 := hK2.no hf5
          clear hK2 hf5
          unfold plA
          go_wp2_with fail
          refine (ln_line (d := d) ⟨KD, d, HD, p⟩ rfl (by omega) (by omega) hB (Nat.le_refl _) hK3).mono ?_
          rintro e w4 ⟨rfl, hK4, _⟩
          clear hK3
          obtain ⟨v4, k1, k2, k3, k4, k5⟩ := hK4
          obtain ⟨a4, c4, rfl⟩ := own_form k3
          have R := Blk.all k1
          have R2 := Blk.all k2
          have Z := Blk.frees k1
          have q1 := k1.lt
          have q2 := k2.lt
          have hal4 := (Fr.refl No w4).alloc (.cells #[.int .i64 p.b, .int .i64 p.g, .int .i64 p.l, .int .i64 p.c, .iface ty (.agg xy), .iface tz (.agg xz), .bool eq, .slice a2 n2 c2] 138 (0, 0))
          have m1 := k1.fr hal4 (fun x => x)
          have m2 := k2.fr hal4 (fun x => x)
          have m3 : LnOwn _ B _ _ := own_fr k3 hal4 (fun _ _ x => x)
          have m4 := k4.callNo hal4
          simp only [List.length_append, List.length_cons, List.length_nil, Nat.zero_add] at k3 R k1 k5 m1 m3 ⊢
          have HM4 := Lib.hid (And.intro k5 (And.intro m1 (And.intro m2 (And.intro m3 m4))))
          clear k1 k2 k3 k4 k5 m1 m2 m3 m4 hal4
          go_wp2_with fail
          rw [show ((d : Int) + 1) = ((d + 1 : Nat) : Int) from rfl]
          refine (ih b a2 n2 c2 vs2 (d + 1) B0 B _ _ _ (by simp only [Sm.sz] at hks; omega) (by have h := HC.out.2.2.2; simp only [Sm.okS] at h; exact h.2.2) (own_other HB.out.2.2.1 HM4.out.2.2.2.2 HH.out.2.2.2.2.2.2.2 (Or.inr (Or.inl rfl))) (SmsAre.other HM4.out.2.2.2.2 HH.out.2.2.2.2.2.2.2 _ _ HB.out.2.2.2) HM4.out.2.2.2.1 HC.out.2.2.1 (by simp only [Sm.sz] at hal; simp only [List.length_append, List.length_cons, List.length_nil]; omega) (by simp only [Sm.sz] at hds; omega) (Nat.le_trans hB HM4.out.2.2.2.2.size)).mono ?_
          rintro e w4' ⟨v4', rfl, o4, f4, k4⟩
          obtain ⟨M4, hM4, o4⟩ := own_M o4
          have HL4 := Lib.hid hM4
          clear hM4
          have hT4 := ln_rec (by omega) (Nat.le_refl _) HM4.out.2.1 HM4.out.2.2.1 HM4.out.2.2.2.1 HM4.out.2.2.2.2 HM4.out.1 o4 f4 k4
          obtain ⟨a4', c4', rfl⟩ := own_form o4
          have b4 := HM4.out.2.1.fr f4 (fun e => own_ne HM4.out.2.2.2.1 HM4.out.2.1 (by decide) e)
          have R4 := Blk.all b4
          have Z4 := Blk.frees b4
          clear hK
          go_wp2_with fail
          go_roundg (L.length - (i + 1))
          case measure => rw [HG.out]; omega
          case rel => exact ⟨i + 1, rfl, by omega, by go_num, by rw [HS.out.2.2]; exact (LnK.as0 hT4.1 (by rw [← HL4.out]; simp))⟩

    · obtain rfl : i = L.length := by omega
      have i2 : ¬ ((L.length : Int) < (L.length : Int)) := by omega
      obtain ⟨M, hM⟩ : ∃ M, acc ++ L.flatMap (lnSm d) = M := ⟨_, rfl⟩
      rw [List.take_length, hM] at hK
      rw [hM]
      obtain ⟨v', h1, h2, h3, h4, h5⟩ := hK
      obtain ⟨a9, c9, rfl⟩ := own_form h3
      have R := Blk.all h1
      go_wp2_with fail
      go_ret
      exact ⟨_, rfl, h3, h4, h5⟩
theorem ln_all : ∀ k, LnC k
  | 0 => fun l a n c vs d B0 B v acc w hk => by
    cases l <;> simp [Sms.sz] at hk
  | k + 1 => lines_step (ln_all k)
end Go.Proofs.YtjmjdmmojgmcdaaDoor
