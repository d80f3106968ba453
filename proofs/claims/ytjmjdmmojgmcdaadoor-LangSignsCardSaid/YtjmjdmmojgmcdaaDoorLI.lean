/- Statements' values; assign; cond. -/
import Derived.Test.YtjmjdmmojgmcdaaDoorLH
namespace Go.Proofs.YtjmjdmmojgmcdaaDoor
open Go.RowKit
set_option linter.unusedVariables false
set_option linter.unusedSimpArgs false
attribute [local go_sem ↓] Go.wp_at_zero Go.wp_at_succ

/-! the values of statements -/
mutual
def SmIs (w : World) (B : Nat) : Sm → Value → Prop
  | .set p k x none, v => v = .iface 154 (.agg #[.int .i64 p.b, .int .i64 p.g, .int .i64 p.l, .int .i64 p.c, .int .i64 k, .string ⟨x.toArray⟩, .nilIface])
  | .set p k x (some n), v => ∃ y, NdIs w B n y ∧ v = .iface 154 (.agg #[.int .i64 p.b, .int .i64 p.g, .int .i64 p.l, .int .i64 p.c, .int .i64 k, .string ⟨x.toArray⟩, y])
  | .skip p, v => v = .iface 147 (.agg #[.int .i64 p.b, .int .i64 p.g, .int .i64 p.l, .int .i64 p.c])
  | .stop p, v => v = .iface 148 (.agg #[.int .i64 p.b, .int .i64 p.g, .int .i64 p.l, .int .i64 p.c])
  | .mark p x, v => v = .iface 157 (.agg #[.int .i64 p.b, .int .i64 p.g, .int .i64 p.l, .int .i64 p.c, .string ⟨x.toArray⟩])
  | .choose p bs, v => ∃ a n c vs, w.ownsRow B 131 5 (.slice a n c) n vs ∧ BlsAre w B bs vs ∧ v = .iface 129 (.agg #[.int .i64 p.b, .int .i64 p.g, .int .i64 p.l, .int .i64 p.c, .slice a n c])
  | .loop p b, v => ∃ a n c vs, w.ownsRow B 105 1 (.slice a n c) n vs ∧ SmsAre w B b vs ∧ v = .iface 132 (.agg #[.int .i64 p.b, .int .i64 p.g, .int .i64 p.l, .int .i64 p.c, .slice a n c])
  | .iff p l r eq t e, v => ∃ y z a n c vs ev, NdIs w B l y ∧ NdIs w B r z ∧ w.ownsRow B 105 1 (.slice a n c) n vs ∧ SmsAre w B t vs ∧ ElsIs w B e ev ∧ v = .iface 141 (.agg #[.int .i64 p.b, .int .i64 p.g, .int .i64 p.l, .int .i64 p.c, y, z, .bool eq, .slice a n c, ev])
  | .whil p l r eq b, v => ∃ y z a n c vs, NdIs w B l y ∧ NdIs w B r z ∧ w.ownsRow B 105 1 (.slice a n c) n vs ∧ SmsAre w B b vs ∧ v = .iface 138 (.agg #[.int .i64 p.b, .int .i64 p.g, .int .i64 p.l, .int .i64 p.c, y, z, .bool eq, .slice a n c])
def SmsAre (w : World) (B : Nat) : Sms → List Value → Prop
  | .nil, vs => vs = []
  | .cons s r, vs => ∃ v us, vs = v :: us ∧ SmIs w B s v ∧ SmsAre w B r us
def BlsAre (w : World) (B : Nat) : Bls → List Value → Prop
  | .nil, vs => vs = []
  | .cons p b r, vs => ∃ a n c bs us, vs = [.int .i64 p.b, .int .i64 p.g, .int .i64 p.l, .int .i64 p.c, .slice a n c] ++ us ∧ w.ownsRow B 105 1 (.slice a n c) n bs ∧ SmsAre w B b bs ∧ BlsAre w B r us
def ElsIs (w : World) (B : Nat) : Els → Value → Prop
  | .none, v => v = .pointer none
  | .some p b, v => ∃ g a n c vs, v = .pointer (some ⟨g, 0, none⟩) ∧ B ≤ g ∧ Blk w g (.cells #[.int .i64 p.b, .int .i64 p.g, .int .i64 p.l, .int .i64 p.c, .slice a n c] 131 (0, 0)) ∧ w.ownsRow B 105 1 (.slice a n c) n vs ∧ SmsAre w B b vs
end
theorem NdIs.keep {S : Nat → Prop} {B : Nat} {w w' : World} (f : Fr S w w') (hS : ∀ k, B ≤ k → ¬ S k) : ∀ {n : Nd} {v : Value}, NdIs w B n v → NdIs w' B n v
  | .num n, v, ⟨a, c, h1, h2⟩ => ⟨a, c, h1, own_fr h2 f (fun k hk => hS k (h2.lt k hk).1)⟩
  | .name i x, v, h => h
  | .minus a, v, ⟨y, h1, h2⟩ => ⟨y, NdIs.keep f hS h1, h2⟩
  | .two op l r, v, ⟨y, z, h1, h2, h3⟩ => ⟨y, z, NdIs.keep f hS h1, NdIs.keep f hS h2, h3⟩
mutual
theorem SmIs.keep {S : Nat → Prop} {B : Nat} {w w' : World} (f : Fr S w w') (hS : ∀ k, B ≤ k → ¬ S k) : ∀ (s : Sm) (v : Value), SmIs w B s v → SmIs w' B s v
  | .set p k x none, v, h => by simp only [SmIs] at h ⊢; exact h
  | .set p k x (some n), v, h => by
    simp only [SmIs] at h ⊢
    obtain ⟨y, h1, h2⟩ := h
    exact ⟨y, h1.keep f hS, h2⟩
  | .skip p, v, h => by simp only [SmIs] at h ⊢; exact h
  | .stop p, v, h => by simp only [SmIs] at h ⊢; exact h
  | .mark p x, v, h => by simp only [SmIs] at h ⊢; exact h
  | .choose p bs, v, h => by
    simp only [SmIs] at h ⊢
    obtain ⟨a, n, c, vs, h1, h2, h3⟩ := h
    exact ⟨a, n, c, vs, own_fr h1 f (fun k hk => hS k (h1.lt k hk).1), BlsAre.keep f hS bs vs h2, h3⟩
  | .loop p b, v, h => by
    simp only [SmIs] at h ⊢
    obtain ⟨a, n, c, vs, h1, h2, h3⟩ := h
    exact ⟨a, n, c, vs, own_fr h1 f (fun k hk => hS k (h1.lt k hk).1), SmsAre.keep f hS b vs h2, h3⟩
  | .iff p l r eq t e, v, h => by
    simp only [SmIs] at h ⊢
    obtain ⟨y, z, a, n, c, vs, ev, h1, h2, h3, h4, h5, h6⟩ := h
    exact ⟨y, z, a, n, c, vs, ev, h1.keep f hS, h2.keep f hS, own_fr h3 f (fun k hk => hS k (h3.lt k hk).1), SmsAre.keep f hS t vs h4, ElsIs.keep f hS e ev h5, h6⟩
  | .whil p l r eq b, v, h => by
    simp only [SmIs] at h ⊢
    obtain ⟨y, z, a, n, c, vs, h1, h2, h3, h4, h6⟩ := h
    exact ⟨y, z, a, n, c, vs, h1.keep f hS, h2.keep f hS, own_fr h3 f (fun k hk => hS k (h3.lt k hk).1), SmsAre.keep f hS b vs h4, h6⟩
theorem SmsAre.keep {S : Nat → Prop} {B : Nat} {w w' : World} (f : Fr S w w') (hS : ∀ k, B ≤ k → ¬ S k) : ∀ (l : Sms) (vs : List Value), SmsAre w B l vs → SmsAre w' B l vs
  | .nil, vs, h => by simp only [SmsAre] at h ⊢; exact h
  | .cons s r, vs, h => by
    simp only [SmsAre] at h ⊢
    obtain ⟨v, us, h1, h2, h3⟩ := h
    exact ⟨v, us, h1, SmIs.keep f hS s v h2, SmsAre.keep f hS r us h3⟩
theorem BlsAre.keep {S : Nat → Prop} {B : Nat} {w w' : World} (f : Fr S w w') (hS : ∀ k, B ≤ k → ¬ S k) : ∀ (l : Bls) (vs : List Value), BlsAre w B l vs → BlsAre w' B l vs
  | .nil, vs, h => by simp only [BlsAre] at h ⊢; exact h
  | .cons p b r, vs, h => by
    simp only [BlsAre] at h ⊢
    obtain ⟨a, n, c, bs, us, h1, h2, h3, h4⟩ := h
    exact ⟨a, n, c, bs, us, h1, own_fr h2 f (fun k hk => hS k (h2.lt k hk).1), SmsAre.keep f hS b bs h3, BlsAre.keep f hS r us h4⟩
theorem ElsIs.keep {S : Nat → Prop} {B : Nat} {w w' : World} (f : Fr S w w') (hS : ∀ k, B ≤ k → ¬ S k) : ∀ (l : Els) (v : Value), ElsIs w B l v → ElsIs w' B l v
  | .none, v, h => by simp only [ElsIs] at h ⊢; exact h
  | .some p b, v, h => by
    simp only [ElsIs] at h ⊢
    obtain ⟨g, a, n, c, vs, h1, h2, h3, h4, h5⟩ := h
    exact ⟨g, a, n, c, vs, h1, h2, h3.fr f (hS g h2), own_fr h4 f (fun k hk => hS k (h4.lt k hk).1), SmsAre.keep f hS b vs h5⟩
end

mutual
theorem SmIs.mono {B B' : Nat} {w : World} (hb : B' ≤ B) : ∀ (s : Sm) (v : Value), SmIs w B s v → SmIs w B' s v
  | .set p k x none, v, h => by simp only [SmIs] at h ⊢; exact h
  | .set p k x (some n), v, h => by
    simp only [SmIs] at h ⊢
    obtain ⟨y, h1, h2⟩ := h
    exact ⟨y, h1.mono hb, h2⟩
  | .skip p, v, h => by simp only [SmIs] at h ⊢; exact h
  | .stop p, v, h => by simp only [SmIs] at h ⊢; exact h
  | .mark p x, v, h => by simp only [SmIs] at h ⊢; exact h
  | .choose p bs, v, h => by
    simp only [SmIs] at h ⊢
    obtain ⟨a, n, c, vs, h1, h2, h3⟩ := h
    exact ⟨a, n, c, vs, own_mono h1 hb, BlsAre.mono hb bs vs h2, h3⟩
  | .loop p b, v, h => by
    simp only [SmIs] at h ⊢
    obtain ⟨a, n, c, vs, h1, h2, h3⟩ := h
    exact ⟨a, n, c, vs, own_mono h1 hb, SmsAre.mono hb b vs h2, h3⟩
  | .iff p l r eq t e, v, h => by
    simp only [SmIs] at h ⊢
    obtain ⟨y, z, a, n, c, vs, ev, h1, h2, h3, h4, h5, h6⟩ := h
    exact ⟨y, z, a, n, c, vs, ev, h1.mono hb, h2.mono hb, own_mono h3 hb, SmsAre.mono hb t vs h4, ElsIs.mono hb e ev h5, h6⟩
  | .whil p l r eq b, v, h => by
    simp only [SmIs] at h ⊢
    obtain ⟨y, z, a, n, c, vs, h1, h2, h3, h4, h6⟩ := h
    exact ⟨y, z, a, n, c, vs, h1.mono hb, h2.mono hb, own_mono h3 hb, SmsAre.mono hb b vs h4, h6⟩
theorem SmsAre.mono {B B' : Nat} {w : World} (hb : B' ≤ B) : ∀ (l : Sms) (vs : List Value), SmsAre w B l vs → SmsAre w B' l vs
  | .nil, vs, h => by simp only [SmsAre] at h ⊢; exact h
  | .cons s r, vs, h => by
    simp only [SmsAre] at h ⊢
    obtain ⟨v, us, h1, h2, h3⟩ := h
    exact ⟨v, us, h1, SmIs.mono hb s v h2, SmsAre.mono hb r us h3⟩
theorem BlsAre.mono {B B' : Nat} {w : World} (hb : B' ≤ B) : ∀ (l : Bls) (vs : List Value), BlsAre w B l vs → BlsAre w B' l vs
  | .nil, vs, h => by simp only [BlsAre] at h ⊢; exact h
  | .cons p b r, vs, h => by
    simp only [BlsAre] at h ⊢
    obtain ⟨a, n, c, bs, us, h1, h2, h3, h4⟩ := h
    exact ⟨a, n, c, bs, us, h1, own_mono h2 hb, SmsAre.mono hb b bs h3, BlsAre.mono hb r us h4⟩
theorem ElsIs.mono {B B' : Nat} {w : World} (hb : B' ≤ B) : ∀ (l : Els) (v : Value), ElsIs w B l v → ElsIs w B' l v
  | .none, v, h => by simp only [ElsIs] at h ⊢; exact h
  | .some p b, v, h => by
    simp only [ElsIs] at h ⊢
    obtain ⟨g, a, n, c, vs, h1, h2, h3, h4, h5⟩ := h
    exact ⟨g, a, n, c, vs, h1, Nat.le_trans hb h2, h3, own_mono h4 hb, SmsAre.mono hb b vs h5⟩
end
theorem NdIs.apart {B N : Nat} {w w' : World} {cs : Array Value} {t : TypeId} {fz : Nat × Nat} (hN : Blk w N (.cells cs t fz)) (ht : t ≠ 159) (f : Fr (· = N) w w') : ∀ {n : Nd} {v : Value}, NdIs w B n v → NdIs w' B n v
  | .num n, v, ⟨a, c, h1, h2⟩ => ⟨a, c, h1, own_fr h2 f (fun k hk e => by
      subst e
      obtain ⟨cur, hc⟩ := own_obj h2 hk
      have h' : w.heap[k]? = _ := hN
      rw [hc] at h'
      simp only [Option.some.injEq, Obj.cells.injEq] at h'
      exact ht h'.2.1.symm)⟩
  | .name i x, v, h => h
  | .minus a, v, ⟨y, h1, h2⟩ => ⟨y, NdIs.apart hN ht f h1, h2⟩
  | .two op l r, v, ⟨y, z, h1, h2, h3⟩ => ⟨y, z, NdIs.apart hN ht f h1, NdIs.apart hN ht f h2, h3⟩
theorem Rdr.far {w w5 w6 : World} {b N : Nat} {lv nv mv nv' mv' : Value} {o o' : Nat} {toks r r' : List Tok} (h : Rdr w b lv nv mv o toks r) (hR : Rdr w5 b lv nv' mv' o' toks r') (hN : w.heap.size ≤ N) (f : Fr (· = N) w5 w6) : Rdr w6 b lv nv' mv' o' toks r' := by
  obtain ⟨_, _, _, hb0, g0, c0, e0, _, hg0, _⟩ := h
  obtain ⟨i, x, a, hb, g, c, e1, hgb, hgl, hc⟩ := hR
  rw [e1] at e0
  simp only [Value.slice.injEq, Option.some.injEq, Addr.mk.injEq, and_true, true_and] at e0
  have hbl := hb0.lt
  refine ⟨i, x, a, hb.fr f (by omega), g, c, e1, hgb, Nat.lt_of_lt_of_le hgl f.size, fun i x hx k hk => ?_⟩
  rw [← hc i x hx k hk]
  exact World.cell?_of_block (f.block g hgl (by have := e0.1; omega))
theorem load_cond {w : World} {g : Nat} {cs : Array Value} (hg : Blk w g (.cells cs 136 (0, 0))) (hs : cs.size = 3) : (loadVar 136 ⟨g, 0, none⟩).run Tryd.prog w = .ok (.agg cs) w :=
  run_loadVar_row w g _ _ cs _ _ hg Tryd.underlying136 rfl (by rw [hs]; kernel_rfl)

/-- a head's value -/
abbrev plV (p : Pl) : Value := .agg #[.int .i64 p.b, .int .i64 p.g, .int .i64 p.l, .int .i64 p.c]

set_option maxRecDepth 100000 in
set_option maxHeartbeats 4000000 in
theorem cond_rdr {w : World} {b : Nat} {lv nv mv : Value} {o : Nat} {toks r : List Tok} {nm : List (List UInt8)} {n : Nat} (hl : toks.length ≤ 5000) (hnl : nm.length ≤ 1000) (ho : o ≤ 16) (hm : 4 * r.length + 3 ≤ n) (h : Rdr w b lv nv mv o toks r) (hn : NmAt w b nv nm) :
    Calls Tryd.prog 79 #[.pointer (some ⟨b, 0, none⟩)] w fun e w' => Fr (· = b) w w' ∧ match condS n nm o r with
      | .error (c, p) => Threw c p e
      | .ok ((l, q, eq), r1) => ∃ y z, e = .returned (.agg #[y, z, .bool eq]) ∧ NdIs w' w.heap.size l y ∧ NdIs w' w.heap.size q z ∧ Rdr w' b lv nv mv o toks r1 := by
  have hg := h.good
  obtain ⟨res, hres⟩ : ∃ res, condS n nm o r = res := ⟨_, rfl⟩
  rw [hres]
  simp only [condS] at hres
  go_enter Tryd.func79, Tryd.ntmps79
  go_wp2_with fail
  have hbl : b < w.heap.size := by obtain ⟨_, _, _, hb, _⟩ := h; exact hb.lt
  have C0 := Blk.new w (.cells #[.nilIface, .nilIface, .bool false] 136 (0, 0))
  have h0 := h.no ((Fr.refl No w).alloc (.cells #[.nilIface, .nilIface, .bool false] 136 (0, 0)))
  have hn0 := hn.no ((Fr.refl No w).alloc (.cells #[.nilIface, .nilIface, .bool false] 136 (0, 0)))
  have hf0 : Fr (· = b) w (w.alloc (.cells #[.nilIface, .nilIface, .bool false] 136 (0, 0))) := (Fr.refl _ w).alloc _
  refine (sum_rdr (n := n) hl hnl ho hm h0 hn0).mono ?_
  rintro e w1 ⟨hf1, hm1⟩
  have hn1 := hn0.no hf1
  have hf2 := hf0.call hf1 (fun _ _ x => x)
  have hsz0 := hf0.size
  have C1 := C0.fr hf1 (by omega)
  clear hn h0 hn0 C0 hf0 hf1
  have H := Lib.hid h
  clear h
  cases hu : sumS n nm o r with
  | error ep =>
    rw [hu] at hm1 hres
    obtain ⟨c, p⟩ := ep
    simp only [Threw] at hm1
    subst hm1 hres
    go_wp2_with fail
    exact ⟨rfl, hf2, rfl⟩
  | ok ar =>
    rw [hu] at hm1 hres
    obtain ⟨a0, r1⟩ := ar
    obtain ⟨v0, rfl, hN0', hR0⟩ := hm1
    have hN0 := hN0'.mono hsz0
    obtain ⟨ty0, vc0, rfl⟩ := hN0.form
    clear hN0'
    simp only at hres
    have hlt := ((ex_len nm n).su hg hu)
    have hg1 := hlt.1
    go_wp2_with fail
    refine (is_rdr (by omega) [61] hR0).mono ?_
    rintro e w2 ⟨rfl, hR2, hf3⟩
    have hn2 := hn1.no hf3
    have hf4 := hf2.call hf3 (fun _ _ x => x)
    have C2 := C1.fr hf3 (by omega)
    have hN2 := hN0.fr hbl hf3
    clear hR0 hn1 hf2 C1 hN0 hf3
    cases h61 : isT [61] r1 with
    | true =>
      rw [if_pos h61] at hres
      rw [h61] at hR2
      simp only [if_true] at hR2
      have hl2 := isT_lt hg1 h61
      have hR3 := hR2
      have hn3 := hn2
      have hf6 := hf4
      have C4 := C2
      have hN4 := hN2
      generalize hr2 : passT r1 = r2 at *
      clear hR2 hn2 hf4 C2 hN2
      go_wp2_with fail
      refine (sum_rdr (n := n) hl hnl ho (by omega) hR3 hn3).mono ?_
      rintro e w5 ⟨hf7, hm7⟩
      have hf8 := hf6.call hf7 (fun _ _ x => x)
      have C5 := C4.fr hf7 (by omega)
      have hN5 := hN4.fr hbl hf7
      cases hv : sumS n nm o r2 with
      | error ep =>
        rw [hv] at hm7 hres
        obtain ⟨c, p⟩ := ep
        simp only [Threw] at hm7
        subst hm7 hres
        go_wp2_with fail
        exact ⟨rfl, hf8, rfl⟩
      | ok ar =>
        rw [hv] at hm7 hres
        obtain ⟨a3, r3⟩ := ar
        obtain ⟨v3, rfl, hN6, hR6⟩ := hm7
        obtain ⟨ty3, vc3, rfl⟩ := hN6.form
        subst hres
        have R := Blk.all C5
        have Z := Blk.frees C5
        go_wp2_with fail
        have C6 := ((C5.setOff 0 (.iface ty0 (.agg vc0))).setOff 1 (.iface ty3 (.agg vc3))).setOff 2 (.bool true)
        have q0 : ∀ i, (⟨w.heap.size, i, none⟩ : Addr).block < w.heap.size → (⟨w.heap.size, i, none⟩ : Addr).block = b := fun i h => absurd h (Nat.lt_irrefl _)
        have hf9 := ((hf8.setCell (a := ⟨w.heap.size, 0, none⟩) (.iface ty0 (.agg vc0)) (q0 0)).setCell (a := ⟨w.heap.size, 1, none⟩) (.iface ty3 (.agg vc3)) (q0 1)).setCell (a := ⟨w.heap.size, 2, none⟩) (.bool true) (q0 2)
        have hfk := (((Fr.refl (· = w.heap.size) w5).setCell (a := ⟨w.heap.size, 0, none⟩) (.iface ty0 (.agg vc0)) (fun _ => rfl)).setCell (a := ⟨w.heap.size, 1, none⟩) (.iface ty3 (.agg vc3)) (fun _ => rfl)).setCell (a := ⟨w.heap.size, 2, none⟩) (.bool true) (fun _ => rfl)
        refine bodyPost_ret (results_cell rfl _ _ _ _ rfl (load_cond C6 rfl)) rfl ⟨hf9, _, _, rfl, hN5.apart C5 (by decide) hfk, (hN6.mono hf6.size).apart C5 (by decide) hfk, H.out.far hR6 (Nat.le_refl _) hfk⟩
    | false =>
      rw [if_neg (by simp [h61])] at hres
      rw [h61] at hR2
      simp only [Bool.false_eq_true, if_false] at hR2
      cases hne : isT [33, 61] r1 with
      | false =>
        have e : mustS [33, 61] r1 = .error (80, (hereT r1).at_) := by unfold mustS; rw [if_neg (by simp [hne])]
        rw [e] at hres
        subst hres
        go_wp2_with fail
        refine (must_no (by omega) [33, 61] hR2 hne).mono ?_
        rintro e w3 ⟨ht, hf5⟩
        simp only [Threw] at ht
        subst ht
        go_wp2_with fail
        exact ⟨rfl, hf4.call hf5 (fun _ _ x => x), rfl⟩
      | true =>
        have e : mustS [33, 61] r1 = .ok (passT r1) := by unfold mustS; rw [if_pos hne]
        rw [e] at hres
        simp only at hres
        have hl2 := isT_lt hg1 hne
        go_wp2_with fail
        refine (must_yes (by omega) [33, 61] hR2 hne).mono ?_
        rintro e w3 ⟨rfl, hR3, hf5⟩
        have hn3 := hn2.no hf5
        have hf6 := hf4.call hf5 (fun _ _ x => x)
        have C4 := C2.fr hf5 (by omega)
        have hN4 := hN2.fr hbl hf5
        generalize hr2 : passT r1 = r2 at *
        clear hR2 hn2 hf4 C2 hN2 hf5
        go_wp2_with fail
        refine (sum_rdr (n := n) hl hnl ho (by omega) hR3 hn3).mono ?_
        rintro e w5 ⟨hf7, hm7⟩
        have hf8 := hf6.call hf7 (fun _ _ x => x)
        have C5 := C4.fr hf7 (by omega)
        have hN5 := hN4.fr hbl hf7
        cases hv : sumS n nm o r2 with
        | error ep =>
          rw [hv] at hm7 hres
          obtain ⟨c, p⟩ := ep
          simp only [Threw] at hm7
          subst hm7 hres
          go_wp2_with fail
          exact ⟨rfl, hf8, rfl⟩
        | ok ar =>
          rw [hv] at hm7 hres
          obtain ⟨a3, r3⟩ := ar
          obtain ⟨v3, rfl, hN6, hR6⟩ := hm7
          obtain ⟨ty3, vc3, rfl⟩ := hN6.form
          subst hres
          have R := Blk.all C5
          have Z := Blk.frees C5
          go_wp2_with fail
          have C6 := ((C5.setOff 0 (.iface ty0 (.agg vc0))).setOff 1 (.iface ty3 (.agg vc3))).setOff 2 (.bool false)
          have q0 : ∀ i, (⟨w.heap.size, i, none⟩ : Addr).block < w.heap.size → (⟨w.heap.size, i, none⟩ : Addr).block = b := fun i h => absurd h (Nat.lt_irrefl _)
          have hf9 := ((hf8.setCell (a := ⟨w.heap.size, 0, none⟩) (.iface ty0 (.agg vc0)) (q0 0)).setCell (a := ⟨w.heap.size, 1, none⟩) (.iface ty3 (.agg vc3)) (q0 1)).setCell (a := ⟨w.heap.size, 2, none⟩) (.bool false) (q0 2)
          have hfk := (((Fr.refl (· = w.heap.size) w5).setCell (a := ⟨w.heap.size, 0, none⟩) (.iface ty0 (.agg vc0)) (fun _ => rfl)).setCell (a := ⟨w.heap.size, 1, none⟩) (.iface ty3 (.agg vc3)) (fun _ => rfl)).setCell (a := ⟨w.heap.size, 2, none⟩) (.bool false) (fun _ => rfl)
          refine bodyPost_ret (results_cell rfl _ _ _ _ rfl (load_cond C6 rfl)) rfl ⟨hf9, _, _, rfl, hN5.apart C5 (by decide) hfk, (hN6.mono hf6.size).apart C5 (by decide) hfk, H.out.far hR6 (Nat.le_refl _) hfk⟩
end Go.Proofs.YtjmjdmmojgmcdaaDoor
