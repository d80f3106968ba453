/- statement. -/
import Derived.Test.YtlklijpjacmgpaaGreatDoorLM
import Derived.Deep.RegionWith
import Derived.RegionDies
import Derived.Deep.DeepCutAuto
import Derived.Deep.CutBlock
import Derived.Deep.Cut
namespace Go.Proofs.YtlklijpjacmgpaaGreatDoor
open Go.RowKit
set_option linter.unusedVariables false
set_option linter.unusedSimpArgs false
attribute [local go_sem ↓] Go.wp_at_zero Go.wp_at_succ

theorem info_block : (Tryz.prog.info? 165).map (fun i => (i.zero, i.size, i.bytes)) = some (some (.agg #[.int .i64 0, .int .i64 0, .int .i64 0, .int .i64 0, .slice none 0 0]), 5, 56) := by kernel_rfl
def Bls.app : Bls → Bls → Bls
  | .nil, l => l
  | .cons p s r, l => .cons p s (r.app l)
theorem Bls.app_nil : ∀ (l : Bls), l.app .nil = l
  | .nil => rfl
  | .cons p s r => by simp only [Bls.app, Bls.app_nil r]
theorem Bls.app_snoc : ∀ (a : Bls) (p : Pl) (s : Sms) (l : Bls), (a.snoc p s).app l = a.app (.cons p s l)
  | .nil, p, s, l => rfl
  | .cons q x r, p, s, l => by simp only [Bls.snoc, Bls.app, Bls.app_snoc r p s l]
/-- blocks ahead of what the loop of choose is read as -/
def orR (p : Pl) (acc : Bls) : RS Bls → RS (Option Sm)
  | .error e => .error e
  | .ok (l, mk, r) => .ok (some (.choose p (acc.app l)), mk, r)
theorem BlsAre.snoc {w : World} {B : Nat} {p : Pl} {s : Sms} {a : Option Addr} {k c : Nat} {bs : List Value} (ho : w.ownsRow B 141 1 (.slice a k c) k bs) (hs : SmsAre w B s bs) : ∀ (l : Bls) (vs : List Value), BlsAre w B l vs → BlsAre w B (l.snoc p s) (vs ++ [.int .i64 p.b, .int .i64 p.g, .int .i64 p.l, .int .i64 p.c, .slice a k c])
  | .nil, vs, h => by
    simp only [BlsAre] at h
    subst h
    simp only [Bls.snoc, BlsAre]
    exact ⟨a, k, c, bs, [], rfl, ho, hs, rfl⟩
  | .cons q x r, vs, h => by
    simp only [BlsAre] at h
    obtain ⟨a', n', c', bs', us, rfl, h1, h2, h3⟩ := h
    simp only [Bls.snoc, BlsAre]
    exact ⟨a', n', c', bs', us ++ [.int .i64 p.b, .int .i64 p.g, .int .i64 p.l, .int .i64 p.c, .slice a k c], by simp, h1, h2, BlsAre.snoc ho hs r us h3⟩
theorem own_ne {w : World} {B G : Nat} {e t : TypeId} {size : Nat} {v : Value} {n : Nat} {xs : List Value} {cs : Array Value} {fz : Nat × Nat} (h : w.ownsRow B e size v n xs) (hG : Blk w G (.cells cs t fz)) (ht : t ≠ e) : v.ownBlock ≠ some G := fun hk => by
  obtain ⟨cur, hc⟩ := own_obj h hk
  have h' : w.heap[G]? = _ := hG
  rw [hc] at h'
  simp only [Option.some.injEq, Obj.cells.injEq] at h'
  exact ht h'.2.1.symm
theorem block_one (p : Pl) (v : Value) (h : v.oneCell' = true := by rfl) : ∀ u ∈ [Value.int .i64 p.b, .int .i64 p.g, .int .i64 p.l, .int .i64 p.c, v], u.oneCell' = true := by
  intro u hu
  simp only [List.mem_cons, List.not_mem_nil, or_false] at hu
  rcases hu with rfl | rfl | rfl | rfl | rfl <;> first | rfl | exact h
theorem set5 {w : World} {N : Nat} {t : TypeId} {a0 a1 a2 a3 a4 : Value} (h : Blk w N (.cells #[a0, a1, a2, a3, a4] t (0, 0))) (v0 v1 v2 v3 v4 : Value) : Blk (((((w.setCell ⟨N, 0, none⟩ v0).setCell ⟨N, 1, none⟩ v1).setCell ⟨N, 2, none⟩ v2).setCell ⟨N, 3, none⟩ v3).setCell ⟨N, 4, none⟩ v4) N (.cells #[v0, v1, v2, v3, v4] t (0, 0)) := by
  have h1 : Blk _ N (.cells #[v0, a1, a2, a3, a4] t (0, 0)) := h.setOff 0 v0
  have h2 : Blk _ N (.cells #[v0, v1, a2, a3, a4] t (0, 0)) := h1.setOff 1 v1
  have h3 : Blk _ N (.cells #[v0, v1, v2, a3, a4] t (0, 0)) := h2.setOff 2 v2
  have h4 : Blk _ N (.cells #[v0, v1, v2, v3, a4] t (0, 0)) := h3.setOff 3 v3
  have h5 : Blk _ N (.cells #[v0, v1, v2, v3, v4] t (0, 0)) := h4.setOff 4 v4
  exact h5
theorem set4 {w : World} {N : Nat} {t : TypeId} {a0 a1 a2 a3 : Value} (h : Blk w N (.cells #[a0, a1, a2, a3] t (0, 0))) (v0 v1 v2 v3 : Value) : Blk ((((w.setCell ⟨N, 0, none⟩ v0).setCell ⟨N, 1, none⟩ v1).setCell ⟨N, 2, none⟩ v2).setCell ⟨N, 3, none⟩ v3) N (.cells #[v0, v1, v2, v3] t (0, 0)) := by
  have h1 : Blk _ N (.cells #[v0, a1, a2, a3] t (0, 0)) := h.setOff 0 v0
  have h2 : Blk _ N (.cells #[v0, v1, a2, a3] t (0, 0)) := h1.setOff 1 v1
  have h3 : Blk _ N (.cells #[v0, v1, v2, a3] t (0, 0)) := h2.setOff 2 v2
  have h4 : Blk _ N (.cells #[v0, v1, v2, v3] t (0, 0)) := h3.setOff 3 v3
  exact h4
theorem fr4 {S : Nat → Prop} {w0 w : World} {N : Nat} (h : Fr S w0 w) (hN : ∀ i, (⟨N, i, none⟩ : Addr).block < w0.heap.size → S (⟨N, i, none⟩ : Addr).block) (v0 v1 v2 v3 : Value) : Fr S w0 ((((w.setCell ⟨N, 0, none⟩ v0).setCell ⟨N, 1, none⟩ v1).setCell ⟨N, 2, none⟩ v2).setCell ⟨N, 3, none⟩ v3) := by
  have h1 := h.setCell (a := ⟨N, 0, none⟩) v0 (hN 0)
  have h2 := h1.setCell (a := ⟨N, 1, none⟩) v1 (hN 1)
  have h3 := h2.setCell (a := ⟨N, 2, none⟩) v2 (hN 2)
  have h4 := h3.setCell (a := ⟨N, 3, none⟩) v3 (hN 3)
  exact h4
theorem fr5 {S : Nat → Prop} {w0 w : World} {N : Nat} (h : Fr S w0 w) (hN : ∀ i, (⟨N, i, none⟩ : Addr).block < w0.heap.size → S (⟨N, i, none⟩ : Addr).block) (v0 v1 v2 v3 v4 : Value) : Fr S w0 (((((w.setCell ⟨N, 0, none⟩ v0).setCell ⟨N, 1, none⟩ v1).setCell ⟨N, 2, none⟩ v2).setCell ⟨N, 3, none⟩ v3).setCell ⟨N, 4, none⟩ v4) := by
  have h1 := h.setCell (a := ⟨N, 0, none⟩) v0 (hN 0)
  have h2 := h1.setCell (a := ⟨N, 1, none⟩) v1 (hN 1)
  have h3 := h2.setCell (a := ⟨N, 2, none⟩) v2 (hN 2)
  have h4 := h3.setCell (a := ⟨N, 3, none⟩) v3 (hN 3)
  have h5 := h4.setCell (a := ⟨N, 4, none⟩) v4 (hN 4)
  exact h5
theorem Fr.cut {S : Nat → Prop} {w w' : World} (f : Fr S w w') : Fr (fun k => S k ∧ k < w.heap.size) w w' :=
  ⟨f.os, f.tape, f.output, f.size, fun k hk hn => f.block k hk (fun h => hn ⟨h, hk⟩)⟩
theorem bls_one {S : Nat → Prop} {w' wz : World} {B B0 k1 c1 : Nat} {a1 : Option Addr} {vs1 : List Value} {p : Pl} {l1 : Sms} (ho3 : w'.ownsRow B 141 1 (.slice a1 k1 c1) k1 vs1) (hs3 : SmsAre w' B l1 vs1) (f : Fr S w' wz) (hS : ∀ k, B ≤ k → k < w'.heap.size → ¬ S k) (hB : B0 ≤ B) :
    BlsAre wz B0 (.cons p l1 .nil) [.int .i64 p.b, .int .i64 p.g, .int .i64 p.l, .int .i64 p.c, .slice a1 k1 c1] := by
  simp only [BlsAre]
  exact ⟨a1, k1, c1, vs1, [], rfl, own_mono (own_fr ho3 f.cut (fun k hk h => hS k (ho3.lt k hk).1 h.2 h.1)) hB, SmsAre.mono hB _ _ (SmsAre.keep f.cut (fun k hk h => hS k hk h.2 h.1) _ _ hs3), rfl⟩
theorem own_block1 {w : World} {B N : Nat} (hN : w.heap.size = N) (hB : B ≤ N) (v0 v1 v2 v3 v4 : Value) (e : TypeId) : (w.alloc (.cells #[v0, v1, v2, v3, v4] e (0, 0))).ownsRow B e 5 (.slice (some ⟨N, 0, none⟩) 1 1) 1 [v0, v1, v2, v3, v4] := by
  subst hN
  exact ⟨rfl, Or.inr ⟨w.heap.size, 1, #[v0, v1, v2, v3, v4], rfl, hB, Blk.new w _, Nat.le_refl _, by unfold maxLen; omega, rfl, rfl⟩⟩
theorem alloc_size (w : World) (o : Obj) : (w.alloc o).heap.size = w.heap.size + 1 := by show (w.heap.push o).size = _; simp
theorem set9 {w : World} {N : Nat} {t : TypeId} {a0 a1 a2 a3 a4 a5 a6 a7 a8 : Value} (h : Blk w N (.cells #[a0, a1, a2, a3, a4, a5, a6, a7, a8] t (0, 0))) (v0 v1 v2 v3 v4 v5 v6 v7 v8 : Value) : Blk (((((((((w.setCell ⟨N, 0, none⟩ v0).setCell ⟨N, 1, none⟩ v1).setCell ⟨N, 2, none⟩ v2).setCell ⟨N, 3, none⟩ v3).setCell ⟨N, 4, none⟩ v4).setCell ⟨N, 5, none⟩ v5).setCell ⟨N, 6, none⟩ v6).setCell ⟨N, 7, none⟩ v7).setCell ⟨N, 8, none⟩ v8) N (.cells #[v0, v1, v2, v3, v4, v5, v6, v7, v8] t (0, 0)) := by
  have h1 : Blk _ N (.cells #[v0, a1, a2, a3, a4, a5, a6, a7, a8] t (0, 0)) := h.setOff 0 v0
  have h2 : Blk _ N (.cells #[v0, v1, a2, a3, a4, a5, a6, a7, a8] t (0, 0)) := h1.setOff 1 v1
  have h3 : Blk _ N (.cells #[v0, v1, v2, a3, a4, a5, a6, a7, a8] t (0, 0)) := h2.setOff 2 v2
  have h4 : Blk _ N (.cells #[v0, v1, v2, v3, a4, a5, a6, a7, a8] t (0, 0)) := h3.setOff 3 v3
  have h5 : Blk _ N (.cells #[v0, v1, v2, v3, v4, a5, a6, a7, a8] t (0, 0)) := h4.setOff 4 v4
  have h6 : Blk _ N (.cells #[v0, v1, v2, v3, v4, v5, a6, a7, a8] t (0, 0)) := h5.setOff 5 v5
  have h7 : Blk _ N (.cells #[v0, v1, v2, v3, v4, v5, v6, a7, a8] t (0, 0)) := h6.setOff 6 v6
  have h8 : Blk _ N (.cells #[v0, v1, v2, v3, v4, v5, v6, v7, a8] t (0, 0)) := h7.setOff 7 v7
  have h9 : Blk _ N (.cells #[v0, v1, v2, v3, v4, v5, v6, v7, v8] t (0, 0)) := h8.setOff 8 v8
  exact h9
theorem fr9 {S : Nat → Prop} {w0 w : World} {N : Nat} (h : Fr S w0 w) (hN : ∀ i, (⟨N, i, none⟩ : Addr).block < w0.heap.size → S (⟨N, i, none⟩ : Addr).block) (v0 v1 v2 v3 v4 v5 v6 v7 v8 : Value) : Fr S w0 (((((((((w.setCell ⟨N, 0, none⟩ v0).setCell ⟨N, 1, none⟩ v1).setCell ⟨N, 2, none⟩ v2).setCell ⟨N, 3, none⟩ v3).setCell ⟨N, 4, none⟩ v4).setCell ⟨N, 5, none⟩ v5).setCell ⟨N, 6, none⟩ v6).setCell ⟨N, 7, none⟩ v7).setCell ⟨N, 8, none⟩ v8) := by
  have h1 := h.setCell (a := ⟨N, 0, none⟩) v0 (hN 0)
  have h2 := h1.setCell (a := ⟨N, 1, none⟩) v1 (hN 1)
  have h3 := h2.setCell (a := ⟨N, 2, none⟩) v2 (hN 2)
  have h4 := h3.setCell (a := ⟨N, 3, none⟩) v3 (hN 3)
  have h5 := h4.setCell (a := ⟨N, 4, none⟩) v4 (hN 4)
  have h6 := h5.setCell (a := ⟨N, 5, none⟩) v5 (hN 5)
  have h7 := h6.setCell (a := ⟨N, 6, none⟩) v6 (hN 6)
  have h8 := h7.setCell (a := ⟨N, 7, none⟩) v7 (hN 7)
  have h9 := h8.setCell (a := ⟨N, 8, none⟩) v8 (hN 8)
  exact h9
theorem all_frb {w w' : World} {N b : Nat} {cs : Array Value} (h : ∀ i, w.cell? ⟨N, i, none⟩ = cs[i]?) (hlt : N < w.heap.size) (hne : N ≠ b) (f : Fr (· = b) w w') : ∀ i, w'.cell? ⟨N, i, none⟩ = cs[i]? := fun i => by
  rw [← h i]; exact World.cell?_of_block (f.block N hlt hne)
theorem all_frs {S : Nat → Prop} {w w' : World} {N : Nat} {cs : Array Value} (h : ∀ i, w.cell? ⟨N, i, none⟩ = cs[i]?) (hlt : N < w.heap.size) (hne : ¬ S N) (f : Fr S w w') : ∀ i, w'.cell? ⟨N, i, none⟩ = cs[i]? := fun i => by
  rw [← h i]; exact World.cell?_of_block (f.block N hlt hne)
/-- a choose in memory -/
def chO (p : Pl) (t : Value) : Obj := .cells #[.int .i64 p.b, .int .i64 p.g, .int .i64 p.l, .int .i64 p.c, t] 163 (0, 0)
/-- an if in memory -/
def ifO (p : Pl) (y z : Value) (eq : Bool) (t e : Value) : Obj := .cells #[.int .i64 p.b, .int .i64 p.g, .int .i64 p.l, .int .i64 p.c, y, z, .bool eq, t, e] 173 (0, 0)

set_option maxRecDepth 100000 in
set_option maxHeartbeats 4000000 in
theorem statement_step {n : Nat} (ih : ∀ k, k ≤ n → StC k) (w : World) (b m : Nat) (lv nv : Value) (o : Nat) (toks r : List Tok) (nm mk : List (List UInt8)) (h : StIn w b m lv nv o toks r nm mk) (hm : 8 * r.length + 3 ≤ n + 1) :
    Calls Tryz.prog 71 #[.pointer (some ⟨b, 0, none⟩)] w (StOut w b m lv nv o toks (stmtS (n + 1) nm mk o r)) := by
  have hg := h.rd.good
  have hgp := hg.pos
  have hl1 := h.l1
  have hl2 := h.l2
  have hl3 := h.l3
  have hmb := h.mb
  obtain ⟨res, hres⟩ : ∃ res, stmtS (n + 1) nm mk o r = res := ⟨_, rfl⟩
  rw [hres]
  simp only [stmtS] at hres
  go_enter Tryz.func71, Tryz.ntmps71
  go_wp2_with fail
  refine (here_rdr h.rd).mono ?_
  rintro e w1 ⟨rfl, hR1, hf1⟩
  have h1 := h.no hf1
  obtain ⟨p, hp⟩ : ∃ p, (hereT r).at_ = p := ⟨_, rfl⟩
  simp only [tokC]
  rw [hp] at hres ⊢
  have hfa := fld_at
  go_wp2_with fail
  have hbl := h1.bl
  have hNB := Blk.new w1 (plO' p)
  have hS0 := h1.no ((Fr.refl No w1).alloc (plO' p))
  have hF0 : Fr (S2 b m) w (w1.alloc (plO' p)) := (Fr.ofNo hf1).alloc _
  refine (name_rdr hS0.rd).mono ?_
  rintro e w2 ⟨rfl, hR2, hf2⟩
  have hS := hS0.no hf2
  have hB := hNB.fr hf2 (fun x => x)
  have hF := hF0.callNo hf2
  obtain ⟨N, hN⟩ : ∃ N, w1.heap.size = N := ⟨_, rfl⟩
  rw [hN] at hB hbl ⊢
  have hwN : w.heap.size ≤ N := by have := hf1.size; omega
  have hmN : m < N := by omega
  clear hR1 h1 hNB hS0 hF0 hR2 hf2 hN hf1
  have H := Lib.hid h
  clear h
  cases hnm : nameS r with
  | true =>
    rw [if_pos hnm] at hres
    have RN := Blk.all hB
    go_wp2_with fail
    rw [← hp]
    refine (assign_rdr (n := n) (nm := nm) hl1 hl2 hl3 (by omega) hS.rd hS.na).mono ?_
    rintro e w3 ⟨hf3, hm3⟩
    have hF3 := hF.s2 hf3.up
    cases hu : assignS n nm o r with
    | error ep =>
      rw [hu] at hm3 hres
      obtain ⟨c, q⟩ := ep
      simp only [Threw] at hm3
      subst hm3 hres
      go_wp2_with fail
      exact ⟨rfl, hF3, rfl⟩
    | ok x =>
      rw [hu] at hm3 hres
      obtain ⟨s, r3⟩ := x
      obtain ⟨v, rfl, hsv, hR3⟩ := hm3
      obtain ⟨ty, vc, rfl⟩ := hsv.form
      simp only at hres
      subst hres
      go_wp2_with fail
      go_ret2
      exact ⟨hF3, _, rfl, SmIs.mono hF.size _ _ hsv, hR3, hS.ma.keep hf3 (by omega)⟩
  | false =>
    rw [if_neg (by simp [hnm])] at hres
    go_wp2_with fail
    refine (is_rdr (by omega) skip_ hS.rd).mono ?_
    rintro e w2 ⟨rfl, hR2, hf2⟩
    have hB2 := hB.fr hf2 (by omega)
    have hF2 := hF.s2 hf2.up
    cases hskip : isT skip_ r with
    | true =>
      rw [if_pos hskip] at hres
      rw [hskip] at hR2
      simp only [if_true] at hR2
      have hlt := isT_lt hg hskip
      have hT := hS.rdr hf2 hR2 (by omega)
      have hgT := hT.rd.good
      generalize hrq : passT r = r2 at *
      clear hS hB hF hR2
      go_wp2_with fail
      cases hsc : isT [59] r2 with
      | false =>
        have e : mustS [59] r2 = .error (80, (hereT r2).at_) := by unfold mustS; rw [if_neg (by simp [hsc])]
        rw [e] at hres
        subst hres
        refine (must_no (by omega) [59] hT.rd hsc).mono ?_
        rintro e w3 ⟨ht, hf3⟩
        simp only [Threw] at ht
        subst ht
        go_wp2_with fail
        exact ⟨rfl, hF2.s2 hf3.up, rfl⟩
      | true =>
        have e : mustS [59] r2 = .ok (passT r2) := by unfold mustS; rw [if_pos hsc]
        rw [e] at hres
        subst hres
        refine (must_yes (by omega) [59] hT.rd hsc).mono ?_
        rintro e w3 ⟨rfl, hR3, hf3⟩
        have hB3 := hB2.fr hf3 (by omega)
        have RN := Blk.all hB3
        have hM3 := hT.ma.keep hf3 (by omega)
        go_wp2_with fail
        go_ret2
        exact ⟨hF2.s2 hf3.up, _, rfl, by simp only [SmIs]; rfl, hR3, hM3⟩
    | false =>
      rw [if_neg (by simp [hskip])] at hres
      rw [hskip] at hR2
      simp only [Bool.false_eq_true, if_false] at hR2
      have hS := hS.rdr hf2 hR2 (Nat.le_refl _)
      have hB := hB2
      have hF := hF2
      clear hB2 hF2 hf2 hR2
      go_wp2_with fail
      refine (is_rdr (by omega) stop_ hS.rd).mono ?_
      rintro e w2 ⟨rfl, hR2, hf2⟩
      have hB2 := hB.fr hf2 (by omega)
      have hF2 := hF.s2 hf2.up
      cases hstop : isT stop_ r with
      | true =>
        rw [if_pos hstop] at hres
        rw [hstop] at hR2
        simp only [if_true] at hR2
        have hlt := isT_lt hg hstop
        have hT := hS.rdr hf2 hR2 (by omega)
        have hgT := hT.rd.good
        generalize hrq : passT r = r2 at *
        clear hS hB hF hR2
        go_wp2_with fail
        cases hsc : isT [59] r2 with
        | false =>
          have e : mustS [59] r2 = .error (80, (hereT r2).at_) := by unfold mustS; rw [if_neg (by simp [hsc])]
          rw [e] at hres
          subst hres
          refine (must_no (by omega) [59] hT.rd hsc).mono ?_
          rintro e w3 ⟨ht, hf3⟩
          simp only [Threw] at ht
          subst ht
          go_wp2_with fail
          exact ⟨rfl, hF2.s2 hf3.up, rfl⟩
        | true =>
          have e : mustS [59] r2 = .ok (passT r2) := by unfold mustS; rw [if_pos hsc]
          rw [e] at hres
          subst hres
          refine (must_yes (by omega) [59] hT.rd hsc).mono ?_
          rintro e w3 ⟨rfl, hR3, hf3⟩
          have hB3 := hB2.fr hf3 (by omega)
          have RN := Blk.all hB3
          have hM3 := hT.ma.keep hf3 (by omega)
          go_wp2_with fail
          go_ret2
          exact ⟨hF2.s2 hf3.up, _, rfl, by simp only [SmIs]; rfl, hR3, hM3⟩
      | false =>
        rw [if_neg (by simp [hstop])] at hres
        rw [hstop] at hR2
        simp only [Bool.false_eq_true, if_false] at hR2
        have hS := hS.rdr hf2 hR2 (Nat.le_refl _)
        have hB := hB2
        have hF := hF2
        clear hB2 hF2 hf2 hR2
        go_wp2_with fail
        refine (is_rdr (by omega) mark_ hS.rd).mono ?_
        rintro e w2 ⟨rfl, hR2, hf2⟩
        have hB2 := hB.fr hf2 (by omega)
        have hF2 := hF.s2 hf2.up
        cases hmark : isT mark_ r with
        | true =>
          rw [if_pos hmark] at hres
          rw [hmark] at hR2
          simp only [if_true] at hR2
          have hlt := isT_lt hg hmark
          have hT := hS.rdr hf2 hR2 (by omega)
          have hgT := hT.rd.good
          generalize hrq : passT r = r2 at *
          clear hS hB hF hR2
          have RN := Blk.all hB2
          go_wp2_with fail
          refine (mark_rdr hl1 (by have := hT.l4; omega) p hmb hT.rd hT.ma).mono ?_
          rintro e w3 ⟨hf3, hm3⟩
          have hF3 := hF2.s2 hf3
          cases hmk : markS p mk r2 with
          | error ep =>
            rw [hmk] at hm3 hres
            obtain ⟨c, q⟩ := ep
            simp only [Threw] at hm3
            subst hm3 hres
            go_wp2_with fail
            exact ⟨rfl, hF3, rfl⟩
          | ok x =>
            rw [hmk] at hm3 hres
            obtain ⟨s, mk1, r3⟩ := x
            obtain ⟨v, rfl, hsv, hR3, hM3⟩ := hm3
            obtain ⟨ty, vc, rfl⟩ := hsv.form
            simp only at hres
            subst hres
            go_wp2_with fail
            go_ret2
            exact ⟨hF3, _, rfl, SmIs.mono hF2.size _ _ hsv, hR3, hM3⟩
        | false =>
          rw [if_neg (by simp [hmark])] at hres
          rw [hmark] at hR2
          simp only [Bool.false_eq_true, if_false] at hR2
          have hS := hS.rdr hf2 hR2 (Nat.le_refl _)
          have hB := hB2
          have hF := hF2
          clear hB2 hF2 hf2 hR2
          go_wp2_with fail
          refine (is_rdr (by omega) choose_ hS.rd).mono ?_
          rintro e w2 ⟨rfl, hR2, hf2⟩
          have hB2 := hB.fr hf2 (by omega)
          have hF2 := hF.s2 hf2.up
          cases hchoose : isT choose_ r with
          | true =>
            rw [if_pos hchoose] at hres
            rw [hchoose] at hR2
            simp only [if_true] at hR2
            have hlt := isT_lt hg hchoose
            have hT := hS.rdr hf2 hR2 (by omega)
            have hgT := hT.rd.good
            generalize hrq : passT r = r2 at *
            clear hS hB hF hR2
            have hb2 := hT.bl
            have hNl := hB2.lt
            have hfN : ∀ k, N ≤ k → ¬ S2 b m k := by intro k hk; unfold S2; omega
            have hA0 : ∀ i, w2.drew.cell? ⟨N, i, none⟩ = (#[Value.int .i64 p.b, .int .i64 p.g, .int .i64 p.l, .int .i64 p.c] : Array Value)[i]? := Blk.all hB2.drew
            have hA1 := fun ob => all_ald (o := ob) hA0 hNl
            have hTd := hT.no ((Fr.refl No w2).drew)
            have hTa : ∀ ob, StIn (w2.alloc ob).drew b m lv nv o toks r2 nm mk := fun ob => hT.no (((Fr.refl No w2).alloc ob).drew)
            go_upto_region 13 with (fail)
            cases hbk : blockS n nm mk o r2 with
            | error ep =>
              rw [hbk] at hres
              obtain ⟨c, q⟩ := ep
              simp only at hres
              subst hres
              go_region_dies
              all_goals first
                | refine ((ih n (Nat.le_refl _)).bl _ b m lv nv o toks r2 nm mk hTd (by omega)).mono ?_
                | refine ((ih n (Nat.le_refl _)).bl _ b m lv nv o toks r2 nm mk (hTa _) (by omega)).mono ?_
              all_goals rintro e w5 ⟨hf5, hm5⟩
              all_goals rw [hbk] at hm5
              all_goals simp only [Threw] at hm5
              all_goals subst hm5
              all_goals go_wp2_with fail
              all_goals first
                | exact ⟨rfl, hF2.drew.s2 hf5, rfl⟩
                | exact ⟨rfl, ((hF2.alloc _).drew).s2 hf5, rfl⟩
            | ok x =>
              rw [hbk] at hres
              obtain ⟨l1, mk1, r3⟩ := x
              simp only at hres
              go_cut [5] (fun s5 wx => ∃ (G : Nat) (a : Option Addr) (c : Nat) (vs : List Value), s5 = .pointer (some ⟨G, 0, none⟩) ∧ w2.heap.size ≤ G ∧ Blk wx G (chO p (.slice a 1 c)) ∧ wx.ownsRow w2.heap.size 165 5 (.slice a 1 c) 1 vs ∧ (∀ w', Fr (fun k => S2 b m k ∨ k = G ∨ (Value.slice a 1 c).ownBlock = some k) wx w' → BlsAre w' w2.heap.size (.cons p l1 .nil) vs) ∧ StIn wx b m lv nv o toks r3 nm mk1 ∧ Fr (S2 b m) w wx)
              case first =>
                have hne1 : w2.heap.size ≠ N := by omega
                have hne2 : N ≠ w2.heap.size := by omega
                go_region_held3 (fun w' => ∀ i, w'.cell? ⟨N, i, none⟩ = (#[Value.int .i64 p.b, .int .i64 p.g, .int .i64 p.l, .int .i64 p.c] : Array Value)[i]?) (with_reducible (first | exact hA0 | exact all_ald hA0 hNl | exact hAG | exact all_al hAG hltG | exact all_al (all_al hAG hltG) (by simp; omega) | ((repeat (refine all_far ?_ (by assumption))); first | exact hA0 | exact all_ald hA0 hNl | exact hAG | exact all_al hAG hltG | exact all_al (all_al hAG hltG) (by simp; omega) | assumption))) (first | (go_at_call 111; refine ((ih n (Nat.le_refl _)).bl _ b m lv nv o toks r2 nm mk hTd (by omega)).mono ?_; rintro e w' ⟨hfp, hm3⟩; rw [hbk] at hm3; obtain ⟨a1, k1, c1, vs1, rfl, ho3, hs3, hR3, hM3⟩ := hm3; have hAG : ∀ i, w'.cell? ⟨N, i, none⟩ = (#[Value.int .i64 p.b, .int .i64 p.g, .int .i64 p.l, .int .i64 p.c] : Array Value)[i]? := all_frs hA0 (by simp; omega) (hfN N (by omega)) hfp; have hszG := hfp.size; have hneG1 : w'.heap.size ≠ N := (by simp at hszG; omega); have hneG2 : N ≠ w'.heap.size := hneG1.symm; have hneG3 : N ≠ w'.heap.size + 1 := (by simp at hszG; omega); have hltG : N < w'.heap.size := (by simp at hszG; omega)) | (go_at_call 111; refine ((ih n (Nat.le_refl _)).bl _ b m lv nv o toks r2 nm mk (hTa _) (by omega)).mono ?_; rintro e w' ⟨hfp, hm3⟩; rw [hbk] at hm3; obtain ⟨a1, k1, c1, vs1, rfl, ho3, hs3, hR3, hM3⟩ := hm3; have hAG : ∀ i, w'.cell? ⟨N, i, none⟩ = (#[Value.int .i64 p.b, .int .i64 p.g, .int .i64 p.l, .int .i64 p.c] : Array Value)[i]? := all_frs (all_ald hA0 hNl) (by simp; omega) (hfN N (by omega)) hfp; have hfzG : ∀ i, w'.frozen? ⟨w2.heap.size, i, none⟩ = false := Blk.frees (Blk.fr (Blk.drew (Blk.new w2 (.cells #[.int .i64 0, .int .i64 0, .int .i64 0, .int .i64 0, .slice none 0 0] 163 (0, 0)))) hfp (hfN _ (by omega))); have hclG : ∀ i, w'.cell? ⟨w2.heap.size, i, none⟩ = (#[Value.int .i64 0, .int .i64 0, .int .i64 0, .int .i64 0, .slice none 0 0] : Array Value)[i]? := Blk.all (Blk.fr (Blk.drew (Blk.new w2 (.cells #[.int .i64 0, .int .i64 0, .int .i64 0, .int .i64 0, .slice none 0 0] 163 (0, 0)))) hfp (hfN _ (by omega))); have hfzH : ∀ ob i, (w'.alloc ob).frozen? ⟨w2.heap.size, i, none⟩ = false := fun ob => Blk.frees (Blk.alloc (Blk.fr (Blk.drew (Blk.new w2 (.cells #[.int .i64 0, .int .i64 0, .int .i64 0, .int .i64 0, .slice none 0 0] 163 (0, 0)))) hfp (hfN _ (by omega))) ob); have hclH : ∀ ob i, (w'.alloc ob).cell? ⟨w2.heap.size, i, none⟩ = (#[Value.int .i64 0, .int .i64 0, .int .i64 0, .int .i64 0, .slice none 0 0] : Array Value)[i]? := fun ob => Blk.all (Blk.alloc (Blk.fr (Blk.drew (Blk.new w2 (.cells #[.int .i64 0, .int .i64 0, .int .i64 0, .int .i64 0, .slice none 0 0] 163 (0, 0)))) hfp (hfN _ (by omega))) ob); have hszG := hfp.size; have hneG1 : w'.heap.size ≠ N := (by simp at hszG; omega); have hneG2 : N ≠ w'.heap.size := hneG1.symm; have hneG3 : N ≠ w'.heap.size + 1 := (by simp at hszG; omega); have hltG : N < w'.heap.size := (by simp at hszG; omega)))
                all_goals go_wp2_with fail
                all_goals go_meet
                all_goals have q1 := (st_len nm n).bl hgT hbk
                all_goals have hbm : ∀ k, w2.heap.size ≤ k → ¬ S2 b m k := (by intro k hk; have := hT.ma.lt; unfold S2; omega)
                · have hk := (Fr.alloc (Fr.refl No w') (.cells #[.int .i64 p.b, .int .i64 p.g, .int .i64 p.l, .int .i64 p.c, .slice a1 k1 c1] 165 (0, 0))).alloc (.cells #[.int .i64 p.b, .int .i64 p.g, .int .i64 p.l, .int .i64 p.c, .slice (some ⟨w'.heap.size, 0, none⟩) 1 1] 163 (0, 0))
                  exact ⟨w'.heap.size + 1, _, 1, _, rfl, by simp at hszG; omega, by have h := Blk.new (w'.alloc (.cells #[.int .i64 p.b, .int .i64 p.g, .int .i64 p.l, .int .i64 p.c, .slice a1 k1 c1] 165 (0, 0))) (.cells #[.int .i64 p.b, .int .i64 p.g, .int .i64 p.l, .int .i64 p.c, .slice (some ⟨w'.heap.size, 0, none⟩) 1 1] 163 (0, 0)); rwa [alloc_size] at h, (own_block1 rfl (by simp at hszG; omega) _ _ _ _ _ _).alloc _, fun wz f => bls_one ho3 hs3 ((((Fr.refl _ w').alloc (.cells #[.int .i64 p.b, .int .i64 p.g, .int .i64 p.l, .int .i64 p.c, .slice a1 k1 c1] 165 (0, 0))).alloc (.cells #[.int .i64 p.b, .int .i64 p.g, .int .i64 p.l, .int .i64 p.c, .slice (some ⟨w'.heap.size, 0, none⟩) 1 1] 163 (0, 0))).call f (fun _ _ x => x)) (fun k h1 h2 e => by
                    rcases e with e | e | e
                    · exact hbm k (by simpa using h1) e
                    · omega
                    · have e2 : w'.heap.size = k := Option.some.inj e
                      omega) (by simp), (hTd.next hfp hR3 hM3 q1.2.2).no hk, (hF2.drew.s2 hfp).callNo hk⟩
                · have hk := (Fr.alloc (Fr.refl No w') (.cells #[.int .i64 p.b, .int .i64 p.g, .int .i64 p.l, .int .i64 p.c, .slice (some ⟨w'.heap.size + 1, 0, none⟩) 1 1] 163 (0, 0))).alloc (.cells #[.int .i64 p.b, .int .i64 p.g, .int .i64 p.l, .int .i64 p.c, .slice a1 k1 c1] 165 (0, 0))
                  exact ⟨w'.heap.size, _, 1, _, rfl, by simp at hszG; omega, (Blk.new w' (.cells #[.int .i64 p.b, .int .i64 p.g, .int .i64 p.l, .int .i64 p.c, .slice (some ⟨w'.heap.size + 1, 0, none⟩) 1 1] 163 (0, 0))).alloc _, own_block1 (alloc_size _ _) (by simp at hszG; omega) _ _ _ _ _ _, fun wz f => bls_one ho3 hs3 ((((Fr.refl _ w').alloc (.cells #[.int .i64 p.b, .int .i64 p.g, .int .i64 p.l, .int .i64 p.c, .slice (some ⟨w'.heap.size + 1, 0, none⟩) 1 1] 163 (0, 0))).alloc (.cells #[.int .i64 p.b, .int .i64 p.g, .int .i64 p.l, .int .i64 p.c, .slice a1 k1 c1] 165 (0, 0))).call f (fun _ _ x => x)) (fun k h1 h2 e => by
                    rcases e with e | e | e
                    · exact hbm k (by simpa using h1) e
                    · omega
                    · have e2 : w'.heap.size + 1 = k := Option.some.inj e
                      omega) (by simp), (hTd.next hfp hR3 hM3 q1.2.2).no hk, (hF2.drew.s2 hfp).callNo hk⟩
                · have hBz := (Blk.fr (Blk.drew (Blk.new w2 (.cells #[.int .i64 0, .int .i64 0, .int .i64 0, .int .i64 0, .slice none 0 0] 163 (0, 0)))) hfp (hfN _ (by omega))).alloc (.cells #[.int .i64 p.b, .int .i64 p.g, .int .i64 p.l, .int .i64 p.c, .slice a1 k1 c1] 165 (0, 0))
                  have hB5 := set5 hBz (.int .i64 p.b) (.int .i64 p.g) (.int .i64 p.l) (.int .i64 p.c) (.slice (some ⟨w'.heap.size, 0, none⟩) 1 1)
                  have hwG : w2.heap.size < w'.heap.size := by have := hfp.size; rw [show (w2.alloc (.cells #[.int .i64 0, .int .i64 0, .int .i64 0, .int .i64 0, .slice none 0 0] 163 (0, 0))).drew.heap.size = w2.heap.size + 1 from alloc_size _ _] at this; omega
                  have hfk := fr5 ((Fr.refl (· = w2.heap.size) w').alloc (.cells #[.int .i64 p.b, .int .i64 p.g, .int .i64 p.l, .int .i64 p.c, .slice a1 k1 c1] 165 (0, 0))) (fun _ _ => rfl) (.int .i64 p.b) (.int .i64 p.g) (.int .i64 p.l) (.int .i64 p.c) (.slice (some ⟨w'.heap.size, 0, none⟩) 1 1)
                  have hfk2 := fr5 (Fr.refl (· = w2.heap.size) (w'.alloc (.cells #[.int .i64 p.b, .int .i64 p.g, .int .i64 p.l, .int .i64 p.c, .slice a1 k1 c1] 165 (0, 0)))) (fun _ _ => rfl) (.int .i64 p.b) (.int .i64 p.g) (.int .i64 p.l) (.int .i64 p.c) (.slice (some ⟨w'.heap.size, 0, none⟩) 1 1)
                  have hfW := fr5 ((((Fr.refl (S2 b m) w2).alloc (.cells #[.int .i64 0, .int .i64 0, .int .i64 0, .int .i64 0, .slice none 0 0] 163 (0, 0))).drew.s2 hfp).alloc (.cells #[.int .i64 p.b, .int .i64 p.g, .int .i64 p.l, .int .i64 p.c, .slice a1 k1 c1] 165 (0, 0))) (N := w2.heap.size) (fun i h => absurd h (Nat.lt_irrefl _)) (.int .i64 p.b) (.int .i64 p.g) (.int .i64 p.l) (.int .i64 p.c) (.slice (some ⟨w'.heap.size, 0, none⟩) 1 1)
                  have hm2 := hT.ma.lt
                  have hsz1 : (w2.alloc (.cells #[.int .i64 0, .int .i64 0, .int .i64 0, .int .i64 0, .slice none 0 0] 163 (0, 0))).drew.heap.size = w2.heap.size + 1 := alloc_size _ _
                  exact ⟨w2.heap.size, _, 1, _, rfl, Nat.le_refl _, hB5, own_fr (own_block1 rfl (by omega) _ _ _ _ _ _) hfk2 (fun k hk e => by
                    have e2 : w'.heap.size = k := Option.some.inj hk
                    omega), fun wz f => bls_one ho3 hs3 (((Fr.refl (fun k => S2 b m k ∨ k = w2.heap.size ∨ (Value.slice (some ⟨w'.heap.size, 0, none⟩) 1 1).ownBlock = some k) w').call hfk (fun _ _ e => Or.inr (Or.inl e))).call f (fun _ _ x => x)) (fun k h1 h2 e => by
                    rw [hsz1] at h1
                    rcases e with e | e | e
                    · exact hbm k (by omega) e
                    · omega
                    · have e2 : w'.heap.size = k := Option.some.inj e
                      omega) (by rw [hsz1]; omega), ⟨hT.rd.farS hR3 hfk (fun k e => by omega), hT.na.map hT.ma hfW, hM3.keep hfk (by omega), hmb, hl1, hl2, hl3, by have := hT.l4; omega⟩, hF2.s2 hfW⟩
              case rest =>
                obtain ⟨G, a, c, vs, rfl, hGw, hBG, ho, hbs, hT3, hF3⟩ := hcut
                have RG := Blk.all hBG
                have ZG := Blk.frees hBG
                go_wp2_with fail
                refine (here_rdr hT3.rd).mono ?_
                rintro e w4 ⟨rfl, hR4, hf4⟩
                simp only [tokC]
                have hfa := fld_at
                go_wp2_with fail
                have hm2 := hT.ma.lt
                have hfar : ∀ k, w2.heap.size ≤ k → ¬ S2 b m k := by intro k hk; unfold S2; omega
                obtain ⟨ib, hib, hz0, hz1, hz2⟩ := info_parts info_block
                obtain ⟨pa, hpa⟩ : ∃ pa, hereT r3 = pa := ⟨_, rfl⟩
                rw [hpa]
                have hcA := hf4.alloc (.cells #[.int .i64 pa.at_.b, .int .i64 pa.at_.g, .int .i64 pa.at_.l, .int .i64 pa.at_.c] 26 (0, 0))
                have hq1 := (st_len nm n).bl hgT hbk
                have hGl := hBG.lt
                have hw2 := hF2.size
                have hwG : w.heap.size ≤ G := Nat.le_trans hw2 hGw
                have hrl : r.length ≤ 10000 := by have := H.out.l4; omega
                go_loopg [6] r3.length (fun gk x6 wr => ∃ (k : Nat) (acc : Bls) (r1 : List Tok) (mk2 : List (List UInt8)) (A N' : Nat) (a : Option Addr) (c : Nat) (vs : List Value), gk = r1.length ∧ x6 = .pointer (some ⟨A, 0, none⟩) ∧ orR p acc (orS k nm mk2 o r1) = res ∧ k ≤ n ∧ 8 * r1.length + 2 ≤ k ∧ r1.length ≤ r.length ∧ N' + r1.length ≤ r.length ∧ w2.heap.size ≤ A ∧ A ≠ G ∧ Blk wr A (.cells #[.int .i64 (hereT r1).at_.b, .int .i64 (hereT r1).at_.g, .int .i64 (hereT r1).at_.l, .int .i64 (hereT r1).at_.c] 26 (0, 0)) ∧ Blk wr G (chO p (.slice a N' c)) ∧ wr.ownsRow w2.heap.size 165 5 (.slice a N' c) N' vs ∧ (∀ w', Fr (fun k => S2 b m k ∨ k = G ∨ (Value.slice a N' c).ownBlock = some k) wr w' → BlsAre w' w2.heap.size acc vs) ∧ StIn wr b m lv nv o toks r1 nm mk2 ∧ Fr (S2 b m) w wr)
                case atStart =>
                  have hw4 := hf4.size
                  refine ⟨n, .cons p l1 .nil, r3, mk1, w4.heap.size, 1, a, c, vs, rfl, rfl, ?_, Nat.le_refl _, by omega, by omega, by omega, by omega, by omega, by rw [hpa]; exact Blk.new w4 _, hBG.fr hcA (fun x => x), own_fr ho hcA (fun _ _ x => x), fun w' f => hbs w' ((Fr.ofNo hcA).call f (fun _ _ x => x)), hT3.no hcA, hF3.callNo hcA⟩
                  rw [← hres]
                  cases orS n nm mk1 o r3 with
                  | error e => rfl
                  | ok x => obtain ⟨l, mk1, r1⟩ := x; rfl
                case round =>
                  clear hres hBG ho hbs hT3 hF3 hR4 hcA hf4 hpa RG ZG hbk
                  obtain ⟨k, acc, r1, mk2, A, N', a, c, vs, hgk, rfl, hres, hkn, hkm, hrr, hvr, hAw, hAG, hA1, hG1, ho1, hs1, h1, hf1⟩ := hrel
                  have hg1 := h1.rd.good
                  obtain ⟨k, rfl⟩ : ∃ k', k = k' + 1 := ⟨k - 1, by omega⟩
                  simp only [orS] at hres
                  have HG := Lib.hid hgk
                  clear hgk
                  go_wp2_with fail
                  refine (is_rdr (by omega) or_ h1.rd).mono ?_
                  rintro e w5 ⟨rfl, hR5, hf5⟩
                  have hG5 := hG1.fr hf5 (by omega)
                  have hA5 := hA1.fr hf5 (by omega)
                  have hF5 := hf1.s2 hf5.up
                  have ho5 := own_fr ho1 hf5 (fun j hj => by have := (ho1.lt j hj).1; omega)
                  have hs5 := fun w' (f : Fr (fun k => S2 b m k ∨ k = G ∨ (Value.slice a N' c).ownBlock = some k) w5 w') => hs1 w' (((Fr.refl _ wr).call hf5 (fun _ _ e => Or.inl (Or.inl e))).call f (fun _ _ x => x))
                  clear hG1 hA1 hf1 ho1 hs1
                  cases hor : isT or_ r1 with
                  | false =>
                    rw [if_neg (by simp [hor])] at hres
                    rw [hor] at hR5
                    simp only [Bool.false_eq_true, if_false] at hR5
                    simp only [orR, Bls.app_nil] at hres
                    have hM5 := h1.ma.keep hf5 (by omega)
                    have RG := Blk.all hG5
                    subst hres
                    go_wp2_with fail
                    go_ret2
                    exact ⟨hF5, _, rfl, by simp only [SmIs]; exact ⟨a, N', c, vs, own_mono ho5 hw2, BlsAre.mono hw2 _ _ (hs5 w5 (Fr.refl _ _)), rfl⟩, hR5, hM5⟩
                  | true =>
                    rw [if_pos hor] at hres
                    rw [hor] at hR5
                    simp only [if_true] at hR5
                    have hlt := isT_lt hg1 hor
                    have h5 := h1.rdr hf5 hR5 (by omega)
                    have hg5 := h5.rd.good
                    have h5d := h5.no ((Fr.refl No w5).drew)
                    generalize hrq : passT r1 = r5 at *
                    clear h1 hR5 hf5
                    cases hb5 : blockS k nm mk2 o r5 with
                    | error ep =>
                      rw [hb5] at hres
                      obtain ⟨c', q⟩ := ep
                      simp only [orR] at hres
                      subst hres
                      have RG := Blk.all hG5
                      have RA := Blk.all hA5
                      go_wp2_with fail
                      go_region_dies
                      all_goals refine ((ih k (by omega)).bl _ b m lv nv o toks r5 nm mk2 h5d (by omega)).mono ?_
                      all_goals rintro e w6 ⟨hf6, hm6⟩
                      all_goals rw [hb5] at hm6
                      all_goals simp only [Threw] at hm6
                      all_goals subst hm6
                      all_goals go_wp2_with fail
                      all_goals exact ⟨rfl, hF5.drew.s2 hf6, rfl⟩
                    | ok x =>
                      rw [hb5] at hres
                      obtain ⟨l5, mk5, r6⟩ := x
                      simp only at hres
                      have q5 := (st_len nm k).bl hg5 hb5
                      go_upto_block 2 with (fail)
                      have hRA : ∀ i, w5.drew.cell? ⟨A, i, none⟩ = (#[Value.int .i64 (hereT r1).at_.b, .int .i64 (hereT r1).at_.g, .int .i64 (hereT r1).at_.l, .int .i64 (hereT r1).at_.c] : Array Value)[i]? := Blk.all hA5.drew
                      have hRG : ∀ i, w5.drew.cell? ⟨G, i, none⟩ = (#[.int .i64 p.b, .int .i64 p.g, .int .i64 p.l, .int .i64 p.c, .slice a N' c] : Array Value)[i]? := Blk.all hG5.drew
                      have hAl5 : A < w5.drew.heap.size := hA5.lt
                      have hGl5 : G < w5.drew.heap.size := hG5.lt
                      obtain ⟨pr, hpr⟩ : ∃ pr, (hereT r1).at_ = pr := ⟨_, rfl⟩
                      rw [hpr] at hres hRA hA5
                      have hol := ho5.lt
                      have hoG : (Value.slice a N' c).ownBlock ≠ some G := own_ne ho5 hG5 (by decide)
                      have hoA : (Value.slice a N' c).ownBlock ≠ some A := own_ne ho5 hA5 (by decide)
                      have hb5' : b < w5.heap.size := h5.bl
                      have hm5' : m < w5.heap.size := h5.ma.lt
                      have hsz5 := hF5.size
                      go_cut [5] (fun s5 wx => ∃ (a : Option Addr) (c : Nat) (vs : List Value), s5 = .pointer (some ⟨G, 0, none⟩) ∧ Blk wx A (.cells #[.int .i64 pr.b, .int .i64 pr.g, .int .i64 pr.l, .int .i64 pr.c] 26 (0, 0)) ∧ Blk wx G (chO p (.slice a (N' + 1) c)) ∧ wx.ownsRow w2.heap.size 165 5 (.slice a (N' + 1) c) (N' + 1) vs ∧ (∀ w', Fr (fun k => S2 b m k ∨ k = G ∨ (Value.slice a (N' + 1) c).ownBlock = some k) wx w' → BlsAre w' w2.heap.size (acc.snoc pr l5) vs) ∧ StIn wx b m lv nv o toks r6 nm mk5 ∧ Fr (S2 b m) w wx)
                      case first =>
                        go_wp2_with fail
                        go_region_law (first | (refine step_append_lies _ (by rfl) _ _ _ (by rfl) w2.heap.size 165 ib _ 5 56 Tryz.underlying161 hib hz0 hz1 hz2 rfl (by omega) (.slice a N' c) N' vs (by rfl) (ho56.alloc _) ⟨w6.heap.size, 0, none⟩ 1 1 [.int .i64 pr.b, .int .i64 pr.g, .int .i64 pr.l, .int .i64 pr.c, .slice a6 k6 c6] (by rfl) (by rfl) (World.news_of_block (cs := #[.int .i64 pr.b, .int .i64 pr.g, .int .i64 pr.l, .int .i64 pr.c, .slice a6 k6 c6]) (t := 165) (fr := (0, 0)) (heap_alloc_new w6 _)) (block_one _ _) (by omega) (by unfold maxLen; omega) (by omega) (by have := hf6.size; simp at this; simp; omega) (w6.heap.size + 1) (by simp) ?_; intro gg cap w7 hown7 hgr7 hat7 hlt7; have hRG7 : ∀ i, w7.cell? ⟨G, i, none⟩ = (#[.int .i64 p.b, .int .i64 p.g, .int .i64 p.l, .int .i64 p.c, .slice a N' c] : Array Value)[i]? := (fun i => (hgr7.cell_far ⟨G, i, none⟩ (by simp; omega) (Ne.symm hoG)).trans (all_al hRG6 hGl6 i)); have hZG7 : ∀ i, w7.frozen? ⟨G, i, none⟩ = false := (fun i => (hgr7.frozen_far ⟨G, i, none⟩ (by simp; omega) (Ne.symm hoG)).trans (Blk.frees (Blk.alloc (Blk.fr hG5.drew hf6 (hfar G hGw)) _) i))) | (go_simp; go_at_call 111; refine ((ih k (by omega)).bl _ b m lv nv o toks r5 nm mk2 h5d (by omega)).mono ?_; rintro e w6 ⟨hf6, hm6⟩; rw [hb5] at hm6; obtain ⟨a6, k6, c6, vs6, rfl, ho6, hs6, hR6, hM6⟩ := hm6; have hRA6 : ∀ i, w6.cell? ⟨A, i, none⟩ = (#[Value.int .i64 pr.b, .int .i64 pr.g, .int .i64 pr.l, .int .i64 pr.c] : Array Value)[i]? := all_frs hRA hAl5 (hfar A hAw) hf6; have hRG6 : ∀ i, w6.cell? ⟨G, i, none⟩ = (#[.int .i64 p.b, .int .i64 p.g, .int .i64 p.l, .int .i64 p.c, .slice a N' c] : Array Value)[i]? := all_frs hRG hGl5 (hfar G hGw) hf6; have hAl6 := Nat.lt_of_lt_of_le hAl5 hf6.size; have hGl6 := Nat.lt_of_lt_of_le hGl5 hf6.size; have ho56 := own_fr (own_fr ho5 ((Fr.refl No w5).drew) (fun _ _ x => x)) hf6 (fun j hj => hfar j (hol j hj).1)))
                        all_goals go_wp2_with fail
                        all_goals go_meet
                        all_goals have f67 : Fr (fun j => (Value.slice a N' c).ownBlock = some j) w6 w7 := (((Fr.refl _ w6).alloc _).grown hgr7 (fun j hj _ => hj))
                        all_goals have hG7 := (hG5.drew.fr hf6 (hfar G hGw)).fr f67 hoG
                        all_goals have hA7 := (hA5.drew.fr hf6 (hfar A hAw)).fr f67 hoA
                        all_goals have hfk := (Fr.refl (· = G) w7).setCell (a := ⟨G, 4, none⟩) (.slice (some ⟨gg, 0, none⟩) (N' + 1) cap) (fun _ => rfl)
                        all_goals have f68 := ((Fr.refl (fun k => k = G ∨ (Value.slice a N' c).ownBlock = some k) w6).call f67 (fun _ _ e => Or.inr e)).call hfk (fun _ _ e => Or.inl e)
                        all_goals have hFW := (((hF5.drew.s2 hf6).alloc _).grown hgr7 (fun j hj hlt => by have := (hol j hj).1; omega)).setCell (a := ⟨G, 4, none⟩) (.slice (some ⟨gg, 0, none⟩) (N' + 1) cap) (fun h => absurd h (Nat.not_lt.2 hwG))
                        all_goals have hsz6 := hf6.size
                        all_goals have hdr : w5.drew.heap.size = w5.heap.size := rfl
                        all_goals refine ⟨_, _, _, rfl, hA7.set_ne ⟨G, 4, none⟩ _ hAG, hG7.setOff 4 (.slice (some ⟨gg, 0, none⟩) (N' + 1) cap), own_fr hown7 hfk (fun j hj e => own_ne hown7 hG7 (by decide) (e ▸ hj)), fun w' f => ?_, ⟨H.out.rd.farS hR6 f68 (fun k e => by
                          rcases e with e | e
                          · omega
                          · have := (hol k e).1; omega), H.out.na.map H.out.ma hFW, hM6.keep f68 (fun e => by
                          rcases e with e | e
                          · omega
                          · have := (hol m e).1; omega), hmb, hl1, hl2, hl3, by have := h5.l4; omega⟩, hFW⟩
                        all_goals have fT : Fr (fun k => S2 b m k ∨ k = G ∨ (Value.slice a N' c).ownBlock = some k) w6 w' := ((Fr.refl _ w6).call f68 (fun _ _ e => Or.inr e)).call f (fun k hk e => by
                          rcases e with e | e | e
                          · exact Or.inl e
                          · exact Or.inr (Or.inl e)
                          · have e2 : gg = k := Option.some.inj e
                            rcases hat7 with h7 | h7
                            · exact Or.inr (Or.inr (e2 ▸ h7))
                            · omega)
                        all_goals have hT6 : ∀ k, w5.drew.heap.size ≤ k → ¬ (S2 b m k ∨ k = G ∨ (Value.slice a N' c).ownBlock = some k) := (by
                          intro k hk e
                          rcases e with e | e | e
                          · unfold S2 at e; omega
                          · omega
                          · have := (hol k e).2; omega)
                        all_goals exact BlsAre.snoc (own_mono (own_fr ho6 fT (fun j hj => hT6 j (ho6.lt j hj).1)) (by omega)) (SmsAre.mono (by omega) _ _ (SmsAre.keep fT hT6 _ _ hs6)) _ _ (hs5 w' ((((Fr.refl _ w5).drew).call hf6 (fun _ _ e => Or.inl e)).call fT (fun _ _ e => e)))
                      case rest =>
                        clear hA5 hG5 hF5 ho5 hs5 hRA hRG hAl5 hGl5 hol hoG hoA hb5' hm5' hsz5 h5d
                        obtain ⟨a, c, vs, rfl, hA7, hG7, ho7, hs7, h7, hF7⟩ := hcut
                        have RA := Blk.all hA7
                        go_wp2_with fail
                        have hal := Fr.alloc (Fr.refl No wc) (.cells #[.int .i64 pr.b, .int .i64 pr.g, .int .i64 pr.l, .int .i64 pr.c] 26 (0, 0))
                        have h7a := h7.no hal
                        have hP := Blk.new wc (.cells #[.int .i64 pr.b, .int .i64 pr.g, .int .i64 pr.l, .int .i64 pr.c] 26 (0, 0))
                        refine (here_rdr h7a.rd).mono ?_
                        rintro e w8 ⟨rfl, hR8, hf8⟩
                        obtain ⟨p6, hp6⟩ : ∃ p6, (hereT r6).at_ = p6 := ⟨_, rfl⟩
                        have hal8 := hal.callNo hf8
                        have h8 := h7a.no hf8
                        have hP8 := hP.fr hf8 (fun x => x)
                        have hG8 := hG7.fr hal8 (fun x => x)
                        have hF8 := hF7.callNo hal8
                        have ho8 := own_fr ho7 hal8 (fun _ _ x => x)
                        have hwcG : wc.heap.size ≠ G := by have := hG7.lt; omega
                        have hwcw : w.heap.size ≤ wc.heap.size := hF7.size
                        have hwc2 : w2.heap.size ≤ wc.heap.size := by have := hG7.lt; omega
                        have hwcb : b < wc.heap.size := h7.bl
                        have hwcm : m < wc.heap.size := h7.ma.lt
                        have hwco : (Value.slice a (N' + 1) c).ownBlock ≠ some wc.heap.size := fun e => by have := (ho7.lt _ e).2; omega
                        obtain ⟨A2, hA2⟩ : ∃ A2, wc.heap.size = A2 := ⟨_, rfl⟩
                        rw [hA2] at hP8 hwcG hwcw hwc2 hwcb hwcm hwco ⊢
                        have RP := Blk.all hP8
                        have ZP := Blk.frees hP8
                        have hfk := fr4 hal8 (N := A2) (fun i h => absurd h (Nat.not_lt.2 (Nat.le_of_eq hA2))) (.int .i64 p6.b) (.int .i64 p6.g) (.int .i64 p6.l) (.int .i64 p6.c)
                        have hPk := set4 hP8 (.int .i64 p6.b) (.int .i64 p6.g) (.int .i64 p6.l) (.int .i64 p6.c)
                        have hGk := hG7.fr hfk (fun x => x)
                        have hok := own_fr ho7 hfk (fun _ _ x => x)
                        have hsk := fun w' (f : Fr (fun k => S2 b m k ∨ k = G ∨ (Value.slice a (N' + 1) c).ownBlock = some k) _ w') => hs7 w' ((Fr.ofNo hfk).call f (fun _ _ x => x))
                        have h7k := h7.no hfk
                        have hFk := hF7.callNo hfk
                        simp only [tokC]
                        rw [hp6]
                        clear h8 hG8 hF8 ho8 hP8 hfk hf8 hR8 hP h7a hal hal8 hA7 hG7 ho7 hs7 h7 hF7
                        go_wp2_with fail
                        go_roundg r6.length
                        case measure => rw [HG.out]; omega
                        case rel =>
                          refine ⟨k, acc.snoc pr l5, r6, mk5, A2, N' + 1, a, c, vs, rfl, rfl, ?_, by omega, by omega, by omega, by omega, hwc2, hwcG, by rw [hp6]; exact hPk, hGk, hok, hsk, h7k, hFk⟩
                          rw [← hres]
                          cases orS k nm mk5 o r6 with
                          | error e => rfl
                          | ok x => obtain ⟨l, mk3, r3⟩ := x; simp only [orR, Bls.app_snoc]
          | false =>
            rw [if_neg (by simp [hchoose])] at hres
            rw [hchoose] at hR2
            simp only [Bool.false_eq_true, if_false] at hR2
            have hS := hS.rdr hf2 hR2 (Nat.le_refl _)
            have hB := hB2
            have hF := hF2
            clear hB2 hF2 hf2 hR2
            go_wp2_with fail
            refine (is_rdr (by omega) loop_ hS.rd).mono ?_
            rintro e w2 ⟨rfl, hR2, hf2⟩
            have hB2 := hB.fr hf2 (by omega)
            have hF2 := hF.s2 hf2.up
            cases hloop : isT loop_ r with
            | true =>
              rw [if_pos hloop] at hres
              rw [hloop] at hR2
              simp only [if_true] at hR2
              have hlt := isT_lt hg hloop
              have hT := hS.rdr hf2 hR2 (by omega)
              have hgT := hT.rd.good
              generalize hrq : passT r = r2 at *
              clear hS hB hF hR2
              have RN := Blk.all hB2
              have hTd := hT.no ((Fr.refl No w2).drew)
              have hBd : Blk w2.drew N (plO' p) := hB2.drew
              have hFd : Fr (S2 b m) w w2.drew := hF2.drew
              have hNl := hBd.lt
              go_wp2_with fail
              cases hbk : blockS n nm mk o r2 with
              | error ep =>
                rw [hbk] at hres
                obtain ⟨c, q⟩ := ep
                simp only at hres
                subst hres
                go_region_dies
                all_goals refine ((ih n (Nat.le_refl _)).bl _ b m lv nv o toks r2 nm mk hTd (by omega)).mono ?_
                all_goals rintro e w3 ⟨hf3, hm3⟩
                all_goals rw [hbk] at hm3
                all_goals simp only [Threw] at hm3
                all_goals subst hm3
                all_goals go_wp2_with fail
                all_goals exact ⟨rfl, hFd.s2 hf3, rfl⟩
              | ok x =>
                rw [hbk] at hres
                obtain ⟨l, mk1, r3⟩ := x
                simp only at hres
                go_region_with (go_at_call 111; refine ((ih n (Nat.le_refl _)).bl _ b m lv nv o toks r2 nm mk hTd (by omega)).mono ?_; rintro e w3 ⟨hf3, hm3⟩; rw [hbk] at hm3; obtain ⟨a, k, c, vs, rfl, ho3, hs3, hR3, hM3⟩ := hm3; have RN3 := Blk.all (hBd.fr hf3 (by unfold S2; omega)))
                all_goals go_wp2_with fail
                all_goals go_ret2
                all_goals subst hres
                all_goals exact ⟨hFd.s2 hf3, _, rfl, by simp only [SmIs]; exact ⟨a, k, c, vs, own_mono ho3 hFd.size, SmsAre.mono hFd.size _ _ hs3, rfl⟩, hR3, hM3⟩
            | false =>
              rw [if_neg (by simp [hloop])] at hres
              rw [hloop] at hR2
              simp only [Bool.false_eq_true, if_false] at hR2
              have hS := hS.rdr hf2 hR2 (Nat.le_refl _)
              have hB := hB2
              have hF := hF2
              clear hB2 hF2 hf2 hR2
              go_wp2_with fail
              refine (is_rdr (by omega) if_ hS.rd).mono ?_
              rintro e w2 ⟨rfl, hR2, hf2⟩
              have hB2 := hB.fr hf2 (by omega)
              have hF2 := hF.s2 hf2.up
              cases hif : isT if_ r with
              | true =>
                rw [if_pos hif] at hres
                rw [hif] at hR2
                simp only [if_true] at hR2
                have hlt := isT_lt hg hif
                have hT := hS.rdr hf2 hR2 (by omega)
                have hgT := hT.rd.good
                generalize hrq : passT r = r2 at *
                clear hS hB hF hR2
                have hb2 := hT.bl
                have hNl := hB2.lt
                have hA0 : ∀ i, w2.drew.cell? ⟨N, i, none⟩ = (#[Value.int .i64 p.b, .int .i64 p.g, .int .i64 p.l, .int .i64 p.c] : Array Value)[i]? := Blk.all hB2.drew
                have hA1 := fun ob => all_ald (o := ob) hA0 hNl
                have hTd := hT.no ((Fr.refl No w2).drew)
                have hTa : ∀ ob, StIn (w2.alloc ob).drew b m lv nv o toks r2 nm mk := fun ob => hT.no (((Fr.refl No w2).alloc ob).drew)
                go_upto_region 24 with (fail)
                cases hc : condS n nm o r2 with
                | error ep =>
                  rw [hc] at hres
                  obtain ⟨c, q⟩ := ep
                  simp only at hres
                  subst hres
                  go_region_dies
                  all_goals first
                    | refine (cond_rdr (n := n) hl1 hl2 hl3 (by omega) hTd.rd hTd.na).mono ?_
                    | refine (cond_rdr (n := n) hl1 hl2 hl3 (by omega) (hTa _).rd (hTa _).na).mono ?_
                  all_goals rintro e w5 ⟨hf5, hm5⟩
                  all_goals rw [hc] at hm5
                  all_goals simp only [Threw] at hm5
                  all_goals subst hm5
                  all_goals go_wp2_with fail
                  all_goals first
                    | exact ⟨rfl, hF2.drew.s2 hf5.up, rfl⟩
                    | exact ⟨rfl, ((hF2.alloc _).drew).s2 hf5.up, rfl⟩
                | ok x =>
                  rw [hc] at hres
                  obtain ⟨⟨cl, cr, ceq⟩, r3⟩ := x
                  have hlc := cond_len hgT hc
                  simp only at hres
                  go_cut [7] (fun s7 wx => ∃ G y z, s7 = .pointer (some ⟨G, 0, none⟩) ∧ w2.heap.size ≤ G ∧ Blk wx G (ifO p y z ceq (.slice none 0 0) (.pointer none)) ∧ NdIs wx w2.heap.size cl y ∧ NdIs wx w2.heap.size cr z ∧ StIn wx b m lv nv o toks r3 nm mk ∧ Fr (S2 b m) w wx)
                  case first =>
                    have hne1 : w2.heap.size ≠ N := by omega
                    have hne2 : N ≠ w2.heap.size := by omega
                    go_region_held3 (fun w' => ∀ i, w'.cell? ⟨N, i, none⟩ = (#[Value.int .i64 p.b, .int .i64 p.g, .int .i64 p.l, .int .i64 p.c] : Array Value)[i]?) (with_reducible (first | exact hA0 | exact all_ald hA0 hNl | exact hAG | exact all_al hAG hltG | ((repeat (refine all_far ?_ (by assumption))); first | exact hA0 | exact all_ald hA0 hNl | exact hAG | exact all_al hAG hltG | assumption))) (first | (go_at_call 112; refine (cond_rdr (n := n) hl1 hl2 hl3 (by omega) hTd.rd hTd.na).mono ?_; rintro e w' ⟨hfp, hm3⟩; rw [hc] at hm3; obtain ⟨y, z, rfl, hNy, hNz, hR3⟩ := hm3; obtain ⟨ty, vy, rfl⟩ := hNy.form; obtain ⟨tz, vz, rfl⟩ := hNz.form; have hAG : ∀ i, w'.cell? ⟨N, i, none⟩ = (#[Value.int .i64 p.b, .int .i64 p.g, .int .i64 p.l, .int .i64 p.c] : Array Value)[i]? := all_frb hA0 (by simp; omega) (by omega) hfp; have hszG := hfp.size; have hneG1 : w'.heap.size ≠ N := (by simp at hszG; omega); have hneG2 : N ≠ w'.heap.size := hneG1.symm; have hltG : N < w'.heap.size := (by simp at hszG; omega)) | (go_at_call 112; refine (cond_rdr (n := n) hl1 hl2 hl3 (by omega) (hTa _).rd (hTa _).na).mono ?_; rintro e w' ⟨hfp, hm3⟩; rw [hc] at hm3; obtain ⟨y, z, rfl, hNy, hNz, hR3⟩ := hm3; obtain ⟨ty, vy, rfl⟩ := hNy.form; obtain ⟨tz, vz, rfl⟩ := hNz.form; have hAG : ∀ i, w'.cell? ⟨N, i, none⟩ = (#[Value.int .i64 p.b, .int .i64 p.g, .int .i64 p.l, .int .i64 p.c] : Array Value)[i]? := all_frb (all_ald hA0 hNl) (by simp; omega) (by omega) hfp; have hfzG : ∀ i, w'.frozen? ⟨w2.heap.size, i, none⟩ = false := Blk.frees (Blk.fr (Blk.drew (Blk.new w2 (.cells #[.int .i64 0, .int .i64 0, .int .i64 0, .int .i64 0, .nilIface, .nilIface, .bool false, .slice none 0 0, .pointer none] 173 (0, 0)))) hfp (by omega)); have hclG : ∀ i, w'.cell? ⟨w2.heap.size, i, none⟩ = (#[Value.int .i64 0, .int .i64 0, .int .i64 0, .int .i64 0, .nilIface, .nilIface, .bool false, .slice none 0 0, .pointer none] : Array Value)[i]? := Blk.all (Blk.fr (Blk.drew (Blk.new w2 (.cells #[.int .i64 0, .int .i64 0, .int .i64 0, .int .i64 0, .nilIface, .nilIface, .bool false, .slice none 0 0, .pointer none] 173 (0, 0)))) hfp (by omega)); have hszG := hfp.size; have hneG1 : w'.heap.size ≠ N := (by simp at hszG; omega); have hneG2 : N ≠ w'.heap.size := hneG1.symm; have hltG : N < w'.heap.size := (by simp at hszG; omega)))
                    all_goals go_wp2_with fail
                    all_goals go_meet
                    · have hk := Fr.alloc (Fr.refl No w') (ifO p (.iface ty (.agg vy)) (.iface tz (.agg vz)) ceq (.slice none 0 0) (.pointer none))
                      exact ⟨w'.heap.size, _, _, rfl, by simp at hszG; omega, Blk.new w' (ifO p (.iface ty (.agg vy)) (.iface tz (.agg vz)) ceq (.slice none 0 0) (.pointer none)), hNy.keep hk (fun _ _ x => x), hNz.keep hk (fun _ _ x => x), (hTd.rdr hfp hR3 (by omega)).no hk, (hF2.drew.s2 hfp.up).callNo hk⟩
                    · have hBz := Blk.fr (Blk.drew (Blk.new w2 (.cells #[.int .i64 0, .int .i64 0, .int .i64 0, .int .i64 0, .nilIface, .nilIface, .bool false, .slice none 0 0, .pointer none] 173 (0, 0)))) hfp (by omega)
                      have hB9 := set9 hBz (.int .i64 p.b) (.int .i64 p.g) (.int .i64 p.l) (.int .i64 p.c) (.iface ty (.agg vy)) (.iface tz (.agg vz)) (.bool ceq) (.slice none 0 0) (.pointer none)
                      have hfk := fr9 (Fr.refl (· = w2.heap.size) w') (fun _ _ => rfl) (.int .i64 p.b) (.int .i64 p.g) (.int .i64 p.l) (.int .i64 p.c) (.iface ty (.agg vy)) (.iface tz (.agg vz)) (.bool ceq) (.slice none 0 0) (.pointer none)
                      have hfW := fr9 (((Fr.refl (S2 b m) w2).alloc (.cells #[.int .i64 0, .int .i64 0, .int .i64 0, .int .i64 0, .nilIface, .nilIface, .bool false, .slice none 0 0, .pointer none] 173 (0, 0))).drew.s2 hfp.up) (N := w2.heap.size) (fun i h => absurd h (Nat.lt_irrefl _)) (.int .i64 p.b) (.int .i64 p.g) (.int .i64 p.l) (.int .i64 p.c) (.iface ty (.agg vy)) (.iface tz (.agg vz)) (.bool ceq) (.slice none 0 0) (.pointer none)
                      have hM3 := hT.ma.keep (((Fr.refl (· = b) w2).alloc (.cells #[.int .i64 0, .int .i64 0, .int .i64 0, .int .i64 0, .nilIface, .nilIface, .bool false, .slice none 0 0, .pointer none] 173 (0, 0))).drew.call hfp (fun _ _ x => x)) (by omega)
                      have hm2 := hT.ma.lt
                      exact ⟨w2.heap.size, _, _, rfl, Nat.le_refl _, hB9, (hNy.apart hBz (by decide) hfk).mono (by simp), (hNz.apart hBz (by decide) hfk).mono (by simp), ⟨hT.rd.farS hR3 hfk (fun k e => by omega), hT.na.map hT.ma hfW, hM3.keep hfk (by omega), hmb, hl1, hl2, hl3, by have := hT.l4; omega⟩, hF2.s2 hfW⟩
                  case rest =>
                    obtain ⟨G, y, z, rfl, hGw, hBG, hNy, hNz, hT3, hF3⟩ := hcut
                    obtain ⟨ty, vy, rfl⟩ := hNy.form
                    obtain ⟨tz, vz, rfl⟩ := hNz.form
                    have RG := Blk.all hBG
                    have ZG := Blk.frees hBG
                    go_wp2_with fail
                    refine ((ih n (Nat.le_refl _)).bl _ b m lv nv o toks r3 nm mk hT3 (by omega)).mono ?_
                    rintro e w5 ⟨hf5, hm5⟩
                    have hF5 := hF3.s2 hf5
                    have hwG : w.heap.size ≤ G := Nat.le_trans hF2.size hGw
                    have hfar : ∀ k, w2.heap.size ≤ k → ¬ S2 b m k := by intro k hk; have := hT.ma.lt; unfold S2; omega
                    cases hbk : blockS n nm mk o r3 with
                    | error ep =>
                      rw [hbk] at hm5 hres
                      obtain ⟨c, q⟩ := ep
                      simp only [Threw] at hm5
                      subst hm5 hres
                      go_wp2_with fail
                      exact ⟨rfl, hF5, rfl⟩
                    | ok x =>
                      rw [hbk] at hm5 hres
                      obtain ⟨l, mk1, r4⟩ := x
                      obtain ⟨a, k, c, vs, rfl, ho5, hs5, hR5, hM5⟩ := hm5
                      have q5 := (st_len nm n).bl hlc.1 hbk
                      have hB5 := hBG.fr hf5 (hfar G hGw)
                      have hGc := hBG.lt
                      have hNy5 := hNy.keep hf5 hfar
                      have hNz5 := hNz.keep hf5 hfar
                      simp only at hres
                      clear RG ZG hBG hNy hNz hF3
                      have RG := Blk.all hB5
                      have ZG := Blk.frees hB5
                      go_upto_region 26 with (fail)
                      have hfk := (Fr.refl (· = G) w5).setCell (a := ⟨G, 7, none⟩) (.slice a k c) (fun _ => rfl)
                      have hB6 : Blk _ G (ifO p (.iface ty (.agg vy)) (.iface tz (.agg vz)) ceq (.slice a k c) (.pointer none)) := hB5.setOff 7 (.slice a k c)
                      have hF6 := hF5.setCell (a := ⟨G, 7, none⟩) (.slice a k c) (fun h => absurd h (Nat.not_lt.2 hwG))
                      have hT6 : StIn _ b m lv nv o toks r4 nm mk1 := ⟨H.out.rd.farS hR5 hfk (fun k e => by omega), H.out.na.map H.out.ma hF6, hM5.keep hfk (by have := hT.ma.lt; omega), hmb, hl1, hl2, hl3, by have := hT.l4; omega⟩
                      have ho6 := own_fr ho5 hfk (fun j hj e => by have := (ho5.lt j hj).1; omega)
                      have hs6 := SmsAre.keep hfk (fun j hj e => by omega) _ _ hs5
                      have hNy6 := hNy5.apart hB5 (by decide) hfk
                      have hNz6 := hNz5.apart hB5 (by decide) hfk
                      generalize w5.setCell ⟨G, 7, none⟩ (.slice a k c) = w6 at *
                      clear hB5 hF5 hR5 hM5 ho5 hs5 hNy5 hNz5 hfk RG ZG hf5 hT3
                      go_wp2_with fail
                      refine (here_rdr hT6.rd).mono ?_
                      rintro e w7 ⟨rfl, hR7, hf7⟩
                      obtain ⟨pe, hpe⟩ : ∃ pe, (hereT r4).at_ = pe := ⟨_, rfl⟩
                      rw [hpe] at hres
                      have hcA := hf7.alloc (.cells #[.int .i64 pe.b, .int .i64 pe.g, .int .i64 pe.l, .int .i64 pe.c] 26 (0, 0))
                      have hT7 := hT6.no hcA
                      have hB7 := hB6.fr hcA (fun x => x)
                      have hA7 := Blk.new w7 (.cells #[.int .i64 pe.b, .int .i64 pe.g, .int .i64 pe.l, .int .i64 pe.c] 26 (0, 0))
                      have hF7 := hF6.callNo hcA
                      have ho7 := own_fr ho6 hcA (fun _ _ x => x)
                      have hs7 := SmsAre.keep hcA (fun _ _ x => x) _ _ hs6
                      have hNy7 := hNy6.keep hcA (fun _ _ x => x)
                      have hNz7 := hNz6.keep hcA (fun _ _ x => x)
                      have hGA : G ≠ w7.heap.size := by have := hB6.lt; have := hf7.size; omega
                      have hG7 : G < w7.heap.size := by have := hB6.lt; have := hf7.size; omega
                      have hw7 := hf7.size
                      have hwc := hf7.size
                      simp only [tokC]
                      rw [hpe]
                      have hbA := hT6.bl
                      clear hR7 hB6 hT6 ho6 hs6 hNy6 hNz6 hF6
                      go_wp2_with fail
                      refine (is_rdr (by omega) else_ hT7.rd).mono ?_
                      rintro e w8 ⟨rfl, hR8, hf8⟩
                      have hF8 := hF7.s2 hf8.up
                      have hfar8 : ∀ j, w2.heap.size ≤ j → ¬ j = b := by omega
                      have hB8 := hB7.fr hf8 (hfar8 G hGw)
                      have hA8 := hA7.fr hf8 (by omega)
                      have hs8 := SmsAre.keep hf8 (fun j hj => by omega) _ _ hs7
                      have ho8 := own_fr ho7 hf8 (fun j hj => by have := (ho7.lt j hj).1; omega)
                      have hNy8 := hNy7.fr hb2 hf8
                      have hNz8 := hNz7.fr hb2 hf8
                      clear hB7 hA7 hs7 ho7 hNy7 hNz7 hF7
                      cases hel : isT else_ r4 with
                      | false =>
                        rw [if_neg (by simp [hel])] at hres
                        rw [hel] at hR8
                        simp only [Bool.false_eq_true, if_false] at hR8
                        have hM8 := hT7.ma.keep hf8 (by omega)
                        subst hres
                        have RG := Blk.all hB8
                        go_wp2_with fail
                        go_ret2
                        exact ⟨hF8, _, rfl, by simp only [SmIs, ElsIs]; exact ⟨_, _, a, k, c, vs, _, hNy8.mono hF2.size, hNz8.mono hF2.size, own_mono ho8 (by have := hF2.size; omega), SmsAre.mono (by have := hF2.size; omega) _ _ hs8, rfl, rfl⟩, hR8, hM8⟩
                      | true =>
                        rw [if_pos hel] at hres
                        rw [hel] at hR8
                        simp only [if_true] at hR8
                        have hl8 := isT_lt hT7.rd.good hel
                        have hT8 := hT7.rdr hf8 hR8 (by omega)
                        have hT8d := hT8.no ((Fr.refl No w8).drew)
                        have hA8d := hA8.drew
                        have hB8d := hB8.drew
                        have hF8d := hF8.drew
                        have RA := Blk.all hA8d
                        have hGl := hB8.lt
                        have hAw : w2.heap.size ≤ w7.heap.size := by omega
                        have hw78 : w7.heap.size < w8.heap.size := hA8.lt
                        obtain ⟨A, hAe⟩ : ∃ A, w7.heap.size = A := ⟨_, rfl⟩
                        rw [hAe] at hA8d RA hAw hw78 hGA ⊢
                        generalize hrr : passT r4 = r5 at *
                        go_wp2_with fail
                        cases hbe : blockS n nm mk1 o r5 with
                        | error ep =>
                          rw [hbe] at hres
                          obtain ⟨c', q⟩ := ep
                          simp only at hres
                          subst hres
                          go_region_dies
                          all_goals refine ((ih n (Nat.le_refl _)).bl _ b m lv nv o toks r5 nm mk1 hT8d (by omega)).mono ?_
                          all_goals rintro e w9 ⟨hf9, hm9⟩
                          all_goals rw [hbe] at hm9
                          all_goals simp only [Threw] at hm9
                          all_goals subst hm9
                          all_goals go_wp2_with fail
                          all_goals exact ⟨rfl, hF8d.s2 hf9, rfl⟩
                        | ok x =>
                          rw [hbe] at hres
                          obtain ⟨l2, mk2, r6⟩ := x
                          simp only at hres
                          go_region_with (go_at_call 111; refine ((ih n (Nat.le_refl _)).bl _ b m lv nv o toks r5 nm mk1 hT8d (by omega)).mono ?_; rintro e w9 ⟨hf9, hm9⟩; rw [hbe] at hm9; obtain ⟨a2, k2, c2, vs2, rfl, ho9, hs9, hR9, hM9⟩ := hm9; have RA9 := Blk.all (hA8d.fr hf9 (hfar A hAw)); have RG9 := Blk.all (hB8d.fr hf9 (hfar G hGw)); have ZG9 := Blk.frees (hB8d.fr hf9 (hfar G hGw)); have hGl9 := (hB8d.fr hf9 (hfar G hGw)).lt; have hAl9 := (hA8d.fr hf9 (hfar A hAw)).lt)
                          all_goals go_wp2_with fail
                          all_goals go_ret2
                          all_goals subst hres
                          all_goals have hfk := (Fr.refl (· = G) w9).setCell (a := ⟨G, 8, none⟩) (.pointer (some ⟨w9.heap.size, 0, none⟩)) (fun _ => rfl)
                          all_goals have hal := hfk.alloc (.cells #[.int .i64 pe.b, .int .i64 pe.g, .int .i64 pe.l, .int .i64 pe.c, .slice a2 k2 c2] 165 (0, 0))
                          all_goals have hnew : Blk ((w9.setCell ⟨G, 8, none⟩ (.pointer (some ⟨w9.heap.size, 0, none⟩))).alloc (.cells #[.int .i64 pe.b, .int .i64 pe.g, .int .i64 pe.l, .int .i64 pe.c, .slice a2 k2 c2] 165 (0, 0))) w9.heap.size (.cells #[.int .i64 pe.b, .int .i64 pe.g, .int .i64 pe.l, .int .i64 pe.c, .slice a2 k2 c2] 165 (0, 0)) := (by have h := Blk.new (w9.setCell ⟨G, 8, none⟩ (.pointer (some ⟨w9.heap.size, 0, none⟩))) (.cells #[.int .i64 pe.b, .int .i64 pe.g, .int .i64 pe.l, .int .i64 pe.c, .slice a2 k2 c2] 165 (0, 0)); rwa [show (w9.setCell ⟨G, 8, none⟩ (.pointer (some ⟨w9.heap.size, 0, none⟩))).heap.size = w9.heap.size by simp [World.setCell]] at h)
                          all_goals have hB9 := hB8d.fr hf9 (hfar G hGw)
                          all_goals have hw2 := hF2.size
                          all_goals have hw9 := hf9.size
                          all_goals have hFf := ((hF8d.s2 hf9).setCell (a := ⟨G, 8, none⟩) (.pointer (some ⟨w9.heap.size, 0, none⟩)) (fun h => absurd h (Nat.not_lt.2 hwG))).alloc (.cells #[.int .i64 pe.b, .int .i64 pe.g, .int .i64 pe.l, .int .i64 pe.c, .slice a2 k2 c2] 165 (0, 0))
                          all_goals have hY9 := ((hNy8.keep ((Fr.refl No w8).drew) (fun _ _ x => x)).keep hf9 hfar).apart hB9 (by decide) hal
                          all_goals have hZ9 := ((hNz8.keep ((Fr.refl No w8).drew) (fun _ _ x => x)).keep hf9 hfar).apart hB9 (by decide) hal
                          all_goals have hs9t := SmsAre.keep hf9 (fun j hj => hfar j (by omega)) _ _ (SmsAre.keep ((Fr.refl No w8).drew) (fun _ _ x => x) _ _ hs8)
                          all_goals have ho9t := own_fr (own_fr ho8 ((Fr.refl No w8).drew) (fun _ _ x => x)) hf9 (fun j hj => hfar j (by have := (ho8.lt j hj).1; omega))
                          all_goals exact ⟨hFf, _, rfl, by simp only [SmIs, ElsIs]; exact ⟨_, _, a, k, c, vs, _, hY9.mono hF2.size, hZ9.mono hF2.size, own_mono (own_fr ho9t hal (fun j hj e => by have := (ho9t.lt j hj).1; omega)) (by omega), SmsAre.mono (by omega) _ _ (SmsAre.keep hal (fun j hj e => by omega) _ _ hs9t), ⟨w9.heap.size, a2, k2, c2, vs2, rfl, by simp at hw9; omega, hnew, own_mono (own_fr ho9 hal (fun j hj e => by have := (ho9.lt j hj).1; simp at this; omega)) (by simp; omega), SmsAre.mono (by simp; omega) _ _ (SmsAre.keep hal (fun j hj e => by simp at hj; omega) _ _ hs9)⟩, rfl⟩, H.out.rd.farS hR9 hal (fun k e => by omega), hM9.keep hal (by have := hT.ma.lt; omega)⟩
              | false =>
                rw [if_neg (by simp [hif])] at hres
                rw [hif] at hR2
                simp only [Bool.false_eq_true, if_false] at hR2
                have hS := hS.rdr hf2 hR2 (Nat.le_refl _)
                have hB := hB2
                have hF := hF2
                clear hB2 hF2 hf2 hR2
                go_wp2_with fail
                refine (is_rdr (by omega) while_ hS.rd).mono ?_
                rintro e w2 ⟨rfl, hR2, hf2⟩
                have hB2 := hB.fr hf2 (by omega)
                have hF2 := hF.s2 hf2.up
                cases hwhile : isT while_ r with
                | true =>
                  rw [if_pos hwhile] at hres
                  rw [hwhile] at hR2
                  simp only [if_true] at hR2
                  have hlt := isT_lt hg hwhile
                  have hT := hS.rdr hf2 hR2 (by omega)
                  have hgT := hT.rd.good
                  generalize hrq : passT r = r2 at *
                  clear hS hB hF hR2
                  go_wp2_with fail
                  refine (cond_rdr (n := n) hl1 hl2 hl3 (by omega) hT.rd hT.na).mono ?_
                  rintro e w3 ⟨hf3, hm3⟩
                  have hF3 := hF2.s2 hf3.up
                  have hB3 := hB2.fr hf3 (by omega)
                  cases hc : condS n nm o r2 with
                  | error ep =>
                    rw [hc] at hm3 hres
                    obtain ⟨c, q⟩ := ep
                    simp only [Threw] at hm3
                    subst hm3 hres
                    go_wp2_with fail
                    exact ⟨rfl, hF3, rfl⟩
                  | ok x =>
                    rw [hc] at hm3 hres
                    obtain ⟨⟨cl, cr, ceq⟩, r3⟩ := x
                    obtain ⟨y, z, rfl, hNy, hNz, hR3⟩ := hm3
                    obtain ⟨ty, vy, rfl⟩ := hNy.form
                    obtain ⟨tz, vz, rfl⟩ := hNz.form
                    have hlc := cond_len hgT hc
                    have hT3 := hT.rdr hf3 hR3 (by omega)
                    simp only at hres
                    go_wp2_with fail
                    have hcA := Fr.alloc (Fr.refl No w3) (.cells #[.iface ty (.agg vy), .iface tz (.agg vz), .bool ceq] 168 (0, 0))
                    obtain ⟨W4, C, hE, hC, hT4, hB4, hC4, hF4, hY4, hZ4⟩ : ∃ W4 C, w3.alloc (.cells #[.iface ty (.agg vy), .iface tz (.agg vz), .bool ceq] 168 (0, 0)) = W4 ∧ w3.heap.size = C ∧ StIn W4.drew b m lv nv o toks r3 nm mk ∧ Blk W4.drew N (plO' p) ∧ Blk W4.drew C (.cells #[.iface ty (.agg vy), .iface tz (.agg vz), .bool ceq] 168 (0, 0)) ∧ Fr (S2 b m) w W4.drew ∧ NdIs W4.drew w2.heap.size cl (.iface ty (.agg vy)) ∧ NdIs W4.drew w2.heap.size cr (.iface tz (.agg vz)) := ⟨_, _, rfl, rfl, hT3.no hcA.drew, (hB3.alloc _).drew, (Blk.new w3 _).drew, (hF3.alloc _).drew, hNy.keep hcA.drew (fun _ _ x => x), hNz.keep hcA.drew (fun _ _ x => x)⟩
                    rw [hE, hC]
                    have hNC : w2.heap.size ≤ C := by have := hf3.size; omega
                    have hb2 := hT.bl
                    have hm2 := hT.ma.lt
                    have hfar : ∀ k, w2.heap.size ≤ k → ¬ S2 b m k := by intro k hk; unfold S2; omega
                    have RN := Blk.all hB4
                    have RC := Blk.all hC4
                    clear hE hC hcA hT3 hB3 hF3 hNy hNz hR3 hB2 hT
                    cases hbk : blockS n nm mk o r3 with
                    | error ep =>
                      rw [hbk] at hres
                      obtain ⟨c, q⟩ := ep
                      simp only at hres
                      subst hres
                      go_region_dies
                      all_goals refine ((ih n (Nat.le_refl _)).bl _ b m lv nv o toks r3 nm mk hT4 (by omega)).mono ?_
                      all_goals rintro e w5 ⟨hf5, hm5⟩
                      all_goals rw [hbk] at hm5
                      all_goals simp only [Threw] at hm5
                      all_goals subst hm5
                      all_goals go_wp2_with fail
                      all_goals exact ⟨rfl, hF4.s2 hf5, rfl⟩
                    | ok x =>
                      rw [hbk] at hres
                      obtain ⟨l, mk1, r4⟩ := x
                      simp only at hres
                      go_region_with (go_at_call 111; refine ((ih n (Nat.le_refl _)).bl _ b m lv nv o toks r3 nm mk hT4 (by omega)).mono ?_; rintro e w5 ⟨hf5, hm5⟩; rw [hbk] at hm5; obtain ⟨a, k, c, vs, rfl, ho5, hs5, hR5, hM5⟩ := hm5; have RN5 := Blk.all (hB4.fr hf5 (by unfold S2; omega)); have RC5 := Blk.all (hC4.fr hf5 (hfar C hNC)))
                      all_goals go_wp2_with fail
                      all_goals go_ret2
                      all_goals subst hres
                      all_goals exact ⟨hF4.s2 hf5, _, rfl, by simp only [SmIs]; exact ⟨_, _, a, k, c, vs, (hY4.keep hf5 hfar).mono hF2.size, (hZ4.keep hf5 hfar).mono hF2.size, own_mono ho5 hF4.size, SmsAre.mono hF4.size _ _ hs5, rfl⟩, hR5, hM5⟩
                | false =>
                  rw [if_neg (by simp [hwhile])] at hres
                  rw [hwhile] at hR2
                  simp only [Bool.false_eq_true, if_false] at hR2
                  have hS := hS.rdr hf2 hR2 (Nat.le_refl _)
                  have hB := hB2
                  have hF := hF2
                  clear hB2 hF2 hf2 hR2
                  go_wp2_with fail
                  go_ret2
                  subst hres
                  exact ⟨hF, rfl, hS.rd, hS.ma⟩
end Go.Proofs.YtlklijpjacmgpaaGreatDoor
