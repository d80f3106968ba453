/- assign. -/
import Derived.Test.YtjmjdmmojgmcdaaDoorLI
import Derived.Deep.DeepCutAuto
import Derived.Deep.CutBlock
import Derived.Deep.Cut
namespace Go.Proofs.YtjmjdmmojgmcdaaDoor
open Go.RowKit
set_option linter.unusedVariables false
set_option linter.unusedSimpArgs false
attribute [local go_sem ↓] Go.wp_at_zero Go.wp_at_succ

theorem all_fr {w w' : World} {N : Nat} {cs : Array Value} (h : ∀ i, w.cell? ⟨N, i, none⟩ = cs[i]?) (hlt : N < w.heap.size) (f : Fr No w w') : ∀ i, w'.cell? ⟨N, i, none⟩ = cs[i]? := fun i => by
  rw [← h i]; exact World.cell?_of_block (f.block N hlt (fun x => x))
theorem all_al {w : World} {N : Nat} {cs : Array Value} {o : Obj} (h : ∀ i, w.cell? ⟨N, i, none⟩ = cs[i]?) (hlt : N < w.heap.size) : ∀ i, (w.alloc o).cell? ⟨N, i, none⟩ = cs[i]? :=
  all_fr h hlt ((Fr.refl No w).alloc o)
theorem all_ald {w : World} {N : Nat} {cs : Array Value} {o : Obj} (h : ∀ i, w.drew.cell? ⟨N, i, none⟩ = cs[i]?) (hlt : N < w.heap.size) : ∀ i, (w.alloc o).drew.cell? ⟨N, i, none⟩ = cs[i]? :=
  all_fr (w := w.drew) h hlt ((Fr.refl No w.drew).alloc o)
theorem all_far {w : World} {G N j : Nat} {v : Value} {cs : Array Value} (h : ∀ i, w.cell? ⟨N, i, none⟩ = cs[i]?) (hne : N ≠ G) : ∀ i, (w.setCell ⟨G, j, none⟩ v).cell? ⟨N, i, none⟩ = cs[i]? := fun i => by
  rw [← h i]; exact World.cell?_of_block (Below.heap_setCell _ _ _ _ hne)
theorem set7 {w : World} {N : Nat} {t : TypeId} {a0 a1 a2 a3 a4 a5 a6 : Value} (h : Blk w N (.cells #[a0, a1, a2, a3, a4, a5, a6] t (0, 0))) (v0 v1 v2 v3 v4 v5 v6 : Value) :
    Blk (((((((w.setCell ⟨N, 0, none⟩ v0).setCell ⟨N, 1, none⟩ v1).setCell ⟨N, 2, none⟩ v2).setCell ⟨N, 3, none⟩ v3).setCell ⟨N, 4, none⟩ v4).setCell ⟨N, 5, none⟩ v5).setCell ⟨N, 6, none⟩ v6) N (.cells #[v0, v1, v2, v3, v4, v5, v6] t (0, 0)) := by
  have h1 : Blk _ N (.cells #[v0, a1, a2, a3, a4, a5, a6] t (0, 0)) := h.setOff 0 v0
  have h2 : Blk _ N (.cells #[v0, v1, a2, a3, a4, a5, a6] t (0, 0)) := h1.setOff 1 v1
  have h3 : Blk _ N (.cells #[v0, v1, v2, a3, a4, a5, a6] t (0, 0)) := h2.setOff 2 v2
  have h4 : Blk _ N (.cells #[v0, v1, v2, v3, a4, a5, a6] t (0, 0)) := h3.setOff 3 v3
  have h5 : Blk _ N (.cells #[v0, v1, v2, v3, v4, a5, a6] t (0, 0)) := h4.setOff 4 v4
  have h6 : Blk _ N (.cells #[v0, v1, v2, v3, v4, v5, a6] t (0, 0)) := h5.setOff 5 v5
  have h7 : Blk _ N (.cells #[v0, v1, v2, v3, v4, v5, v6] t (0, 0)) := h6.setOff 6 v6
  exact h7
theorem fr7 {S : Nat → Prop} {w0 w : World} {N : Nat} (h : Fr S w0 w) (hN : w0.heap.size ≤ N) (v0 v1 v2 v3 v4 v5 v6 : Value) : Fr S w0 (((((((w.setCell ⟨N, 0, none⟩ v0).setCell ⟨N, 1, none⟩ v1).setCell ⟨N, 2, none⟩ v2).setCell ⟨N, 3, none⟩ v3).setCell ⟨N, 4, none⟩ v4).setCell ⟨N, 5, none⟩ v5).setCell ⟨N, 6, none⟩ v6) := by
  have h0 : ∀ i, (⟨N, i, none⟩ : Addr).block < w0.heap.size → S (⟨N, i, none⟩ : Addr).block := fun i h => absurd h (Nat.not_lt.2 hN)
  exact ((((((h.setCell v0 (h0 0)).setCell v1 (h0 1)).setCell v2 (h0 2)).setCell v3 (h0 3)).setCell v4 (h0 4)).setCell v5 (h0 5)).setCell v6 (h0 6)
/-- a head in memory -/
def plO' (p : Pl) : Obj := .cells #[.int .i64 p.b, .int .i64 p.g, .int .i64 p.l, .int .i64 p.c] 126 (0, 0)
/-- an assignment in memory -/
def stO (p : Pl) (v : Int) (x : List UInt8) (y : Value) : Obj := .cells #[.int .i64 p.b, .int .i64 p.g, .int .i64 p.l, .int .i64 p.c, .int .i64 v, .string ⟨x.toArray⟩, y] 154 (0, 0)

set_option maxRecDepth 100000 in
set_option maxHeartbeats 4000000 in
theorem assign_rdr {w : World} {b : Nat} {lv nv mv : Value} {o : Nat} {toks r : List Tok} {nm : List (List UInt8)} {n : Nat} (hl : toks.length ≤ 5000) (hnl : nm.length ≤ 1000) (ho : o ≤ 16) (hm : 4 * r.length + 3 ≤ n) (h : Rdr w b lv nv mv o toks r) (hn : NmAt w b nv nm) :
    Calls Tryd.prog 76 #[.pointer (some ⟨b, 0, none⟩), plV (hereT r).at_] w fun e w' => Fr (· = b) w w' ∧ match assignS n nm o r with
      | .error (c, p) => Threw c p e
      | .ok (s, r1) => ∃ v, e = .returned v ∧ SmIs w' w.heap.size s v ∧ Rdr w' b lv nv mv o toks r1 := by
  have hg := h.good
  obtain ⟨res, hres⟩ : ∃ res, assignS n nm o r = res := ⟨_, rfl⟩
  rw [hres]
  simp only [assignS] at hres
  obtain ⟨K, hK⟩ : ∃ K, (hereT r).kind = K := ⟨_, rfl⟩
  obtain ⟨T, hT⟩ : ∃ T, (hereT r).text = T := ⟨_, rfl⟩
  obtain ⟨p, hp⟩ : ∃ p, (hereT r).at_ = p := ⟨_, rfl⟩
  rw [hT, hp] at hres
  rw [hp]
  go_enter Tryd.func76, Tryd.ntmps76
  go_upto_region 1 with (fail)
  have hbl : b < w.heap.size := by obtain ⟨_, _, _, hb, _⟩ := h; exact hb.lt
  obtain ⟨W0, N0, hE, hN0, hB0, h0, hn0, hf0, hlt0⟩ : ∃ W0 N0, w.alloc (.cells #[.int .i64 p.b, .int .i64 p.g, .int .i64 p.l, .int .i64 p.c] 126) = W0 ∧ w.heap.size = N0 ∧ Blk W0 N0 (plO' p) ∧ Rdr W0 b lv nv mv o toks r ∧ NmAt W0 b nv nm ∧ Fr (· = b) w W0 ∧ N0 < W0.heap.size := ⟨_, _, rfl, rfl, Blk.new w (plO' p), h.no ((Fr.refl No w).alloc _), hn.no ((Fr.refl No w).alloc _), (Fr.refl _ w).alloc _, by simp⟩
  rw [hE, hN0]
  rw [hN0] at hbl
  have H := Lib.hid (And.intro h hn)
  clear h hn hE
  go_cut [5] (fun s5 wx => ∃ G, s5 = .pointer (some ⟨G, 0, none⟩) ∧ N0 ≤ G ∧ Blk wx G (stO p 0 T .nilIface) ∧ Rdr wx b lv nv mv o toks r ∧ NmAt wx b nv nm ∧ Fr (· = b) w wx)
  case first =>
    have hA0 : ∀ i, W0.drew.cell? ⟨N0, i, none⟩ = (#[Value.int .i64 p.b, .int .i64 p.g, .int .i64 p.l, .int .i64 p.c] : Array Value)[i]? := Blk.all hB0.drew
    have hA : Rdr W0.drew b lv nv mv o toks r := h0.no ((Fr.refl No W0).drew)
    have hB : ∀ ob, Rdr (W0.alloc ob).drew b lv nv mv o toks r := fun ob => h0.no (((Fr.refl No W0).alloc ob).drew)
    have hft := fld_text
    have hne1 : W0.heap.size ≠ N0 := by omega
    have hne2 : N0 ≠ W0.heap.size := by omega
    have HH := Lib.hid (And.intro h0 (And.intro hn0 hf0))
    clear hB0 h0 hn0 hf0
    go_region_held3 (fun w' => ∀ i, w'.cell? ⟨N0, i, none⟩ = (#[Value.int .i64 p.b, .int .i64 p.g, .int .i64 p.l, .int .i64 p.c] : Array Value)[i]?) (with_reducible (first | exact hA0 | exact all_ald hA0 hlt0 | exact hAG | exact all_al hAG hltG | ((repeat (refine all_far ?_ (by assumption))); first | exact hA0 | exact all_ald hA0 hlt0 | exact hAG | exact all_al hAG hltG | assumption))) (first | (go_at_call 22; refine (here_rdr hA).mono ?_; rintro e w' ⟨rfl, hR', hfp⟩; have hAG : ∀ i, w'.cell? ⟨N0, i, none⟩ = (#[Value.int .i64 p.b, .int .i64 p.g, .int .i64 p.l, .int .i64 p.c] : Array Value)[i]? := all_fr hA0 (by simp; omega) hfp; have hszG := hfp.size; have hneG1 : w'.heap.size ≠ N0 := (by simp at hszG; omega); have hneG2 : N0 ≠ w'.heap.size := hneG1.symm; have hltG : N0 < w'.heap.size := (by simp at hszG; omega); simp only [tokC]; rw [hT]) | (go_at_call 22; refine (here_rdr (hB _)).mono ?_; rintro e w' ⟨rfl, hR', hfp⟩; have hAG : ∀ i, w'.cell? ⟨N0, i, none⟩ = (#[Value.int .i64 p.b, .int .i64 p.g, .int .i64 p.l, .int .i64 p.c] : Array Value)[i]? := all_fr (all_ald hA0 hlt0) (by simp; omega) hfp; have hfzG : ∀ i, w'.frozen? ⟨W0.heap.size, i, none⟩ = false := Blk.frees (Blk.fr (Blk.drew (Blk.new W0 (.cells #[.int .i64 0, .int .i64 0, .int .i64 0, .int .i64 0, .int .i64 0, .string ⟨#[]⟩, .nilIface] 154 (0, 0)))) hfp (fun x => x)); have hclG : ∀ i, w'.cell? ⟨W0.heap.size, i, none⟩ = (#[Value.int .i64 0, .int .i64 0, .int .i64 0, .int .i64 0, .int .i64 0, .string ⟨#[]⟩, .nilIface] : Array Value)[i]? := Blk.all (Blk.fr (Blk.drew (Blk.new W0 (.cells #[.int .i64 0, .int .i64 0, .int .i64 0, .int .i64 0, .int .i64 0, .string ⟨#[]⟩, .nilIface] 154 (0, 0)))) hfp (fun x => x)); have hszG := hfp.size; have hneG1 : w'.heap.size ≠ N0 := (by simp at hszG; omega); have hneG2 : N0 ≠ w'.heap.size := hneG1.symm; have hltG : N0 < w'.heap.size := (by simp at hszG; omega); simp only [tokC]; rw [hT]))
    all_goals go_wp2_with fail
    all_goals go_meet
    · have hN := ((Fr.refl No W0).drew.callNo hfp).alloc (stO p 0 T .nilIface)
      exact ⟨w'.heap.size, rfl, by omega, Blk.new w' (stO p 0 T .nilIface), HH.out.1.no hN, HH.out.2.1.no hN, HH.out.2.2.callNo hN⟩
    · have hN := fr7 (((Fr.refl No W0).alloc _).drew.callNo hfp) (Nat.le_refl W0.heap.size) (.int .i64 p.b) (.int .i64 p.g) (.int .i64 p.l) (.int .i64 p.c) (.int .i64 0) (.string ⟨T.toArray⟩) .nilIface
      have hB7 := set7 (Blk.fr (Blk.drew (Blk.new W0 (.cells #[.int .i64 0, .int .i64 0, .int .i64 0, .int .i64 0, .int .i64 0, .string ⟨#[]⟩, .nilIface] 154 (0, 0)))) hfp (fun x => x)) (.int .i64 p.b) (.int .i64 p.g) (.int .i64 p.l) (.int .i64 p.c) (.int .i64 0) (.string ⟨T.toArray⟩) .nilIface
      exact ⟨W0.heap.size, rfl, by omega, hB7, HH.out.1.no hN, HH.out.2.1.no hN, HH.out.2.2.callNo hN⟩
  case rest =>
    obtain ⟨G, rfl, hNG, hBG, hR, hn, hf⟩ := hcut
    clear h0 hn0 hf0 hB0 hlt0
    have RG := Blk.all hBG
    have ZG := Blk.frees hBG
    obtain ⟨i, x, ha, hb, ht⟩ := hR
    go_wp2_with fail
    refine (variable_rdr (by omega) T hb hn).mono ?_
    rintro e w1 ⟨rfl, hf1⟩
    have hR1 : Rdr w1 b lv nv mv o toks r := ⟨i, x, ha, hb.fr hf1 (fun x => x), ht.no hf1⟩
    have hB1 := hBG.fr hf1 (fun x => x)
    have hf2 := hf.callNo hf1
    clear ha hb ht hBG hn hf hf1 RG ZG
    have hGw : w.heap.size ≤ G := by omega
    have hbG : b ≠ G := by omega
    have gg : ∀ i, (⟨G, i, none⟩ : Addr).block < w.heap.size → (⟨G, i, none⟩ : Addr).block = b := fun i h => absurd h (Nat.not_lt.2 hGw)
    have RG := Blk.all hB1
    have ZG := Blk.frees hB1
    obtain ⟨V, hV⟩ : ∃ V, varI nm T = V := ⟨_, rfl⟩
    rw [hV]
    go_wp2_with fail
    have hfG := (Fr.refl (· = G) w1).setCell (a := ⟨G, 4, none⟩) (.int .i64 V) (fun _ => rfl)
    have hR2 := H.out.1.far hR1 hGw hfG
    have hf3 := hf2.setCell (a := ⟨G, 4, none⟩) (.int .i64 V) (gg 4)
    have hB2 : Blk _ G (stO p V T .nilIface) := hB1.setOff 4 (.int .i64 V)
    generalize w1.setCell ⟨G, 4, none⟩ (.int .i64 V) = w2 at *
    clear RG ZG hB1 hf2 hfG hR1
    cases hv : varS nm T with
    | none =>
      rw [hv] at hres
      simp only at hres
      subst hres
      have e : V = -1 := by rw [← hV]; unfold varI; rw [hv]
      subst e
      rw [show decide ((0 : Int) ≤ -1) = false from rfl]
      refine (need_rdr hR2 81).mono ?_
      rintro e w3 ⟨ht, hf4⟩
      rw [hp] at ht
      simp only [Threw] at ht
      subst ht
      go_wp2_with fail
      exact ⟨rfl, hf3.callNo hf4, rfl⟩
    | some k =>
      rw [hv] at hres
      simp only at hres
      have e : V = (k : Int) := by rw [← hV]; unfold varI; rw [hv]
      subst e
      rw [show decide ((0 : Int) ≤ (k : Int)) = true by simp]
      refine (need_true b _ _).mono ?_
      rintro e w3 ⟨rfl, rfl⟩
      go_wp2_with fail
      refine (pass_rdr (by omega) hR2).mono ?_
      rintro e w3 ⟨rfl, hR3, hf4⟩
      have hf5 := hf3.call hf4 (fun _ _ x => x)
      have hB3 := hB2.fr hf4 (by omega)
      simp only [tokC]
      clear hR2 hf3 hB2 hf4
      have hg3 := hR3.good
      have hle3 := hg.pass_le
      generalize hrp : passT r = r3 at *
      go_wp2_with fail
      cases hm1 : isT [58, 61] r3 with
      | false =>
        have e : mustS [58, 61] r3 = .error (80, (hereT r3).at_) := by unfold mustS; rw [if_neg (by simp [hm1])]
        rw [e] at hres
        subst hres
        refine (must_no (by omega) [58, 61] hR3 hm1).mono ?_
        rintro e w4 ⟨ht, hf6⟩
        simp only [Threw] at ht
        subst ht
        go_wp2_with fail
        exact ⟨rfl, hf5.call hf6 (fun _ _ x => x), rfl⟩
      | true =>
        have e : mustS [58, 61] r3 = .ok (passT r3) := by unfold mustS; rw [if_pos hm1]
        rw [e] at hres
        simp only at hres
        refine (must_yes (by omega) [58, 61] hR3 hm1).mono ?_
        rintro e w4 ⟨rfl, hR4, hf6⟩
        have hf7 := hf5.call hf6 (fun _ _ x => x)
        have hB4 := hB3.fr hf6 (by omega)
        have hg4 := hg3.pass
        have hl4 := isT_lt hg3 hm1
        clear hR3 hf5 hB3 hf6
        generalize hrq : passT r3 = r4 at *
        go_wp2_with fail
        refine (is_rdr (by omega) any_ hR4).mono ?_
        rintro e w5 ⟨rfl, hR5, hf8⟩
        have hf9 := hf7.call hf8 (fun _ _ x => x)
        have hB5 := hB4.fr hf8 (by omega)
        clear hR4 hf7 hB4 hf8
        cases hany : isT any_ r4 with
        | true =>
          rw [if_pos hany] at hres
          rw [hany] at hR5
          simp only [if_true] at hR5
          have hg5 := hg4.pass
          generalize hrs : passT r4 = r5 at *
          go_wp2_with fail
          cases hsc : isT [59] r5 with
          | false =>
            have e : mustS [59] r5 = .error (80, (hereT r5).at_) := by unfold mustS; rw [if_neg (by simp [hsc])]
            rw [e] at hres
            subst hres
            refine (must_no (by omega) [59] hR5 hsc).mono ?_
            rintro e w6 ⟨ht, hfA⟩
            simp only [Threw] at ht
            subst ht
            go_wp2_with fail
            exact ⟨rfl, hf9.call hfA (fun _ _ x => x), rfl⟩
          | true =>
            have e : mustS [59] r5 = .ok (passT r5) := by unfold mustS; rw [if_pos hsc]
            rw [e] at hres
            subst hres
            refine (must_yes (by omega) [59] hR5 hsc).mono ?_
            rintro e w6 ⟨rfl, hR6, hfA⟩
            have hB6 := hB5.fr hfA (by omega)
            have RG := Blk.all hB6
            go_wp2_with fail
            go_ret
            exact ⟨hf9.call hfA (fun _ _ x => x), _, rfl, by simp only [SmIs]; rfl, hR6⟩
        | false =>
          rw [if_neg (by simp [hany])] at hres
          rw [hany] at hR5
          simp only [Bool.false_eq_true, if_false] at hR5
          go_wp2_with fail
          refine (sum_rdr (n := n) hl hnl ho (by omega) hR5 (H.out.2.no hf9)).mono ?_
          rintro e w6 ⟨hfA, hmA⟩
          have hfB := hf9.call hfA (fun _ _ x => x)
          have hB6 := hB5.fr hfA (by omega)
          cases hu : sumS n nm o r4 with
          | error ep =>
            rw [hu] at hmA hres
            obtain ⟨c, q⟩ := ep
            simp only [Threw] at hmA
            subst hmA hres
            go_wp2_with fail
            exact ⟨rfl, hfB, rfl⟩
          | ok ar =>
            rw [hu] at hmA hres
            obtain ⟨a5, r5⟩ := ar
            obtain ⟨v5, rfl, hN5', hR6⟩ := hmA
            have hN5 := hN5'.mono hf9.size
            obtain ⟨ty5, vc5, rfl⟩ := hN5.form
            clear hN5'
            simp only at hres
            have RG := Blk.all hB6
            have ZG := Blk.frees hB6
            clear hR5 hB5 hf9 hfA
            go_wp2_with fail
            have hfG := (Fr.refl (· = G) w6).setCell (a := ⟨G, 6, none⟩) (.iface ty5 (.agg vc5)) (fun _ => rfl)
            have hR7 := H.out.1.far hR6 hGw hfG
            have hfC := hfB.setCell (a := ⟨G, 6, none⟩) (.iface ty5 (.agg vc5)) (gg 6)
            have hN7 := hN5.apart hB6 (by decide) hfG
            have hB7 : Blk _ G (stO p k T (.iface ty5 (.agg vc5))) := hB6.setOff 6 (.iface ty5 (.agg vc5))
            generalize w6.setCell ⟨G, 6, none⟩ (.iface ty5 (.agg vc5)) = w7 at *
            clear RG ZG hB6 hR6 hfB hfG hN5
            cases hsc : isT [59] r5 with
            | false =>
              have e : mustS [59] r5 = .error (80, (hereT r5).at_) := by unfold mustS; rw [if_neg (by simp [hsc])]
              rw [e] at hres
              subst hres
              refine (must_no (by omega) [59] hR7 hsc).mono ?_
              rintro e w8 ⟨ht, hfA⟩
              simp only [Threw] at ht
              subst ht
              go_wp2_with fail
              exact ⟨rfl, hfC.call hfA (fun _ _ x => x), rfl⟩
            | true =>
              have e : mustS [59] r5 = .ok (passT r5) := by unfold mustS; rw [if_pos hsc]
              rw [e] at hres
              subst hres
              refine (must_yes (by omega) [59] hR7 hsc).mono ?_
              rintro e w8 ⟨rfl, hR8, hfA⟩
              have hB8 := hB7.fr hfA (by omega)
              have hN8 := hN7.fr (by omega) hfA
              have RG := Blk.all hB8
              go_wp2_with fail
              go_ret
              exact ⟨hfC.call hfA (fun _ _ x => x), _, rfl, by simp only [SmIs]; exact ⟨_, hN8.mono (by omega), rfl⟩, hR8⟩
end Go.Proofs.YtjmjdmmojgmcdaaDoor
