/- Expressions: unary, product, sum. -/
import Derived.Test.YtlklijpjacmgpaaGreatDoorLE
namespace Go.Proofs.YtlklijpjacmgpaaGreatDoor
open Go.RowKit
set_option linter.unusedVariables false
set_option linter.unusedSimpArgs false
set_option exponentiation.threshold 5000
attribute [local go_sem ↓] Go.wp_at_zero Go.wp_at_succ

/-- an expression's value -/
def NdIs (w : World) (B : Nat) : Nd → Value → Prop
  | .num n, v => ∃ a c, v = .iface 186 (.agg #[.bool false, .slice a (dig L32 n).length c]) ∧ w.ownsRow B 57 1 (.slice a (dig L32 n).length c) (dig L32 n).length (u32s (dig L32 n))
  | .name i x, v => v = .iface 188 (.agg #[.int .i64 i, .string ⟨x.toArray⟩])
  | .minus a, v => ∃ y, NdIs w B a y ∧ v = .iface 190 (.agg #[y])
  | .two op l r, v => ∃ y z, NdIs w B l y ∧ NdIs w B r z ∧ v = .iface 184 (.agg #[.int .u8 op, y, z])
theorem NdIs.fr {w w' : World} {b B : Nat} (hb : b < B) (f : Fr (· = b) w w') : ∀ {n : Nd} {v : Value}, NdIs w B n v → NdIs w' B n v
  | .num n, v, ⟨a, c, h1, h2⟩ => ⟨a, c, h1, own_fr h2 f (fun k hk e => by have := (h2.lt k hk).1; omega)⟩
  | .name i x, v, h => h
  | .minus a, v, ⟨y, h1, h2⟩ => ⟨y, NdIs.fr hb f h1, h2⟩
  | .two op l r, v, ⟨y, z, h1, h2, h3⟩ => ⟨y, z, NdIs.fr hb f h1, NdIs.fr hb f h2, h3⟩
theorem NdIs.mono {w : World} {B B' : Nat} (hb : B' ≤ B) : ∀ {n : Nd} {v : Value}, NdIs w B n v → NdIs w B' n v
  | .num n, v, ⟨a, c, h1, h2⟩ => ⟨a, c, h1, own_mono h2 hb⟩
  | .name i x, v, h => h
  | .minus a, v, ⟨y, h1, h2⟩ => ⟨y, NdIs.mono hb h1, h2⟩
  | .two op l r, v, ⟨y, z, h1, h2, h3⟩ => ⟨y, z, NdIs.mono hb h1, NdIs.mono hb h2, h3⟩
theorem Rdr.bl {w : World} {b : Nat} {lv nv mv : Value} {o : Nat} {toks r : List Tok} (h : Rdr w b lv nv mv o toks r) : b < w.heap.size := by
  obtain ⟨_, _, _, hb, _⟩ := h
  exact hb.lt

/-- what a reader of expressions does -/
def ExOut (w : World) (b : Nat) (lv nv mv : Value) (o : Nat) (toks : List Tok) (res : Except Er (Nd × List Tok)) (e : Ending) (w' : World) : Prop :=
  Fr (· = b) w w' ∧ match res with
    | .error (c, p) => Threw c p e
    | .ok (n, r1) => ∃ v, e = .returned v ∧ NdIs w' w.heap.size n v ∧ Rdr w' b lv nv mv o toks r1

theorem NdIs.form {w : World} {B : Nat} : ∀ {n : Nd} {v : Value}, NdIs w B n v → ∃ t x, v = .iface t (.agg x)
  | .num n, v, ⟨a, c, h1, h2⟩ => ⟨_, _, h1⟩
  | .name i x, v, h => ⟨_, _, h⟩
  | .minus a, v, ⟨y, h1, h2⟩ => ⟨_, _, h2⟩
  | .two op l r, v, ⟨y, z, h1, h2, h3⟩ => ⟨_, _, h3⟩
theorem ok_pair {α β : Type} {ε : Type} {x : Except ε (α × β)} {a : α} {b : β} (h : x = .ok (a, b)) : x = .ok (a, b) := h
theorem isT_lt {x : List UInt8} {r : List Tok} (g : Good r) (h : isT x r = true) : (passT r).length < r.length := g.pass_lt (isT_kind h)

/-- what is read is shorter -/
structure ExLen (n : Nat) (nm : List (List UInt8)) : Prop where
  un : ∀ {o r a r1}, Good r → unS n nm o r = .ok (a, r1) → Good r1 ∧ r1.length < r.length
  pr : ∀ {o r a r1}, Good r → prodS n nm o r = .ok (a, r1) → Good r1 ∧ r1.length < r.length
  pl : ∀ {o r a0 a r1}, Good r → prodL n nm o a0 r = .ok (a, r1) → Good r1 ∧ r1.length ≤ r.length
  su : ∀ {o r a r1}, Good r → sumS n nm o r = .ok (a, r1) → Good r1 ∧ r1.length < r.length
  sl : ∀ {o r a0 a r1}, Good r → sumL n nm o a0 r = .ok (a, r1) → Good r1 ∧ r1.length ≤ r.length
theorem ex_len (nm : List (List UInt8)) : ∀ n, ExLen n nm
  | 0 => ⟨fun _ h => by simp [unS] at h, fun _ h => by simp [prodS] at h, fun _ h => by simp [prodL] at h, fun _ h => by simp [sumS] at h, fun _ h => by simp [sumL] at h⟩
  | n + 1 => by
    have ih := ex_len nm n
    refine ⟨?_, ?_, ?_, ?_, ?_⟩
    · intro o r a r1 g h
      simp only [unS] at h
      split at h
      · rename_i hm
        have hl := isT_lt g hm
        split at h
        · cases h
        · rename_i a' r' hu
          cases h
          have := ih.un g.pass hu
          exact ⟨this.1, by omega⟩
      · split at h
        · rename_i hk
          cases h
          exact ⟨g.pass, g.pass_lt (by omega)⟩
        · split at h
          · rename_i hn
            have hk : (hereT r).kind = 1 := by
              simp only [nameS, Bool.and_eq_true, decide_eq_true_eq] at hn
              exact hn.1
            split at h
            · cases h
            · cases h
              exact ⟨g.pass, g.pass_lt (by omega)⟩
          · split at h
            · cases h
            · rename_i hb
              have hk : (hereT r).kind = 3 := by
                by_cases e : (hereT r).kind = 3
                · exact e
                · exact absurd (fun h => e h.1) hb
              have hl := g.pass_lt (by omega)
              split at h
              · cases h
              · split at h
                · cases h
                · rename_i a' r' hs
                  have h2 := ih.su g.pass hs
                  split at h
                  · rename_i hc
                    cases h
                    have := h2.1.pass_le
                    exact ⟨h2.1.pass, by omega⟩
                  · cases h
    · intro o r a r1 g h
      simp only [prodS] at h
      split at h
      · cases h
      · rename_i a' r' hu
        have h1 := ih.un g hu
        have h2 := ih.pl h1.1 h
        exact ⟨h2.1, by omega⟩
    · intro o r a0 a r1 g h
      simp only [prodL] at h
      split at h
      · rename_i hm
        have hl := isT_lt g hm
        split at h
        · cases h
        · rename_i b r' hu
          have h1 := ih.un g.pass hu
          have h2 := ih.pl h1.1 h
          exact ⟨h2.1, by omega⟩
      · split at h
        · rename_i hm
          have hl := isT_lt g hm
          split at h
          · cases h
          · rename_i b r' hu
            have h1 := ih.un g.pass hu
            have h2 := ih.pl h1.1 h
            exact ⟨h2.1, by omega⟩
        · split at h
          · rename_i hm
            have hl := isT_lt g hm
            split at h
            · cases h
            · rename_i b r' hu
              have h1 := ih.un g.pass hu
              have h2 := ih.pl h1.1 h
              exact ⟨h2.1, by omega⟩
          · cases h
            exact ⟨g, Nat.le_refl _⟩
    · intro o r a r1 g h
      simp only [sumS] at h
      split at h
      · cases h
      · rename_i a' r' hu
        have h1 := ih.pr g hu
        have h2 := ih.sl h1.1 h
        exact ⟨h2.1, by omega⟩
    · intro o r a0 a r1 g h
      simp only [sumL] at h
      split at h
      · rename_i hm
        have hl := isT_lt g hm
        split at h
        · cases h
        · rename_i b r' hu
          have h1 := ih.pr g.pass hu
          have h2 := ih.sl h1.1 h
          exact ⟨h2.1, by omega⟩
      · split at h
        · rename_i hm
          have hl := isT_lt g hm
          split at h
          · cases h
          · rename_i b r' hu
            have h1 := ih.pr g.pass hu
            have h2 := ih.sl h1.1 h
            exact ⟨h2.1, by omega⟩
        · cases h
          exact ⟨g, Nat.le_refl _⟩
theorem Rdr.good {w : World} {b : Nat} {lv nv mv : Value} {o : Nat} {toks r : List Tok} (h : Rdr w b lv nv mv o toks r) : Good r := by
  obtain ⟨i, x, a, _, _⟩ := h
  exact a.good

/-- the three readers of expressions with so much fuel -/
structure ExpC (n : Nat) : Prop where
  un : ∀ (w : World) (b : Nat) (lv nv mv : Value) (o : Nat) (toks r : List Tok) (nm : List (List UInt8)), toks.length ≤ 5000 → nm.length ≤ 1000 → o ≤ 16 → 4 * r.length + 1 ≤ n → Rdr w b lv nv mv o toks r → NmAt w b nv nm →
    Calls Tryz.prog 132 #[.pointer (some ⟨b, 0, none⟩)] w (ExOut w b lv nv mv o toks (unS n nm o r))
  pr : ∀ (w : World) (b : Nat) (lv nv mv : Value) (o : Nat) (toks r : List Tok) (nm : List (List UInt8)), toks.length ≤ 5000 → nm.length ≤ 1000 → o ≤ 16 → 4 * r.length + 2 ≤ n → Rdr w b lv nv mv o toks r → NmAt w b nv nm →
    Calls Tryz.prog 93 #[.pointer (some ⟨b, 0, none⟩)] w (ExOut w b lv nv mv o toks (prodS n nm o r))
  su : ∀ (w : World) (b : Nat) (lv nv mv : Value) (o : Nat) (toks r : List Tok) (nm : List (List UInt8)), toks.length ≤ 5000 → nm.length ≤ 1000 → o ≤ 16 → 4 * r.length + 3 ≤ n → Rdr w b lv nv mv o toks r → NmAt w b nv nm →
    Calls Tryz.prog 53 #[.pointer (some ⟨b, 0, none⟩)] w (ExOut w b lv nv mv o toks (sumS n nm o r))

set_option maxRecDepth 100000 in
set_option maxHeartbeats 2000000 in
theorem unary_step {n : Nat} (ih : ExpC n) (w : World) (b : Nat) (lv nv mv : Value) (o : Nat) (toks r : List Tok) (nm : List (List UInt8)) (hl : toks.length ≤ 5000) (hnl : nm.length ≤ 1000) (ho : o ≤ 16) (hm : 4 * r.length + 1 ≤ n + 1) (h : Rdr w b lv nv mv o toks r) (hn : NmAt w b nv nm) :
    Calls Tryz.prog 132 #[.pointer (some ⟨b, 0, none⟩)] w (ExOut w b lv nv mv o toks (unS (n + 1) nm o r)) := by
  have hg := h.good
  obtain ⟨res, hres⟩ : ∃ res, unS (n + 1) nm o r = res := ⟨_, rfl⟩
  rw [hres]
  simp only [unS] at hres
  go_enter Tryz.func132, Tryz.ntmps132
  go_wp2_with fail
  refine (here_rdr h).mono ?_
  rintro e w1 ⟨rfl, h1, hf1⟩
  have hn1 := hn.no hf1
  simp only [tokC]
  clear h hn
  go_wp2_with fail
  refine (is_rdr (by omega) [45] (h1.no ((Fr.refl No w1).alloc _))).mono ?_
  rintro e w2 ⟨rfl, h2, hf2⟩
  have hbl : b < w1.heap.size := by obtain ⟨_, _, _, hb, _⟩ := h1; exact hb.lt
  have B2 := (Blk.new w1 (.cells #[.int .i64 (hereT r).kind, .string ⟨(hereT r).text.toArray⟩, .int .i64 (hereT r).at_.b, .int .i64 (hereT r).at_.g, .int .i64 (hereT r).at_.l, .int .i64 (hereT r).at_.c] 83 (0, 0))).fr hf2 (by omega)
  have hn2 := (hn1.no ((Fr.refl No w1).alloc (.cells #[.int .i64 (hereT r).kind, .string ⟨(hereT r).text.toArray⟩, .int .i64 (hereT r).at_.b, .int .i64 (hereT r).at_.g, .int .i64 (hereT r).at_.l, .int .i64 (hereT r).at_.c] 83 (0, 0)))).no hf2
  have hfA : Fr (· = b) w w2 := ((Fr.ofNo hf1).alloc _).call hf2 (fun _ _ x => x)
  clear h1 hn1 hf1 hf2
  generalize w1.heap.size = N at *
  cases h45 : isT [45] r with
  | true =>
    rw [h45] at h2
    rw [if_pos h45] at hres
    simp only [if_true] at h2
    have hlt := isT_lt hg h45
    go_wp2_with fail
    refine (ih.un w2 b lv nv mv o toks (passT r) nm hl hnl ho (by omega) h2 hn2).mono ?_
    rintro e w3 ⟨hf3, hm3⟩
    have hf4 := hfA.call hf3 (fun _ _ x => x)
    cases hu : unS n nm o (passT r) with
    | error ep =>
      rw [hu] at hm3 hres
      obtain ⟨c, p⟩ := ep
      simp only [Threw] at hm3
      subst hm3 hres
      go_wp2_with fail
      exact ⟨rfl, hf4, rfl⟩
    | ok ar =>
      rw [hu] at hm3 hres
      obtain ⟨a, r1⟩ := ar
      obtain ⟨v, rfl, hN, hR⟩ := hm3
      subst hres
      obtain ⟨ty, vc, rfl⟩ := hN.form
      go_wp2_with fail
      go_ret
      exact ⟨hf4, _, rfl, ⟨_, hN.mono hfA.size, rfl⟩, hR⟩
  | false =>
    rw [h45] at h2
    rw [if_neg (by simp [h45])] at hres
    simp only [Bool.false_eq_true, if_false] at h2
    obtain ⟨K, hK⟩ : ∃ K, (hereT r).kind = K := ⟨_, rfl⟩
    obtain ⟨T, hT⟩ : ∃ T, (hereT r).text = T := ⟨_, rfl⟩
    rw [hK, hT] at hres B2
    have R2 := Blk.all B2
    have hB2l := B2.lt
    by_cases hk2 : K = 2
    · rw [if_pos hk2] at hres
      subst hk2
      have hgk := hg
      have hv : ∃ v, v < 2 ^ 1024 ∧ T = decText v := by
        cases hgk with
        | last p => simp [hereT] at hK
        | cons a1 a2 a3 a4 a5 =>
          simp only [hereT, List.headD_cons] at hK hT
          rw [← hT]; exact a3 hK
      have htl : T.length ≤ 1024 := by
        cases hgk with
        | last p => simp [hereT] at hK
        | cons a1 a2 a3 a4 a5 =>
          simp only [hereT, List.headD_cons] at hT
          rw [← hT]; exact a4.1
      obtain ⟨v, hv1, hv2⟩ := hv
      have hds : (⟨T.toArray⟩ : ByteArray).data.toList = (T.map UInt8.toNat).map UInt8.ofNat := by
        rw [List.map_map]
        show T = _
        conv => lhs; rw [← List.map_id T]
        apply List.map_congr_left
        intro x _
        simp
      have hdd : ∀ d ∈ T.map UInt8.toNat, 48 ≤ d ∧ d ≤ 57 := by
        rw [hv2]
        intro d hd
        rw [List.mem_map] at hd
        obtain ⟨y, hy, rfl⟩ := hd
        exact decText_codes v y hy
      have hd0 : T.map UInt8.toNat ≠ [] := by rw [hv2]; simpa using decText_ne v
      have HD := Lib.hid (And.intro hds (And.intro hdd (And.intro hd0 htl)))
      clear hds hdd hd0 htl hv2 hv1 hgk
      subst hres
      go_wp2_with fail
      refine (pass_rdr (by omega) h2).mono ?_
      rintro e w3 ⟨rfl, h3, hf3⟩
      simp only [tokC]
      rw [hK, hT]
      have hft := fld_text
      have hf4 := hfA.call hf3 (fun _ _ x => x)
      clear R2
      go_wp2_with fail
      refine (wParse_calls ⟨T.toArray⟩ (T.map UInt8.toNat) HD.out.1 HD.out.2.1 HD.out.2.2.1 (by rw [List.length_map]; exact Nat.le_trans HD.out.2.2.2 (by omega)) _).mono ?_
      rintro e w4 ⟨a, c, rfl, ho4, hf5⟩
      go_wp2_with fail
      go_ret
      have hb3 : w.heap.size ≤ w3.heap.size := hf4.size
      exact ⟨(hf4.callNo hf5).alloc _, _, rfl, ⟨a, c, rfl, (own_mono ho4 hb3).alloc _⟩, (h3.no hf5).no ((Fr.refl No w4).alloc _)⟩
    · have hk2' : (K == 2) = false := by simpa using hk2
      rw [if_neg hk2] at hres
      clear hk2
      go_wp2_with fail
      refine (name_rdr h2).mono ?_
      rintro e w3 ⟨rfl, h3, hf3⟩
      have hn3 := hn2.no hf3
      have B3 := B2.fr hf3 (fun x => x)
      have hf4 := hfA.callNo hf3
      have R3 := Blk.all B3
      have hB3l := B3.lt
      clear R2 h2 hn2 B2 hf3 hfA hB2l
      cases hnm : nameS r with
      | true =>
        rw [if_pos hnm] at hres
        obtain ⟨i, x, ha, hb, ht⟩ := h3
        go_wp2_with fail
        refine (variable_rdr (by omega) T hb hn3).mono ?_
        rintro e w4 ⟨rfl, hf5⟩
        have h4 : Rdr w4 b lv nv mv o toks r := ⟨i, x, ha, hb.fr hf5 (fun x => x), ht.no hf5⟩
        have hf6 := hf4.callNo hf5
        have B4 := B3.fr hf5 (fun x => x)
        have R4 := Blk.all B4
        cases hv : varS nm T with
        | none =>
          rw [hv] at hres
          simp only at hres
          have hvi : varI nm T = -1 := by unfold varI; rw [hv]
          rw [hvi]
          subst hres
          clear R3 B3 B4 hn3 hb ht ha
          go_wp2_with fail
          refine (need_rdr h4 81).mono ?_
          rintro e w5 ⟨ht, hf7⟩
          simp only [Threw] at ht
          subst ht
          go_wp2_with fail
          exact ⟨rfl, hf6.callNo hf7, rfl⟩
        | some k =>
          rw [hv] at hres
          simp only at hres
          have hvi : varI nm T = (k : Int) := by unfold varI; rw [hv]
          rw [hvi]
          subst hres
          have hk0 : decide ((0 : Int) ≤ (k : Int)) = true := by simp
          clear R3 B3 hn3 hb ht ha
          go_wp2_with fail
          refine (need_true b _ _).mono ?_
          rintro e w5 ⟨rfl, rfl⟩
          go_wp2_with fail
          refine (pass_rdr (by omega) h4).mono ?_
          rintro e w5 ⟨rfl, h5, hf7⟩
          have B5 := B4.fr hf7 (by omega)
          have R5 := Blk.all B5
          have hf8 := hf6.call hf7 (fun _ _ x => x)
          simp only [tokC]
          clear R4 B4
          go_wp2_with fail
          go_ret
          exact ⟨hf8, _, rfl, rfl, h5⟩
      | false =>
        rw [if_neg (by simp [hnm])] at hres
        go_wp2_with fail
        refine (into_rdr (by omega) [40] h3).mono ?_
        rintro e w4 ⟨hf5, hm5⟩
        have hf6 := hf4.call hf5 (fun _ _ x => x)
        have hn4 := hn3.no hf5
        by_cases hs : K = 3 ∧ T = [40]
        · rw [if_neg (by simpa using hs)] at hres
          by_cases ho2 : 16 ≤ o
          · have e : intoS [40] o r = .error (83, (hereT r).at_) := by unfold intoS; rw [hK, hT, if_neg (by simpa using hs), if_pos ho2]
            rw [if_pos ho2] at hres
            rw [e] at hm5
            simp only [Threw] at hm5
            subst hm5 hres
            go_wp2_with fail
            exact ⟨rfl, hf6, rfl⟩
          · have e : intoS [40] o r = .ok (passT r) := by unfold intoS; rw [hK, hT, if_neg (by simpa using hs), if_neg ho2]
            rw [if_neg ho2] at hres
            rw [e] at hm5
            obtain ⟨rfl, h4⟩ := hm5
            have hlt : (passT r).length < r.length := hg.pass_lt (by omega)
            go_wp2_with fail
            refine (ih.su w4 b lv nv mv (o + 1) toks (passT r) nm hl hnl (by omega) (by omega) h4 hn4).mono ?_
            rintro e w5 ⟨hf7, hm7⟩
            have hf8 := hf6.call hf7 (fun _ _ x => x)
            cases hu : sumS n nm (o + 1) (passT r) with
            | error ep =>
              rw [hu] at hm7 hres
              obtain ⟨c, p⟩ := ep
              simp only [Threw] at hm7
              subst hm7 hres
              go_wp2_with fail
              exact ⟨rfl, hf8, rfl⟩
            | ok ar =>
              rw [hu] at hm7 hres
              obtain ⟨a, r1⟩ := ar
              obtain ⟨v, rfl, hN, hR⟩ := hm7
              obtain ⟨ty, vc, rfl⟩ := hN.form
              simp only at hres
              go_wp2_with fail
              refine (out_rdr (by omega) (by omega) [41] hR).mono ?_
              rintro e w6 ⟨hf9, hm9⟩
              have hfA := hf8.call hf9 (fun _ _ x => x)
              have hN2 := (hN.fr h4.bl hf9).mono hf6.size
              cases h41 : isT [41] r1 with
              | true =>
                have e : mustS [41] r1 = .ok (passT r1) := by unfold mustS; rw [if_pos h41]
                rw [if_pos h41] at hres
                rw [e] at hm9
                obtain ⟨rfl, h6⟩ := hm9
                subst hres
                go_wp2_with fail
                go_ret
                exact ⟨hfA, _, rfl, hN2, h6⟩
              | false =>
                have e : mustS [41] r1 = .error (80, (hereT r1).at_) := by unfold mustS; rw [if_neg (by simp [h41])]
                rw [if_neg (by simp [h41])] at hres
                rw [e] at hm9
                simp only [Threw] at hm9
                subst hm9 hres
                go_wp2_with fail
                exact ⟨rfl, hfA, rfl⟩
        · have e : intoS [40] o r = .error (80, (hereT r).at_) := by unfold intoS; rw [hK, hT, if_pos (by simpa using hs)]
          rw [if_pos (by simpa using hs)] at hres
          rw [e] at hm5
          simp only [Threw] at hm5
          subst hm5 hres
          go_wp2_with fail
          exact ⟨rfl, hf6, rfl⟩
end Go.Proofs.YtlklijpjacmgpaaGreatDoor
