/- statements, whole; declare. -/
import Derived.Test.YtlklijpjacmgpaaGreatDoorLN
import Derived.Test.YtlklijpjacmgpaaGreatDoorLT
import Derived.Deep.RegionHeld3
namespace Go.Proofs.YtlklijpjacmgpaaGreatDoor
open Go.RowKit
set_option linter.unusedVariables false
set_option linter.unusedSimpArgs false
set_option exponentiation.threshold 5000
attribute [local go_sem ↓] Go.wp_at_zero Go.wp_at_succ

theorem st_all : ∀ n, ∀ k, k ≤ n → StC k
  | 0, k, hk => by
    obtain rfl : k = 0 := by omega
    exact ⟨fun _ _ _ _ _ _ _ _ _ _ _ h => by omega, fun _ _ _ _ _ _ _ _ _ _ _ h => by omega, fun _ _ _ _ _ _ _ _ _ _ _ h => by omega⟩
  | n + 1, k, hk => by
    have ih := st_all n
    by_cases e : k ≤ n
    · exact ih k e
    · obtain rfl : k = n + 1 := by omega
      exact ⟨fun w b m lv nv o toks r nm mk h hm => row_step ih w b m lv nv o toks r nm mk h hm, fun w b m lv nv o toks r nm mk h hm => statement_step ih w b m lv nv o toks r nm mk h hm, fun w b m lv nv o toks r nm mk h hm => block_step (ih n (Nat.le_refl _)) w b m lv nv o toks r nm mk h hm⟩
theorem row_rdr {w : World} {b m : Nat} {lv nv : Value} {o : Nat} {toks r : List Tok} {nm mk : List (List UInt8)} {n : Nat} (h : StIn w b m lv nv o toks r nm mk) (hm : 8 * r.length + 4 ≤ n) :
    Calls Tryz.prog 34 #[.pointer (some ⟨b, 0, none⟩)] w (RowOut w b m lv nv o toks (rowS n nm mk o r)) :=
  (st_all n n (Nat.le_refl _)).row w b m lv nv o toks r nm mk h hm

theorem trimT_dig (n : Nat) : trimT (dig L32 n) = dig L32 n := by
  rw [trimT_eq (b := L32) (by unfold L32; omega) (dig_lt (by unfold L32; omega) n), valB_dig (by unfold L32; omega)]
theorem num_len {T : List UInt8} {v : Nat} (hv : v < 2 ^ 1024) (h : T = decText v) : (dig L32 (digVal (T.map UInt8.toNat))).length ≤ 32 := by
  rw [h, digVal_decText]
  refine (dig_len_le (by unfold L32; omega)).2 (Nat.lt_of_lt_of_le hv ?_)
  exact Nat.le_of_eq (by unfold L32; decide +kernel)
theorem neg_dec (n : Nat) : decide (0 < (dig L32 n).length) = decide (n ≠ 0) := by
  by_cases h : n = 0
  · subst h; rw [dig_zero]; rfl
  · rw [dig_pos (by unfold L32; omega) h]
    simp [h]
def strV (x : List UInt8) : Value := .string ⟨x.toArray⟩
/-- names that the call owns -/
def NmOwn (w : World) (B : Nat) (nv : Value) (nm : List (List UInt8)) : Prop := w.ownsRow B 9 1 nv nm.length (nm.map strV)
theorem NmOwn.at_ {w : World} {B b : Nat} {nv : Value} {nm : List (List UInt8)} (h : NmOwn w B nv nm) (hb : b < B) : NmAt w b nv nm := by
  unfold NmOwn at h
  rcases own_cases h with ⟨h1, h2, h3⟩ | ⟨g, cap, rfl, hB, hg, hcap⟩
  · have e : nm = [] := by simpa using h2
    subst e
    exact ⟨none, 0, h1, fun i x hx => by simp at hx⟩
  · exact ⟨_, cap, rfl, fun i x hx => ⟨g, 0, rfl, by
      rw [Nat.zero_add]
      exact own_cell h (j := i) (u := strV x) (by rw [List.getElem?_map, hx]; rfl), by omega⟩⟩
theorem Rdr.names {w : World} {b : Nat} {lv nv mv : Value} {o : Nat} {toks r : List Tok} (h : Rdr w b lv nv mv o toks r) (nv' : Value) : Rdr (w.setCell ⟨b, 2, none⟩ nv') b lv nv' mv o toks r := by
  obtain ⟨i, x, a, hb, ht⟩ := h
  have h1 : Blk _ b (rdC lv i nv' o mv) := hb.setOff 2 nv'
  exact ⟨i, x, a, h1, ht.no ((Fr.refl (· = b) w).setCell (a := ⟨b, 2, none⟩) nv' (fun _ => rfl))⟩
theorem info_str : (Tryz.prog.info? 9).map (fun i => (i.zero, i.size, i.bytes)) = some (some (.string ⟨#[]⟩), 1, 16) := by kernel_rfl
/-- a declaration's value -/
def BgIs (w : World) (B : Nat) (g : Bg) (v : Value) : Prop := ∃ a c, v = .agg #[strV g.name, .bool g.any, .bool g.neg, .slice a (dig L32 g.mag).length c] ∧ w.ownsRow B 57 1 (.slice a (dig L32 g.mag).length c) (dig L32 g.mag).length (u32s (dig L32 g.mag))
theorem load_bg {w : World} {g : Nat} {cs : Array Value} (hg : Blk w g (.cells cs 56 (0, 0))) (hs : cs.size = 4) : (loadVar 56 ⟨g, 0, none⟩).run Tryz.prog w = .ok (.agg cs) w :=
  run_loadVar_row w g _ _ cs _ _ hg Tryz.underlying56 rfl (by rw [hs]; kernel_rfl)
def DcS (b : Nat) (nv : Value) : Nat → Prop := fun k => k = b ∨ nv.ownBlock = some k
/-- a declaration that is read -/
def DcOut (w0 w : World) (b : Nat) (lv nv mv : Value) (o : Nat) (toks : List Tok) (nm : List (List UInt8)) (res : Except Er (Bg × List Tok)) (e : Ending) (w' : World) : Prop :=
  Fr (DcS b nv) w w' ∧ match res with
    | .error (c, p) => Threw c p e
    | .ok (g, r1) => ∃ v nv', e = .returned v ∧ BgIs w' w.heap.size g v ∧ Rdr w' b lv nv' mv o toks r1 ∧ NmOwn w' w0.heap.size nv' (nm ++ [g.name])
theorem Fr.dc {b : Nat} {nv : Value} {w w' : World} (f : Fr (· = b) w w') : Fr (DcS b nv) w w' := (Fr.refl _ w).call f (fun k _ e => Or.inl e)

set_option maxRecDepth 100000 in
set_option maxHeartbeats 4000000 in
theorem declare_rdr {w0 w : World} {b : Nat} {lv nv mv nv0 mv0 : Value} {o o0 : Nat} {toks r r0 : List Tok} {nm : List (List UInt8)} (hl : toks.length ≤ 5000) (hnl : nm.length ≤ 8) (H0 : Rdr w0 b lv nv0 mv0 o0 toks r0) (h : Rdr w b lv nv mv o toks r) (hn : NmOwn w w0.heap.size nv nm) (hw : w0.heap.size ≤ w.heap.size) :
    Calls Tryz.prog 33 #[.pointer (some ⟨b, 0, none⟩)] w (DcOut w0 w b lv nv mv o toks nm (declareS nm r)) := by
  have hg := h.good
  have hb0 := H0.bl
  obtain ⟨res, hres⟩ : ∃ res, declareS nm r = res := ⟨_, rfl⟩
  rw [hres]
  unfold declareS at hres
  obtain ⟨an, cn, rfl⟩ := own_form hn
  obtain ⟨i0, hi, hz0, hz1, hz2⟩ := info_parts info_str
  go_enter Tryz.func33, Tryz.ntmps33
  go_wp2_with fail
  obtain ⟨T, hT⟩ : ∃ T, (hereT r).text = T := ⟨_, rfl⟩
  rw [hT] at hres
  have hB0 := Blk.new w (.cells #[.string ⟨#[]⟩, .bool false, .bool false, .slice none 0 0] 56 (0, 0))
  have h0 := h.no ((Fr.refl No w).alloc (.cells #[.string ⟨#[]⟩, .bool false, .bool false, .slice none 0 0] 56 (0, 0)))
  have hf0 : Fr No w (w.alloc (.cells #[.string ⟨#[]⟩, .bool false, .bool false, .slice none 0 0] 56 (0, 0))) := (Fr.refl _ w).alloc _
  have hbl : b < w.heap.size := h.bl
  have H := Lib.hid (And.intro h hn)
  clear h hn
  refine (name_rdr h0).mono ?_
  rintro e w1 ⟨rfl, hR1, hf1⟩
  have hB1 := hB0.fr hf1 (fun x => x)
  have hf2 := hf0.callNo hf1
  clear hB0 h0 hf0 hf1
  obtain ⟨N0, hN0⟩ : ∃ N0, w.heap.size = N0 := ⟨_, rfl⟩
  rw [hN0] at hB1 ⊢
  have HN0 := Lib.hid hN0
  rw [hN0] at hbl hw
  clear hN0
  cases hnm : nameS r with
  | false =>
    rw [if_pos hnm] at hres
    subst hres
    go_wp2_with fail
    refine (need_rdr hR1 80).mono ?_
    rintro e w2 ⟨ht, hf3⟩
    simp only [Threw] at ht
    subst ht
    go_wp2_with fail
    exact ⟨rfl, Fr.ofNo (hf2.callNo hf3), rfl⟩
  | true =>
    rw [if_neg (by simp [hnm])] at hres
    have hk1 : (hereT r).kind = 1 := by
      simp only [nameS, Bool.and_eq_true, decide_eq_true_eq] at hnm
      exact hnm.1
    have hcs : ∃ cs : List Nat, T = cs.flatMap enc ∧ (∀ c ∈ cs, okc c = true) ∧ T.length ≤ 1024 := by
      cases hg with
      | last q => simp [hereT] at hk1
      | cons a1 a2 a3 a4 a5 =>
        simp only [hereT, List.headD_cons] at hk1 hT
        obtain ⟨cs, q1, q2⟩ := a4.2 hk1
        exact ⟨cs, by rw [← hT]; exact q1, q2, by rw [← hT]; exact a4.1⟩
    obtain ⟨cs, hc1, hc2, hc3⟩ := hcs
    have HC := Lib.hid (And.intro hc1 (And.intro hc2 (And.intro hc3 hk1)))
    clear hc1 hc2 hc3 hk1
    go_wp2_with fail
    refine (need_true b _ _).mono ?_
    rintro e w2 ⟨rfl, rfl⟩
    go_wp2_with fail
    refine (here_rdr hR1).mono ?_
    rintro e w2 ⟨rfl, hR2, hf3⟩
    have hB2 := hB1.fr hf3 (fun x => x)
    have hf4 := hf2.callNo hf3
    simp only [tokC]
    rw [hT]
    have hft := fld_text
    clear hR1 hB1 hf2 hf3
    go_wp2_with fail
    refine (lshort_calls T cs HC.out.1 HC.out.2.1 (by have := HC.out.2.2.1; omega) _).mono ?_
    rintro e w3 ⟨rfl, hf5⟩
    have hR3 := hR2.no hf5
    have hB3 := hB2.fr hf5 (fun x => x)
    have hf6 := hf4.callNo hf5
    clear hR2 hB2 hf4 hf5
    cases hsh : shortS T with
    | false =>
      rw [if_pos hsh] at hres
      subst hres
      go_wp2_with fail
      refine (need_rdr hR3 42).mono ?_
      rintro e w4 ⟨ht, hf7⟩
      simp only [Threw] at ht
      subst ht
      go_wp2_with fail
      exact ⟨rfl, Fr.ofNo (hf6.callNo hf7), rfl⟩
    | true =>
      rw [if_neg (by simp [hsh])] at hres
      go_wp2_with fail
      refine (need_true b _ _).mono ?_
      rintro e w4 ⟨rfl, rfl⟩
      have hn4 : NmOwn w4 w0.heap.size (.slice an nm.length cn) nm := own_fr H.out.2 hf6 (fun _ _ x => x)
      have hn4a := hn4.at_ hb0
      go_wp2_with fail
      obtain ⟨i, x, ha, hb, ht⟩ := hR3
      refine (variable_rdr (by omega) T hb hn4a).mono ?_
      rintro e w5 ⟨rfl, hf7⟩
      have hR5 : Rdr w5 b lv (.slice an nm.length cn) mv o toks r := Rdr.no ⟨i, x, ha, hb, ht⟩ hf7
      have hB5 := hB3.fr hf7 (fun x => x)
      have hf8 := hf6.callNo hf7
      have hn5 : NmOwn w5 w0.heap.size (.slice an nm.length cn) nm := own_fr hn4 hf7 (fun _ _ x => x)
      clear hn4 hn4a hB3 hf6 hf7 ha hb ht
      cases hvr : varS nm T with
      | some v =>
        rw [hvr] at hres
        rw [if_pos (by rfl)] at hres
        have hV : varI nm T = (v : Int) := by unfold varI; rw [hvr]
        rw [hV]
        subst hres
        clear hV
        go_wp2_with fail
        refine (need_rdr hR5 82).mono ?_
        rintro e w6 ⟨ht, hf9⟩
        simp only [Threw] at ht
        subst ht
        go_wp2_with fail
        exact ⟨rfl, Fr.ofNo (hf8.callNo hf9), rfl⟩
      | none =>
        rw [hvr] at hres
        rw [if_neg (by simp)] at hres
        have hV : varI nm T = -1 := by unfold varI; rw [hvr]
        rw [hV]
        clear hV
        go_wp2_with fail
        refine (need_true b _ _).mono ?_
        rintro e w6 ⟨rfl, rfl⟩
        obtain ⟨i, x, ha, hb, ht⟩ := hR5
        have R := Blk.all hb
        have Z := Blk.frees hb
        by_cases h8 : 8 ≤ nm.length
        · rw [if_pos h8] at hres
          subst hres
          have hd : decide ((nm.length : Int) < 8) = false := by rw [decide_eq_false_iff_not]; omega
          go_wp2_with fail
          refine (need_rdr ⟨i, x, ha, hb, ht⟩ 2).mono ?_
          rintro e w7 ⟨hth, hf9⟩
          simp only [Threw] at hth
          subst hth
          go_wp2_with fail
          exact ⟨rfl, Fr.ofNo (hf8.callNo hf9), rfl⟩
        · rw [if_neg h8] at hres
          have hd : decide ((nm.length : Int) < 8) = true := by rw [decide_eq_true_iff]; omega
          go_wp2_with fail
          refine (need_true b _ _).mono ?_
          rintro e w7 ⟨rfl, rfl⟩
          clear hd R Z
          go_wp2_with fail
          refine (pass_rdr (by omega) ⟨i, x, ha, hb, ht⟩).mono ?_
          rintro e w8 ⟨rfl, hR8, hf9⟩
          have hB8 := hB5.fr hf9 (by omega)
          have hfA : Fr (DcS b (.slice an nm.length cn)) w w8 := (Fr.ofNo hf8).call hf9 (fun k _ e => Or.inl e)
          have hn8 : NmOwn w8 w0.heap.size (.slice an nm.length cn) nm := own_fr hn5 hf9 (fun k hk e => by have := (World.ownsRow.lt hn5 k hk).1; omega)
          have hg8 := hg.pass
          have hlt : (passT r).length ≤ r.length := hg.pass_le
          simp only [tokC]
          generalize hrp : passT r = r8 at *
          clear ha hb ht hB5 hn5 hf8 hf9
          obtain ⟨i, x, ha, hb, ht⟩ := hR8
          have R := Blk.all hb
          have Z := Blk.frees hb
          have hn8' : w8.ownsRow w0.heap.size 9 1 (.slice an nm.length cn) nm.length (nm.map strV) := hn8
          have hsz8 := hfA.size
          go_wp2_with ((at_builtin; go_loud (refine wpList_append_own_at _ rfl _ _ 22 rfl w0.heap.size 9 i0 (.string ⟨#[]⟩) 1 16 Tryz.underlying22 hi hz0 hz1 hz2 rfl (by decide) _ _ _ rfl (hn8'.alloc _) ⟨w8.heap.size, 0, none⟩ 1 1 [.string ⟨T.toArray⟩] rfl rfl ?c1 ?c2 ?c3 ?c4 ?c5 ?_; (case c1 => exact new_one _ _ _); (case c2 => exact one_cell rfl); (case c3 => (unfold maxLen; omega)); (case c4 => omega); (case c5 => (have h1 := HN0.out; simp; omega)); intro v9 w9 hown9 hgr9 _ hat9; obtain ⟨a9, c9, rfl⟩ := own_form hown9; have f89 : Fr (fun j => (Value.slice an nm.length cn).ownBlock = some j) w8 w9 := (((Fr.refl _ w8).alloc _).grown hgr9 (fun j hj _ => hj)); have hb9 := hb.fr f89 (fun e => by have := (hn8'.lt _ e).1; omega); have R9 := Blk.all hb9; have Z9 := Blk.frees hb9)))
          have hRb9 : Rdr w9 b lv (.slice an nm.length cn) mv o toks r8 := Rdr.farS H0 ⟨i, x, ha, hb, ht⟩ f89 (fun k hk => (hn8'.lt _ hk).1)
          have hR9 := hRb9.names (.slice a9 (nm.length + 1) c9)
          have hfk := (Fr.refl (· = b) w9).setCell (a := ⟨b, 2, none⟩) (.slice a9 (nm.length + 1) c9) (fun _ => rfl)
          have hnl9 : (nm ++ [T]).length = nm.length + 1 := by simp
          have hN9 : NmOwn (w9.setCell ⟨b, 2, none⟩ (.slice a9 (nm.length + 1) c9)) w0.heap.size (.slice a9 (nm.length + 1) c9) (nm ++ [T]) := by
            unfold NmOwn
            rw [hnl9, List.map_append]
            exact own_fr hown9 hfk (fun k hk e => by have := (hown9.lt k hk).1; omega)
          have hF9 : Fr (DcS b (.slice an nm.length cn)) w (w9.setCell ⟨b, 2, none⟩ (.slice a9 (nm.length + 1) c9)) := (hfA.call f89 (fun k _ e => Or.inr e)).call hfk (fun k _ e => Or.inl e)
          have hB9 := (hB8.fr f89 (fun e => by have := (World.ownsRow.lt H.out.2 _ e).2; have h1 := HN0.out; omega)).fr hfk (by omega)
          generalize w9.setCell ⟨b, 2, none⟩ (.slice a9 (nm.length + 1) c9) = w10 at *
          clear hRb9 hfk hb9 R9 Z9 f89 hown9 hgr9 hat9 hn8 hn8' hfA hB8 hnl9 ha hb ht R Z
          refine (is_rdr (by omega) [61] hR9).mono ?_
          rintro e w11 ⟨rfl, hR11, hf11⟩
          have hN11 : NmOwn w11 w0.heap.size (.slice a9 (nm.length + 1) c9) (nm ++ [T]) := own_fr hN9 hf11 (fun k hk e => by have := (World.ownsRow.lt hN9 k hk).1; omega)
          have hB11 := hB9.fr hf11 (by omega)
          have hF11 := hF9.call hf11 (fun k _ e => Or.inl e)
          clear hR9 hN9 hB9 hF9 hf11
          have R11 := Blk.all hB11
          have Z11 := Blk.frees hB11
          cases heq : isT [61] r8 with
          | false =>
            rw [if_neg (by simp [heq])] at hres
            rw [heq] at hR11
            simp only [Bool.false_eq_true, if_false] at hR11
            subst hres
            go_wp2_with fail
            have hW := set4 hB11 (strV T) (.bool true) (.bool false) (.slice none 0 0)
            have hfz := fr4 hF11 (N := N0) (fun i h => absurd h (Nat.not_lt.2 (Nat.le_of_eq HN0.out))) (strV T) (.bool true) (.bool false) (.slice none 0 0)
            have hfk := fr4 (Fr.refl (· = N0) w11) (N := N0) (fun _ _ => rfl) (strV T) (.bool true) (.bool false) (.slice none 0 0)
            refine bodyPost_ret (results_cell rfl _ _ _ _ rfl (load_bg hW rfl)) rfl ⟨hfz, _, _, rfl, ⟨none, 0, ?_, ?_⟩, Rdr.farS H0 hR11 hfk (fun k e => by omega), own_fr hN11 hfk (fun k hk e => own_ne hN11 hB11 (by decide) (e ▸ hk))⟩
            · rw [dig_zero]; rfl
            · rw [dig_zero]; exact World.ownsRow_nil _ _ _ _
          | true =>
            rw [if_pos heq] at hres
            rw [heq] at hR11
            simp only [if_true] at hR11
            have hg11 := hg8.pass
            have hl11 := hg8.pass_le
            generalize hrp2 : passT r8 = r11 at *
            go_wp2_with fail
            refine (is_rdr (by omega) [45] hR11).mono ?_
            rintro e w12 ⟨rfl, hR12, hf12⟩
            have hN12 : NmOwn w12 w0.heap.size (.slice a9 (nm.length + 1) c9) (nm ++ [T]) := own_fr hN11 hf12 (fun k hk e => by have := (World.ownsRow.lt hN11 k hk).1; omega)
            have hB12 := hB11.fr hf12 (by omega)
            have hF12 := hF11.call hf12 (fun k _ e => Or.inl e)
            clear hR11 hN11 hB11 hF11 hf12 R11 Z11
            cases hng : isT [45] r11 with
            | false =>
              rw [if_neg (by simp [hng])] at hres
              rw [hng] at hR12
              simp only [Bool.false_eq_true, if_false] at hR12
              obtain ⟨r12, hr12⟩ : ∃ r12, r11 = r12 := ⟨_, rfl⟩
              rw [hr12] at hres hR12 hg11
              have hg12 := hg11
              clear hr12
              have hK2 := hg12
              obtain ⟨K, hK⟩ : ∃ K, (hereT r12).kind = K := ⟨_, rfl⟩
              obtain ⟨T2, hT2⟩ : ∃ T2, (hereT r12).text = T2 := ⟨_, rfl⟩
              rw [hK, hT2] at hres
              go_wp2_with fail
              refine (here_rdr hR12).mono ?_
              rintro e w13 ⟨rfl, hR13, hf13⟩
              simp only [tokC]
              rw [hK, hT2]
              have hfd := fld_kind
              have hN13 : NmOwn w13 w0.heap.size (.slice a9 (nm.length + 1) c9) (nm ++ [T]) := own_fr hN12 hf13 (fun _ _ x => x)
              have hB13 := hB12.fr hf13 (fun x => x)
              have hF13 := hF12.callNo hf13
              clear hR12 hN12 hB12 hF12 hf13
              by_cases hk2 : K = 2
              · rw [if_pos hk2] at hres
                subst hk2
                have hv : ∃ v, v < 2 ^ 1024 ∧ T2 = decText v := by
                  cases hg12 with
                  | last p => simp [hereT] at hK
                  | cons a1 a2 a3 a4 a5 =>
                    simp only [hereT, List.headD_cons] at hK hT2
                    rw [← hT2]; exact a3 hK
                have htl : T2.length ≤ 1024 := by
                  cases hg12 with
                  | last p => simp [hereT] at hK
                  | cons a1 a2 a3 a4 a5 =>
                    simp only [hereT, List.headD_cons] at hT2
                    rw [← hT2]; exact a4.1
                obtain ⟨v, hv1, hv2⟩ := hv
                have hds : (⟨T2.toArray⟩ : ByteArray).data.toList = (T2.map UInt8.toNat).map UInt8.ofNat := by
                  rw [List.map_map]
                  show T2 = _
                  conv => lhs; rw [← List.map_id T2]
                  apply List.map_congr_left
                  intro x _
                  simp
                have hdd : ∀ d ∈ T2.map UInt8.toNat, 48 ≤ d ∧ d ≤ 57 := by
                  rw [hv2]
                  intro d hd
                  rw [List.mem_map] at hd
                  obtain ⟨y, hy, rfl⟩ := hd
                  exact decText_codes v y hy
                have hd0 : T2.map UInt8.toNat ≠ [] := by rw [hv2]; simpa using decText_ne v
                have hdl0 := num_len hv1 hv2
                have HD := Lib.hid (And.intro hds (And.intro hdd (And.intro hd0 htl)))
                clear hds hdd hd0 htl hv2 hv1
                subst hres
                go_wp2_with fail
                refine (need_true b _ _).mono ?_
                rintro e w14 ⟨rfl, rfl⟩
                go_wp2_with fail
                refine (pass_rdr (by omega) hR13).mono ?_
                rintro e w15 ⟨rfl, hR15, hf15⟩
                simp only [tokC]
                rw [hK, hT2]
                have hN15 : NmOwn w15 w0.heap.size (.slice a9 (nm.length + 1) c9) (nm ++ [T]) := own_fr hN13 hf15 (fun k hk e => by have := (World.ownsRow.lt hN13 k hk).1; omega)
                have hB15 := hB13.fr hf15 (by omega)
                have hF15 := hF13.call hf15 (fun k _ e => Or.inl e)
                clear hR13 hN13 hB13 hF13 hf15
                go_wp2_with fail
                refine (wParse_calls ⟨T2.toArray⟩ (T2.map UInt8.toNat) HD.out.1 HD.out.2.1 HD.out.2.2.1 (by rw [List.length_map]; exact Nat.le_trans HD.out.2.2.2 (by omega)) _).mono ?_
                rintro e w16 ⟨a16, c16, rfl, ho16, hf16⟩
                have hN16 : NmOwn w16 w0.heap.size (.slice a9 (nm.length + 1) c9) (nm ++ [T]) := own_fr hN15 hf16 (fun _ _ x => x)
                have hB16 := hB15.fr hf16 (fun x => x)
                have hF16 := hF15.callNo hf16
                have hR16 := hR15.no hf16
                have ho16' := own_mono ho16 hF15.size
                obtain ⟨nv2, hnv2⟩ : ∃ nv2, digVal (T2.map UInt8.toNat) = nv2 := ⟨_, rfl⟩
                have hnS : numS T2 = nv2 := hnv2
                rw [hnv2] at ho16'
                rw [hnv2, hnS]
                have hdl : (dig L32 nv2).length ≤ 1000000000 := by rw [hnv2] at hdl0; omega
                have HNV := Lib.hid hnS
                clear hN15 hB15 hF15 hR15 ho16 hf16 hnv2 hnS
                have hal := Fr.alloc (Fr.refl No w16) (.cells #[.bool false, .slice a16 (dig L32 nv2).length c16] 54 (0, 0))
                have hB17 := hB16.fr hal (fun x => x)
                have hZB := Blk.frees hB17
                have hRB := Blk.all hB17
                have hW := set4 hB17 (strV T) (.bool false) (.bool false) (.slice a16 (dig L32 nv2).length c16)
                have hfz := fr4 (hF16.callNo hal) (N := N0) (fun i h => absurd h (Nat.not_lt.2 (Nat.le_of_eq HN0.out))) (strV T) (.bool false) (.bool false) (.slice a16 (dig L32 nv2).length c16)
                have hfk := fr4 ((Fr.refl (· = N0) w16).callNo hal) (N := N0) (fun _ _ => rfl) (strV T) (.bool false) (.bool false) (.slice a16 (dig L32 nv2).length c16)
                go_wp2_with fail
                refine bodyPost_ret (results_cell rfl _ _ _ _ rfl (load_bg hW rfl)) rfl ⟨hfz, _, _, rfl, ⟨a16, c16, ?_, ?_⟩, Rdr.farS H0 hR16 hfk (fun k e => by omega), own_fr hN16 hfk (fun k hk e => own_ne hN16 hB16 (by decide) (e ▸ hk))⟩
                · rw [HNV.out]
                · rw [HNV.out]; exact own_fr ho16' hfk (fun k hk e => own_ne ho16' hB16 (by decide) (e ▸ hk))
              · rw [if_neg hk2] at hres
                subst hres
                have hb2 : (K == 2) = false := by simpa using hk2
                go_wp2_with fail
                refine (need_rdr hR13 80).mono ?_
                rintro e w14 ⟨hth, hf14⟩
                simp only [Threw] at hth
                subst hth
                go_wp2_with fail
                exact ⟨rfl, hF13.callNo hf14, rfl⟩
            | true =>
              rw [if_pos hng] at hres
              rw [hng] at hR12
              simp only [if_true] at hR12
              have hg12 := hg11.pass
              generalize hrp3 : passT r11 = r12 at *
              have hK2 := hg12
              obtain ⟨K, hK⟩ : ∃ K, (hereT r12).kind = K := ⟨_, rfl⟩
              obtain ⟨T2, hT2⟩ : ∃ T2, (hereT r12).text = T2 := ⟨_, rfl⟩
              rw [hK, hT2] at hres
              go_wp2_with fail
              refine (here_rdr hR12).mono ?_
              rintro e w13 ⟨rfl, hR13, hf13⟩
              simp only [tokC]
              rw [hK, hT2]
              have hfd := fld_kind
              have hN13 : NmOwn w13 w0.heap.size (.slice a9 (nm.length + 1) c9) (nm ++ [T]) := own_fr hN12 hf13 (fun _ _ x => x)
              have hB13 := hB12.fr hf13 (fun x => x)
              have hF13 := hF12.callNo hf13
              clear hR12 hN12 hB12 hF12 hf13
              by_cases hk2 : K = 2
              · rw [if_pos hk2] at hres
                subst hk2
                have hv : ∃ v, v < 2 ^ 1024 ∧ T2 = decText v := by
                  cases hg12 with
                  | last p => simp [hereT] at hK
                  | cons a1 a2 a3 a4 a5 =>
                    simp only [hereT, List.headD_cons] at hK hT2
                    rw [← hT2]; exact a3 hK
                have htl : T2.length ≤ 1024 := by
                  cases hg12 with
                  | last p => simp [hereT] at hK
                  | cons a1 a2 a3 a4 a5 =>
                    simp only [hereT, List.headD_cons] at hT2
                    rw [← hT2]; exact a4.1
                obtain ⟨v, hv1, hv2⟩ := hv
                have hds : (⟨T2.toArray⟩ : ByteArray).data.toList = (T2.map UInt8.toNat).map UInt8.ofNat := by
                  rw [List.map_map]
                  show T2 = _
                  conv => lhs; rw [← List.map_id T2]
                  apply List.map_congr_left
                  intro x _
                  simp
                have hdd : ∀ d ∈ T2.map UInt8.toNat, 48 ≤ d ∧ d ≤ 57 := by
                  rw [hv2]
                  intro d hd
                  rw [List.mem_map] at hd
                  obtain ⟨y, hy, rfl⟩ := hd
                  exact decText_codes v y hy
                have hd0 : T2.map UInt8.toNat ≠ [] := by rw [hv2]; simpa using decText_ne v
                have hdl0 := num_len hv1 hv2
                have HD := Lib.hid (And.intro hds (And.intro hdd (And.intro hd0 htl)))
                clear hds hdd hd0 htl hv2 hv1
                subst hres
                go_wp2_with fail
                refine (need_true b _ _).mono ?_
                rintro e w14 ⟨rfl, rfl⟩
                go_wp2_with fail
                refine (pass_rdr (by omega) hR13).mono ?_
                rintro e w15 ⟨rfl, hR15, hf15⟩
                simp only [tokC]
                rw [hK, hT2]
                have hN15 : NmOwn w15 w0.heap.size (.slice a9 (nm.length + 1) c9) (nm ++ [T]) := own_fr hN13 hf15 (fun k hk e => by have := (World.ownsRow.lt hN13 k hk).1; omega)
                have hB15 := hB13.fr hf15 (by omega)
                have hF15 := hF13.call hf15 (fun k _ e => Or.inl e)
                clear hR13 hN13 hB13 hF13 hf15
                go_wp2_with fail
                refine (wParse_calls ⟨T2.toArray⟩ (T2.map UInt8.toNat) HD.out.1 HD.out.2.1 HD.out.2.2.1 (by rw [List.length_map]; exact Nat.le_trans HD.out.2.2.2 (by omega)) _).mono ?_
                rintro e w16 ⟨a16, c16, rfl, ho16, hf16⟩
                have hN16 : NmOwn w16 w0.heap.size (.slice a9 (nm.length + 1) c9) (nm ++ [T]) := own_fr hN15 hf16 (fun _ _ x => x)
                have hB16 := hB15.fr hf16 (fun x => x)
                have hF16 := hF15.callNo hf16
                have hR16 := hR15.no hf16
                have ho16' := own_mono ho16 hF15.size
                obtain ⟨nv2, hnv2⟩ : ∃ nv2, digVal (T2.map UInt8.toNat) = nv2 := ⟨_, rfl⟩
                have hnS : numS T2 = nv2 := hnv2
                rw [hnv2] at ho16'
                rw [hnv2, hnS]
                have hdl : (dig L32 nv2).length ≤ 1000000000 := by rw [hnv2] at hdl0; omega
                have HNV := Lib.hid hnS
                clear hN15 hB15 hF15 hR15 ho16 hf16 hnv2 hnS
                go_wp2_with fail
                have hal := Fr.alloc (Fr.refl No w16) (.cells #[.bool false, .slice a16 (dig L32 nv2).length c16] 54 (0, 0))
                have ho17 := own_fr ho16' hal (fun _ _ x => x)
                refine (wNeg_calls _ false a16 c16 (dig L32 nv2) _ hdl ho17).mono ?_
                rintro e w18 ⟨a18, c18, rfl, ho18, hf18⟩
                rw [trimT_dig] at ho18 ⊢
                have hP18 := (Blk.new w16 (.cells #[.bool false, .slice a16 (dig L32 nv2).length c16] 54 (0, 0))).fr hf18 (fun x => x)
                have hall := hal.callNo hf18
                have hB18 := hB16.fr hall (fun x => x)
                obtain ⟨M, hM⟩ : ∃ M, w16.heap.size = M := ⟨_, rfl⟩
                rw [hM] at hP18 ⊢
                have hMN : N0 ≠ M := by have := hB16.lt; omega
                have hZ18 := Blk.frees hP18
                have hR18 := Blk.all hP18
                have hZB := Blk.frees hB18
                have hRB := Blk.all hB18
                have hMw : w.heap.size ≤ M := by have := hB16.lt; have := HN0.out; omega
                have hB18s := hB18.fr (fr2 (Fr.refl (· = M) w18) (N := M) (fun _ _ => rfl) (.bool (decide (0 < (dig L32 nv2).length))) (.slice a18 (dig L32 nv2).length c18)) hMN
                have hW := set4 hB18s (strV T) (.bool false) (.bool (decide (0 < (dig L32 nv2).length))) (.slice a18 (dig L32 nv2).length c18)
                have hfz := fr4 (fr2 (hF16.callNo hall) (N := M) (fun i h => absurd h (Nat.not_lt.2 hMw)) (.bool (decide (0 < (dig L32 nv2).length))) (.slice a18 (dig L32 nv2).length c18)) (N := N0) (fun i h => absurd h (Nat.not_lt.2 (Nat.le_of_eq HN0.out))) (strV T) (.bool false) (.bool (decide (0 < (dig L32 nv2).length))) (.slice a18 (dig L32 nv2).length c18)
                have hfk := fr4 (fr2 (Fr.refl (fun k => k = M ∨ k = N0) w18) (N := M) (fun _ _ => Or.inl rfl) (.bool (decide (0 < (dig L32 nv2).length))) (.slice a18 (dig L32 nv2).length c18)) (N := N0) (fun _ _ => Or.inr rfl) (strV T) (.bool false) (.bool (decide (0 < (dig L32 nv2).length))) (.slice a18 (dig L32 nv2).length c18)
                have hM1 : (w16.alloc (.cells #[.bool false, .slice a16 (dig L32 nv2).length c16] 54 (0, 0))).heap.size = M + 1 := by rw [← hM]; exact alloc_size _ _
                rw [hM1] at ho18
                have hNl : N0 < M := by have := hB16.lt; omega
                go_wp2_with fail
                refine bodyPost_ret (results_cell rfl _ _ _ _ rfl (load_bg hW rfl)) rfl ⟨hfz, _, _, rfl, ⟨a18, c18, ?_, ?_⟩, Rdr.farS H0 (hR16.no hall) hfk (fun k e => by omega), own_fr (own_fr hN16 hall (fun _ _ x => x)) hfk (fun k hk e => by
                  rcases e with e | e
                  · have := (World.ownsRow.lt hN16 k hk).2; omega
                  · exact own_ne hN16 hB16 (by decide) (e ▸ hk))⟩
                · rw [HNV.out, neg_dec]
                · rw [HNV.out]; exact own_mono (own_fr ho18 hfk (fun k hk e => by
                    have := (ho18.lt k hk).1
                    rcases e with e | e <;> omega)) (by omega)
              · rw [if_neg hk2] at hres
                subst hres
                have hb2 : (K == 2) = false := by simpa using hk2
                go_wp2_with fail
                refine (need_rdr hR13 80).mono ?_
                rintro e w14 ⟨hth, hf14⟩
                simp only [Threw] at hth
                subst hth
                go_wp2_with fail
                exact ⟨rfl, hF13.callNo hf14, rfl⟩
end Go.Proofs.YtlklijpjacmgpaaGreatDoor
