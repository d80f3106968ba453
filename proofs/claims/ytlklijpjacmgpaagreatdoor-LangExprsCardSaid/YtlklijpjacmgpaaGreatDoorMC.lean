/- Printing: printed. -/
import Derived.Test.YtlklijpjacmgpaaGreatDoorMA
import Derived.Test.YtlklijpjacmgpaaGreatDoorMB
namespace Go.Proofs.YtlklijpjacmgpaaGreatDoor
open Go.RowKit
set_option linter.unusedVariables false
set_option linter.unusedSimpArgs false
attribute [local go_sem ↓] Go.wp_at_zero Go.wp_at_succ

def PrOut (B b : Nat) (bs : List Value) (s : List UInt8) (w : World) (e : Ending) (w' : World) : Prop :=
  e = .returned (.tuple #[]) ∧ (∃ p', (p' = .pointer none ∨ p' = selfP b) ∧ SB B b p' (bs ++ Lib.byteCells s) w') ∧ Fr (SbB B b w) w w'
def PrC (k : Nat) : Prop := ∀ (l : Sms) (a : Option Addr) (n c : Nat) (vs : List Value) (ah : List UInt8) (B0 B b : Nat) (p : Value) (bs : List Value) (w : World), l.sz ≤ k → l.okS → w.ownsRow B0 141 1 (.slice a n c) n vs → SmsAre w B0 l vs → SB B b p bs w → (p = .pointer none ∨ p = selfP b) → bs.length + (prSms ah l).length ≤ 100000000 → ah.length + l.sz * 2 ≤ 100000 → B ≤ w.heap.size →
  Calls Tryz.prog 44 #[selfP b, .slice a n c, .string ⟨ah.toArray⟩] w (PrOut B b bs (prSms ah l) w)
theorem toL_len : ∀ (l : Sms), l.toL.length < l.sz
  | .nil => by simp [Sms.toL, Sms.sz]
  | .cons s r => by
    have := toL_len r
    simp only [Sms.toL, Sms.sz, List.length_cons]
    omega
theorem blks_len : ∀ (b : Bls), b.toL.length < b.sz
  | .nil => by simp [Bls.toL, Bls.sz]
  | .cons p x r => by
    have := blks_len r
    simp only [Bls.toL, Bls.sz, List.length_cons]
    omega
theorem blksOf_len (s : Sm) : (blksOf s).length ≤ s.sz := by
  cases s with
  | choose p b => have := blks_len b; simp only [blksOf, Sm.sz]; omega
  | iff p l r eq t e => cases e <;> simp [blksOf, Sm.sz, Els.sz] <;> omega
  | set p k x e => simp [blksOf]
  | skip p => simp [blksOf]
  | stop p => simp [blksOf]
  | mark p x => simp [blksOf]
  | loop p b => simp [blksOf, Sm.sz]
  | whil p l r eq b => simp [blksOf, Sm.sz]
theorem wordOf_len (s : Sm) : (wordOf s).length ≤ 4 := by
  cases s with
  | iff p l r eq t e => cases e <;> simp [wordOf, else_]
  | choose p b => simp [wordOf, or_]
  | set p k x e => simp [wordOf]
  | skip p => simp [wordOf]
  | stop p => simp [wordOf]
  | mark p x => simp [wordOf]
  | loop p b => simp [wordOf]
  | whil p l r eq b => simp [wordOf]
theorem prSm_len (ah : List UInt8) (s : Sm) : ah.length + (hdS s).length + 2 ≤ (prSm ah s).length := by
  rw [prSm_eq]
  split <;> simp <;> omega
theorem put_calls (B b : Nat) (p : Value) (bs : List Value) (X y : List UInt8) (w : World) (hp : p = .pointer none ∨ p = selfP b) (h : SB B b p (bs ++ Lib.byteCells X) w) (hlen : bs.length + X.length + y.length ≤ 1000000000) (hBw : B ≤ w.heap.size) :
    Calls Tryz.prog 43 #[selfP b, .string ⟨y.toArray⟩] w fun e w' => e = .returned (.tuple #[.int .i64 y.length, .nilIface]) ∧ SB B b (selfP b) (bs ++ Lib.byteCells (X ++ y)) w' ∧ Fr (SbB B b w) w w' :=
  (sbB_str_calls B b p _ ⟨y.toArray⟩ w hp h (by rw [List.length_append, bc_len]; show _ + y.length ≤ _; omega) hBw).mono fun e w' ⟨h1, h2, _, h4⟩ => ⟨h1, by rw [bc_app, ← List.append_assoc]; exact h2, h4⟩
set_option maxRecDepth 100000 in
set_option maxHeartbeats 8000000 in
theorem printed_step {k : Nat} (ih : PrC k) : PrC (k + 1) := by
  intro l a n c vs ah B0 B b p bs w hk hok ho hs hb hp hl hah hB
  have hnL : n = l.toL.length := by
    have h1 := SmsAre.len l vs hs
    have h2 := ho.1
    omega
  have hnk := toL_len l
  have hflat := prSms_flat ah l
  obtain ⟨L, hL⟩ : ∃ L, l.toL = L := ⟨_, rfl⟩
  have hget := fun i s (hi : L[i]? = some s) => SmsAre.get l vs i s hs (by rw [hL]; exact hi)
  have hsub := fun s (hi : s ∈ L) => sms_sub l s (by rw [hL]; exact hi)
  rw [hL] at hnL hflat hnk
  rw [hflat] at hl ⊢
  have hlsz : l.sz ≤ k + 1 := hk
  have hn1 : n ≤ 100000000 := by omega
  have hnl2 : L.length ≤ 100000000 := by omega
  have HH := Lib.hid (And.intro hL (And.intro hget (And.intro hsub (And.intro hs (And.intro ho hok)))))
  have hoth : Other (SbB B b w) B0 w := other_sb hb
  have HB := Lib.hid (And.intro hb hoth)
  clear hL hget hsub hflat hs hok hoth
  subst hnL
  go_enter Tryz.func44, Tryz.ntmps44
  go_wp2_with fail
  go_loopg [14] L.length (fun gk x14 wr => ∃ (i : Nat) (p' : Value), gk = L.length - i ∧ i ≤ L.length ∧ x14 = .int .i64 i ∧ (p' = .pointer none ∨ p' = selfP b) ∧ SB B b p' (bs ++ Lib.byteCells ((L.take i).flatMap (prSm ah))) wr ∧ Fr (SbB B b w) w wr)
  case atStart => exact ⟨0, p, rfl, Nat.zero_le _, rfl, hp, by simpa [Lib.byteCells] using hb, Fr.refl _ _⟩
  case round =>
    clear hb hp ho
    obtain ⟨i, p1, hgk, hi, rfl, hp1, hb1, hf1⟩ := hrel
    have HG := Lib.hid hgk
    clear hgk
    by_cases hlt : i < L.length
    · obtain ⟨s, hsi⟩ : ∃ s, L[i]? = some s := ⟨L[i], List.getElem?_eq_getElem hlt⟩
      obtain ⟨v, hv, hsm⟩ := HH.out.2.1 i s hsi
      have hssz := HH.out.2.2.1 s (List.mem_of_getElem? hsi)
      have hsok := hssz.2 HH.out.2.2.2.2.2
      have hss : s.sz < l.sz := hssz.1
      have hor := own_other HH.out.2.2.2.2.1 hf1 HB.out.2 (Or.inr (Or.inl rfl))
      have hsm1 := SmIs.other hf1 HB.out.2 s v hsm
      have htake := flat_take_succ (prSm ah) hsi
      have htl := flat_take_le (prSm ah) L (i + 1)
      have hpl := prSm_len ah s
      have hpe := prSm_eq ah s
      rw [htake, List.length_append] at htl
      rcases own_cases hor with ⟨_, h2, _⟩ | ⟨g, cap, h1, hBg, hgl, hcap⟩
      · omega
      · simp only [Value.slice.injEq] at h1
        obtain ⟨rfl, _, rfl⟩ := h1
        have hc1 := own_cell hor hv
        obtain ⟨tv, xv, rfl⟩ := hsm1.form
        obtain ⟨acc, hacc⟩ : ∃ acc, (L.take i).flatMap (prSm ah) = acc := ⟨_, rfl⟩
        rw [hacc] at hb1 htl htake
        have hhd := head_calls (w := wr) hsm1 (okS_ok1 hsok) (by omega)
        have hbk := blksOf_len s
        obtain ⟨H, hH⟩ : ∃ H, hdS s = H := ⟨_, rfl⟩
        rw [hH] at hhd hpl hpe
        have i1 : (0 : Int) ≤ (i : Int) := by omega
        have i2 : (i : Int) < (L.length : Int) := by omega
        have hHl : H.length ≤ 100000000 := by omega
        have hahl : ah.length ≤ 100000000 := by omega
        have hpr : acc.length + (prSm ah s).length ≤ (L.flatMap (prSm ah)).length := htl
        have HS := Lib.hid (And.intro hsi (And.intro hsok (And.intro hsm1 (And.intro htake (And.intro hpe (And.intro hacc hhd))))))
        clear hsi hsok hsm1 htake hpe hacc hhd hv hsm hssz hH hor htl
        go_wp2_with fail
        refine HS.out.2.2.2.2.2.2.mono ?_
        rintro e w1 ⟨rfl, hf2⟩
        have hb2 := SB.fr hb1 hf2
        have hf3 := hf1.callNo hf2
        have hsm2 := SmIs.other hf2 (other_no _ _) _ _ HS.out.2.2.1
        go_wp2_with fail
        rw [ba_append]
        have hsz3 := hf3.size
        refine (put_calls B b p1 bs acc (ah ++ H) w1 hp1 hb2 (by rw [List.length_append]; omega) (Nat.le_trans hB hsz3)).mono ?_
        rintro e w2 ⟨rfl, hb3, hf4⟩
        have hf5 := hf3.sb hf4
        have hsm3 := SmIs.other hf4 (other_sb hb2) _ _ hsm2
        clear hb2 hsm2 hf4 hf2
        go_wp2_with fail
        refine (parts_calls hsm3 (by omega)).mono ?_
        rintro e w3 ⟨a3, c3, rs, rfl, hrs, hra, hf6⟩
        have hb4 := SB.fr hb3 hf6
        have hf7 := hf5.callNo hf6
        have hwl := wordOf_len s
        have hbk2 := fun x (hx : x ∈ blksOf s) => blks_sub hx
        have hrows := fun q x (hq : (blksOf s)[q]? = some x) => rows_take_succ ah (wordOf s) hq
        have hrle := fun q => rows_take_le ah (wordOf s) (blksOf s) q
        have hpe := HS.out.2.2.2.2.1
        obtain ⟨BL, hBL⟩ : ∃ BL, blksOf s = BL := ⟨_, rfl⟩
        obtain ⟨WD, hWD⟩ : ∃ WD, wordOf s = WD := ⟨_, rfl⟩
        rw [hBL] at hrs hra hbk hbk2 hrows hrle hpe ⊢
        rw [hWD] at hrows hrle hwl hpe ⊢
        have hlenE := congrArg List.length hpe
        have HP := Lib.hid (And.intro hpe (And.intro hbk2 (And.intro hrows (And.intro hrle hlenE))))
        clear hpe hbk2 hrows hrle hlenE hBL hWD
        have hsz7 := hf7.size
        by_cases hK : BL.length = 0
        · have hpe := HP.out.1
          rw [if_pos hK] at hpe
          have hke : ((BL.length : Int) == 0) = true := by rw [hK]; rfl
          have hlenE := congrArg List.length hpe
          simp only [List.length_append, List.length_cons, List.length_nil] at hlenE
          have HPE := Lib.hid hpe
          have HK := Lib.hid (And.intro hK hlenE)
          clear hpe hK hlenE
          go_wp2_with fail
          refine (put_calls B b _ bs _ [59, 10] w3 (Or.inr rfl) hb4 (by have := HK.out.2; simp only [List.length_append, List.length_cons, List.length_nil]; omega) (Nat.le_trans hB hsz7)).mono ?_
          rintro e w4 ⟨rfl, hb5, hf8⟩
          go_wp2_with fail
          go_roundg (L.length - (i + 1))
          case measure => rw [HG.out]; omega
          case rel =>
            refine ⟨i + 1, selfP b, rfl, by omega, by go_num, Or.inr rfl, ?_, hf7.sb hf8⟩
            rw [HS.out.2.2.2.1, HPE.out]
            rw [← List.append_assoc]
            exact hb5
        · have hpe := HP.out.1
          rw [if_neg hK] at hpe
          have hke : ((BL.length : Int) == 0) = false := by rw [beq_eq_false_iff_ne]; omega
          have hlenE := congrArg List.length hpe
          simp only [List.length_append, List.length_cons, List.length_nil] at hlenE
          have HPE := Lib.hid (And.intro hpe hlenE)
          clear hpe hlenE hK
          have hB3 : B ≤ w3.heap.size := Nat.le_trans hB hsz7
          go_wp2_with fail
          obtain ⟨wo, rfl⟩ : ∃ wo : World, wo = wr := ⟨_, rfl⟩
          go_loopg [36] BL.length (fun gk x36 wr => ∃ (j : Nat) (p2 : Value), gk = BL.length - j ∧ j ≤ BL.length ∧ x36 = .int .i64 j ∧ (p2 = .pointer none ∨ p2 = selfP b) ∧ SB B b p2 (bs ++ Lib.byteCells (acc ++ (ah ++ H) ++ prRows ah WD 0 (BL.take j))) wr ∧ Fr (SbB B b w) w wr ∧ wr.ownsRow w2.heap.size 76 1 (.slice a3 BL.length c3) BL.length rs ∧ RowsAre wr B0 BL rs)
          case atStart => exact ⟨0, selfP b, rfl, Nat.zero_le _, rfl, Or.inr rfl, by simpa [prRows] using hb4, hf7, hrs, hra⟩
          case round =>
            clear hb4 hf7 hrs hra hf5 hf6 hsm3 hb3
            obtain ⟨j, p2, hgj, hj, rfl, hp2, hb5, hf8, hrs, hra⟩ := hrel
            have HJ := Lib.hid hgj
            clear hgj
            have hsz8 := hf8.size
            by_cases hjlt : j < BL.length
            · obtain ⟨x, hx⟩ : ∃ x, BL[j]? = some x := ⟨BL[j], List.getElem?_eq_getElem hjlt⟩
              obtain ⟨a4, n4, c4, bs4, r1, r2, r3⟩ := RowsAre.get BL rs j x hra hx
              have hxs := HP.out.2.1 x (List.mem_of_getElem? hx)
              have hxok := hxs.2 HS.out.2.1
              have hxsz : x.sz < s.sz := hxs.1
              have hrt := HP.out.2.2.1 j x hx
              have hrl := HP.out.2.2.2.1 (j + 1)
              rw [hrt, List.length_append] at hrl
              have hrw : prRw ah WD j x = (if j = 0 then [] else ah ++ [125, 32] ++ WD) ++ [32, 123, 10] ++ prSms (ah ++ [32, 32]) x := rfl
              have hlR : (prRw ah WD j x).length + (prRows ah WD 0 (BL.take j)).length ≤ (prRows ah WD 0 BL).length := by omega
              have hlE := HPE.out.2
              have hrwl := congrArg List.length hrw
              simp only [List.length_append, List.length_cons, List.length_nil] at hrwl
              have HRT := Lib.hid (And.intro hrt hrw)
              clear hrt hrl hrw
              rcases own_cases hrs with ⟨_, h2, _⟩ | ⟨g4, cap4, h1, hBg4, hgl4, hcap4⟩
              · omega
              · simp only [Value.slice.injEq] at h1
                obtain ⟨rfl, _, rfl⟩ := h1
                have hc4 := own_cell hrs r1
                have j1 : (0 : Int) ≤ (j : Int) := by omega
                have j2 : (j : Int) < (BL.length : Int) := by omega
                have HX := Lib.hid (And.intro hx r1)
                clear hx r1
                by_cases hj0 : j = 0
                · have hd1 : decide ((0 : Int) < (j : Int)) = false := by rw [decide_eq_false_iff_not]; omega
                  have hd2 : decide (0 < j) = false := by rw [decide_eq_false_iff_not]; omega
                  rw [if_pos hj0] at hrwl
                  simp only [List.length_nil] at hrwl
                  have HJ0 := Lib.hid hj0
                  clear hj0
                  go_wp2_with fail
                  refine (put_calls B b _ bs _ [32, 123, 10] _ hp2 hb5 (by simp only [List.length_append, List.length_cons, List.length_nil] at *; omega) (by omega)).mono ?_
                  rintro e w5 ⟨rfl, hb7, hf10⟩
                  have hfA := (hf8).sb hf10
                  have hszA := hfA.size
                  have hsA := SmsAre.other hf10 (other_sb hb5) _ _ r3
                  have hoA := own_other r2 hf10 (other_sb hb5) (Or.inr (Or.inl rfl))
                  have hrsA := own_sbs hrs (by decide) (by decide) hb5 hf10
                  have hraA := RowsAre.other hf10 (other_sb hb5) _ _ hra
                  go_wp2_with fail
                  rw [ba_append]
                  refine (ih x a4 n4 c4 bs4 (ah ++ [32, 32]) B0 B b _ _ w5 (by omega) hxok hoA hsA hb7 (Or.inr rfl) (by rw [List.length_append, bc_len]; simp only [List.length_append, List.length_cons, List.length_nil] at *; omega) (by simp only [List.length_append, List.length_cons, List.length_nil]; omega) (by omega)).mono ?_
                  rintro e w6 ⟨rfl, ⟨p6, hp6, hb8⟩, hf11⟩
                  go_wp2_with fail
                  go_roundg (BL.length - (j + 1))
                  case measure => rw [HJ.out]; omega
                  case rel =>
                    refine ⟨j + 1, p6, rfl, by omega, by go_num, hp6, ?_, hfA.sb hf11, own_sbs hrsA (by decide) (by decide) hb7 hf11, RowsAre.other hf11 (other_sb hb7) _ _ hraA⟩
                    rw [HRT.out.1, HRT.out.2]
                    rw [if_pos HJ0.out]
                    rw [show acc ++ (ah ++ H) ++ (prRows ah WD 0 (BL.take j) ++ ([] ++ [32, 123, 10] ++ prSms (ah ++ [32, 32]) x)) = (acc ++ (ah ++ H) ++ prRows ah WD 0 (BL.take j) ++ [32, 123, 10]) ++ prSms (ah ++ [32, 32]) x by simp]
                    rw [bc_app, ← List.append_assoc]
                    exact hb8

                · have hd1 : decide ((0 : Int) < (j : Int)) = true := by rw [decide_eq_true_iff]; omega
                  have hd2 : decide (0 < j) = true := by rw [decide_eq_true_iff]; omega
                  rw [if_neg hj0] at hrwl
                  simp only [List.length_append, List.length_cons, List.length_nil] at hrwl
                  have HJ0 := Lib.hid hj0
                  clear hj0
                  go_wp2_with fail
                  rw [ba_append, ba_append]
                  refine (put_calls B b _ bs _ (ah ++ [125, 32] ++ WD) _ hp2 hb5 (by simp only [List.length_append, List.length_cons, List.length_nil] at *; omega) (by omega)).mono ?_
                  rintro e w4 ⟨rfl, hb6, hf9⟩
                  have hfB := hf8.sb hf9
                  have hszB := hfB.size
                  have hsB := SmsAre.other hf9 (other_sb hb5) _ _ r3
                  have hoB := own_other r2 hf9 (other_sb hb5) (Or.inr (Or.inl rfl))
                  have hrsB := own_sbs hrs (by decide) (by decide) hb5 hf9
                  have hraB := RowsAre.other hf9 (other_sb hb5) _ _ hra
                  go_wp2_with fail
                  refine (put_calls B b _ bs _ [32, 123, 10] _ (Or.inr rfl) hb6 (by simp only [List.length_append, List.length_cons, List.length_nil] at *; omega) (by omega)).mono ?_
                  rintro e w5 ⟨rfl, hb7, hf10⟩
                  have hfA := (hfB).sb hf10
                  have hszA := hfA.size
                  have hsA := SmsAre.other hf10 (other_sb hb6) _ _ hsB
                  have hoA := own_other hoB hf10 (other_sb hb6) (Or.inr (Or.inl rfl))
                  have hrsA := own_sbs hrsB (by decide) (by decide) hb6 hf10
                  have hraA := RowsAre.other hf10 (other_sb hb6) _ _ hraB
                  go_wp2_with fail
                  rw [ba_append]
                  refine (ih x a4 n4 c4 bs4 (ah ++ [32, 32]) B0 B b _ _ w5 (by omega) hxok hoA hsA hb7 (Or.inr rfl) (by rw [List.length_append, bc_len]; simp only [List.length_append, List.length_cons, List.length_nil] at *; omega) (by simp only [List.length_append, List.length_cons, List.length_nil]; omega) (by omega)).mono ?_
                  rintro e w6 ⟨rfl, ⟨p6, hp6, hb8⟩, hf11⟩
                  go_wp2_with fail
                  go_roundg (BL.length - (j + 1))
                  case measure => rw [HJ.out]; omega
                  case rel =>
                    refine ⟨j + 1, p6, rfl, by omega, by go_num, hp6, ?_, hfA.sb hf11, own_sbs hrsA (by decide) (by decide) hb7 hf11, RowsAre.other hf11 (other_sb hb7) _ _ hraA⟩
                    rw [HRT.out.1, HRT.out.2]
                    rw [if_neg HJ0.out]
                    rw [show acc ++ (ah ++ H) ++ (prRows ah WD 0 (BL.take j) ++ (ah ++ [125, 32] ++ WD ++ [32, 123, 10] ++ prSms (ah ++ [32, 32]) x)) = (acc ++ (ah ++ H) ++ prRows ah WD 0 (BL.take j) ++ (ah ++ [125, 32] ++ WD) ++ [32, 123, 10]) ++ prSms (ah ++ [32, 32]) x by simp]
                    rw [bc_app, ← List.append_assoc]
                    exact hb8
            · obtain rfl : j = BL.length := by omega
              have j2 : ¬ ((BL.length : Int) < (BL.length : Int)) := by omega
              rw [List.take_length] at hb5
              have hlE := HPE.out.2
              go_wp2_with fail
              rw [ba_append]
              refine (put_calls B b _ bs _ (ah ++ [125, 10]) _ hp2 hb5 (by simp only [List.length_append, List.length_cons, List.length_nil]; omega) (Nat.le_trans hB hsz8)).mono ?_
              rintro e w4 ⟨rfl, hb6, hf9⟩
              go_wp2_with fail
              go_roundg (L.length - (i + 1))
              case measure => rw [HG.out]; omega
              case rel =>
                refine ⟨i + 1, selfP b, rfl, by omega, by go_num, Or.inr rfl, ?_, hf8.sb hf9⟩
                rw [HS.out.2.2.2.1, HPE.out.1]
                rw [show acc ++ (ah ++ H ++ (prRows ah WD 0 BL ++ (ah ++ [125, 10]))) = acc ++ (ah ++ H) ++ prRows ah WD 0 BL ++ (ah ++ [125, 10]) by simp]
                exact hb6
    · obtain rfl : i = L.length := by omega
      have i2 : ¬ ((L.length : Int) < (L.length : Int)) := by omega
      go_wp2_with fail
      go_end0
      rw [List.take_length] at hb1
      exact ⟨rfl, ⟨p1, hp1, hb1⟩, hf1⟩
theorem pr_all : ∀ k, PrC k
  | 0 => fun l a n c vs ah B0 B b p bs w hk => by
    cases l <;> simp [Sms.sz] at hk
  | k + 1 => printed_step (pr_all k)
end Go.Proofs.YtlklijpjacmgpaaGreatDoor
