/- The reference's token: numbers. -/
import Derived.Test.YtklhfbgmadblcaaDoorB2
import Derived.Deep.RegionWith
namespace Go.Proofs.YtklhfbgmadblcaaDoor
open Go.RowKit
set_option linter.unusedVariables false
set_option linter.unusedSimpArgs false

theorem enc_digit {x : Nat} (h : cls x = 3) : enc x = [UInt8.ofNat x] ∧ 48 ≤ x ∧ x ≤ 57 := by
  have : isDigit (x : Int) = true := by
    cases hd : isDigit (x : Int) with
    | true => rfl
    | false =>
      unfold cls at h
      repeat' split at h
      all_goals simp_all
  unfold isDigit at this
  simp at this
  refine ⟨?_, by omega, by omega⟩
  unfold enc
  rw [if_pos (by omega)]
theorem digits_text {mid : List Nat} (h : ∀ x ∈ mid, digit x = true) : mid.flatMap enc = mid.map UInt8.ofNat ∧ ∀ x ∈ mid, 48 ≤ x ∧ x ≤ 57 := by
  induction mid with
  | nil => simp
  | cons x mid ih =>
    have h1 := enc_digit (x := x) (by have := h x (List.mem_cons_self ..); unfold digit at this; simpa using this)
    obtain ⟨i1, i2⟩ := ih (fun y hy => h y (List.mem_cons_of_mem _ hy))
    refine ⟨by simp [h1.1, i1], fun y hy => ?_⟩
    cases hy with
    | head => exact h1.2
    | tail _ hy => exact i2 y hy
theorem codes_digits {mid : List Nat} (h : ∀ x ∈ mid, 48 ≤ x ∧ x ≤ 57) : codesOf ⟨(mid.map UInt8.ofNat).toArray⟩ = mid := by
  unfold codesOf
  simp only [List.map_map]
  conv => rhs; rw [← List.map_id mid]
  refine List.map_congr_left fun x hx => ?_
  have := h x hx
  simp only [Function.comp_apply, UInt8.toNat_ofNat', id]
  omega
/-- the digits of a number's text -/
theorem codes_dec {n : Nat} : digVal (codesOf ⟨(decText n).toArray⟩) = n ∧ (∀ x ∈ codesOf ⟨(decText n).toArray⟩, 48 ≤ x ∧ x ≤ 57) := by
  unfold decText
  by_cases h0 : n = 0
  · subst h0; exact ⟨by decide, by decide⟩
  · rw [if_neg h0]
    have hd : ∀ x ∈ dig 10 n, x < 10 := dig_lt (by omega) n
    have e : ((dig 10 n).reverse.map fun d => UInt8.ofNat (48 + d)) = ((dig 10 n).reverse.map fun d => 48 + d).map UInt8.ofNat := by simp
    have hr : ∀ x ∈ (dig 10 n).reverse.map (fun d => 48 + d), 48 ≤ x ∧ x ≤ 57 := by
      intro x hx
      simp only [List.mem_map, List.mem_reverse] at hx
      obtain ⟨y, hy, rfl⟩ := hx
      have := hd y hy
      omega
    rw [e, codes_digits hr]
    refine ⟨?_, hr⟩
    rw [digVal_val, List.map_reverse, List.map_reverse, List.map_reverse, List.reverse_reverse, List.map_map]
    have : (dig 10 n).map ((fun x => x - 48) ∘ fun d => 48 + d) = dig 10 n := by
      conv => rhs; rw [← List.map_id (dig 10 n)]
      refine List.map_congr_left fun x _ => ?_
      simp
    rw [this, valB_dig (by omega)]
theorem dec_len {n k : Nat} (h : n < 10 ^ k) (hk : 0 < k) : (decText n).length ≤ k := by
  unfold decText
  by_cases h0 : n = 0
  · rw [if_pos h0]; simp; omega
  · rw [if_neg h0]; simp; exact (dig_len_le (by omega)).2 h

theorem Digits_dec (n : Nat) (w : World) (hs : (decText n).length ≤ 4096) :
    Calls Tryd.prog 54 #[.string ⟨(decText n).toArray⟩] w fun e w' => ∃ a c, e = .returned (nV false (.slice a (dig 10000 n).length c)) ∧
      w'.ownsRow w.heap.size 3 1 (.slice a (dig 10000 n).length c) (dig 10000 n).length (i64s (dig 10000 n)) ∧ Fr No w w' := by
  have := Digits_calls ⟨(decText n).toArray⟩ w (by rw [Lib.size_eq]; simp only; omega) codes_dec.2
  rw [codes_dec.1] at this
  exact this

set_option maxRecDepth 100000 in
set_option maxHeartbeats 4000000 in
theorem rtoken_num {S : ByteArray} {pre0 r : List Nat} {c : Nat} {t : List UInt8} (T : Txt S.data.toList (pre0 ++ (c :: r)) t) (hS : S.size ≤ 4096) {w : World} {b : Nat} (hb : Rd w b S pre0) (hc : cls c = 3) :
    Calls Tryd.prog 37 #[ptrV b] w (TokOut w b S pre0 (c :: r)) := by
  have hbb : Blk w b _ := hb
  have h1 := hbb.cell 1 _ rfl
  have h2 := hbb.cell 2 _ rfl
  have h3 := hbb.cell 3 _ rfl
  have h4 := hbb.cell 4 _ rfl
  have hlt := hbb.lt
  have F0 := TkF.init (along start pre0) hb
  go_enter Tryd.func37, Tryd.ntmps37
  go_wp2_with fail
  refine (Look_is (v := (c : Int)) T hS (b := b) F0.rd rfl).mono ?_
  rintro e w1 ⟨rfl, hq1⟩
  have F1 := F0.qd hq1
  clear F0 hq1 h1 h2 h3 h4
  go_wp2_with fail
  refine (rClass_calls _ _).mono ?_
  rintro e w' ⟨rfl, rfl⟩
  rw [hc]
  have hcm : ((c : Int) == -1) = false := by simp
  have HC := Lib.hid hc
  clear hc
  go_wp2_with fail
  go_loopg [] (c :: r).length (fun k wr => ∃ mid rest, c :: r = mid ++ rest ∧ rest.length = k ∧ (∀ x ∈ mid, digit x = true) ∧ TkF w wr w.heap.size b S (pre0 ++ mid) (along start pre0) 0 ⟨#[]⟩)
  case atStart => exact ⟨[], c :: r, rfl, rfl, by simp, by rw [List.append_nil]; exact F1⟩
  case round =>
    obtain ⟨mid, rest, hsp, hk, hall, F⟩ := hrel
    have T1 : Txt S.data.toList ((pre0 ++ mid) ++ rest) t := by rw [List.append_assoc, ← hsp]; exact T
    have A := Lib.hid (And.intro hsp (And.intro hk hall))
    clear hsp hk hall
    obtain ⟨v, hv⟩ : ∃ v, lk (!t.isEmpty) rest = v := ⟨_, rfl⟩
    by_cases hp : 0 ≤ v ∧ cls v = 3
    · have HV := Lib.hid hv
      obtain ⟨hpos, hp3⟩ := hp
      have HP := Lib.hid hp3
      have hp3' : (cls v == 3) = true := by simp [hp3]
      clear hv hp3
      go_wp2_with fail
      refine (Look_is T1 hS F.rd HV.out).mono ?_
      rintro e w2 ⟨rfl, hq2⟩
      have F2 := F.qd hq2
      go_wp2_with fail
      refine (Look_is T1 hS F2.rd HV.out).mono ?_
      rintro e w3 ⟨rfl, hq3⟩
      have F3 := F2.qd hq3
      go_wp2_with fail
      refine (rClass_calls _ _).mono ?_
      rintro e w' ⟨rfl, rfl⟩
      go_wp2_with fail
      cases rest with
      | nil =>
        have := HV.out
        simp only [lk] at this
        split at this <;> omega
      | cons x rest =>
        have hx : (x : Int) = v := HV.out
        refine (Next_at T1 hS F3.rd).mono ?_
        rintro e w4 ⟨rfl, hrd4, hfr4⟩
        go_wp2_with fail
        obtain ⟨a1, a2, a3⟩ := A.out
        go_roundg rest.length
        case measure => simp at a2; omega
        case rel =>
          refine ⟨mid ++ [x], rest, by rw [a1]; simp, rfl, ?_, ?_⟩
          · intro y hy
            simp only [List.mem_append, List.mem_singleton] at hy
            rcases hy with hy | rfl
            · exact a3 y hy
            · unfold digit; rw [hx, HP.out]; rfl
          · rw [← List.append_assoc]
            exact F3.next hlt hrd4 hfr4
    · have HV := Lib.hid hv
      have HP := Lib.hid hp
      clear hv
      obtain ⟨a1, a2, a3⟩ := A.out
      have htw := takeWhile_at (p := digit) a1 a3 (fun x hx => by
        cases rest with
        | nil => cases hx
        | cons y rest =>
          simp at hx; subst hx
          unfold digit
          rw [decide_eq_false_iff_not]
          intro hc3
          have hv2 : (y : Int) = v := HV.out
          exact HP.out ⟨by omega, by rw [← hv2]; exact hc3⟩)
      have htx := text_cut T1
      have hqb := along_b (along start pre0) mid
      rw [← along_append] at hqb
      obtain ⟨l1, l2, l3, l4⟩ := along_fits T1
      rw [← Lib.size_eq] at l1 l2
      have hb1 : (along start pre0).b ≤ (along start (pre0 ++ mid)).b := by omega
      obtain ⟨hdt, hdr⟩ := digits_text a3
      have hne : mid ≠ [] := by
        rintro rfl
        rw [List.takeWhile_cons_of_pos (by unfold digit; rw [HC.out]; rfl)] at htw
        cases htw
      have hbare : (⟨(bareL (S.extract (along start pre0).b (along start (pre0 ++ mid)).b).data.toList).toArray⟩ : ByteArray) = ⟨(decText (digVal mid)).toArray⟩ := by
        rw [htx, hdt]; simp only; rw [bareL_eq mid hne hdr]
      have hsz : (S.extract (along start pre0).b (along start (pre0 ++ mid)).b).size ≤ 4096 := by
        rw [Lib.size_eq, Lib.extract_data, List.length_take, List.length_drop, ← Lib.size_eq]; omega
      have hml : mid.length ≤ 4096 := by
        have h9 := T1.len_le
        rw [← Lib.size_eq] at h9
        simp only [List.length_append] at h9
        omega
      have hv10 : digVal mid < 10 ^ mid.length := by
        have h9 := valB_lt (b := 10) (xs := mid.reverse.map (· - 48)) (by omega) (by
          intro x hx
          simp only [List.mem_map, List.mem_reverse] at hx
          obtain ⟨y, hy, rfl⟩ := hx
          have := hdr y hy
          omega)
        rw [digVal_val]
        simpa using h9
      have hml0 : 0 < mid.length := List.length_pos_iff.2 hne
      have hds : (decText (digVal mid)).length ≤ 4096 := Nat.le_trans (dec_len hv10 hml0) hml
      have hdl : (dig 10000 (digVal mid)).length ≤ 1000000 := by
        have h8 := dig_len_mono (b := 10) (b' := 10000) (n := digVal mid) (by omega) (by omega)
        have h9 := (dig_len_le (b := 10) (n := digVal mid) (k := mid.length) (by omega)).2 hv10
        omega
      clear hv10 hml
      have HTW := Lib.hid htw
      have HTX := Lib.hid htx
      have HBR := Lib.hid hbare
      clear htx htw hqb a1 a2 a3 hbare hdt hdr
      by_cases hpos : 0 ≤ v
      · have hp3 : (cls v == 3) = false := by simp; intro hc3; exact hp ⟨hpos, hc3⟩
        clear hp
        go_wp2_with fail
        refine (Look_is T1 hS F.rd HV.out).mono ?_
        rintro e w2 ⟨rfl, hq2⟩
        have F2 := F.qd hq2
        go_wp2_with fail
        refine (Look_is T1 hS F2.rd HV.out).mono ?_
        rintro e w3 ⟨rfl, hq3⟩
        have F3 := F2.qd hq3
        go_wp2_with fail
        refine (rClass_calls _ _).mono ?_
        rintro e w' ⟨rfl, rfl⟩
        have q6_0 : w3.cell? ⟨w.heap.size + 1 + 1 + 1, 0, none⟩ = some (.int .i64 0) := F3.t6.cell 0 _ rfl
        have qf6_0 := F3.t6.free 0
        go_wp2_with fail
        clear q6_0 qf6_0
        have F9 := F3.setK hlt 2
        generalize (w3.setCell ⟨w.heap.size + 1 + 1 + 1, 0, none⟩ (Value.int IntKind.i64 2)) = w9 at F9 ⊢
        have g6_0 : w9.cell? ⟨w.heap.size + 1 + 1 + 1, 0, none⟩ = some (.int .i64 (2)) := F9.t6.cell 0 _ rfl
        have g6_1 : w9.cell? ⟨w.heap.size + 1 + 1 + 1, 1, none⟩ = some (.string ⟨#[]⟩) := F9.t6.cell 1 _ rfl
        have g6_2 : w9.cell? ⟨w.heap.size + 1 + 1 + 1, 2, none⟩ = some (.int .i64 (along start pre0).b) := F9.t6.cell 2 _ rfl
        have g6_3 : w9.cell? ⟨w.heap.size + 1 + 1 + 1, 3, none⟩ = some (.int .i64 (along start pre0).g) := F9.t6.cell 3 _ rfl
        have g6_4 : w9.cell? ⟨w.heap.size + 1 + 1 + 1, 4, none⟩ = some (.int .i64 (along start pre0).l) := F9.t6.cell 4 _ rfl
        have g6_5 : w9.cell? ⟨w.heap.size + 1 + 1 + 1, 5, none⟩ = some (.int .i64 (along start pre0).c) := F9.t6.cell 5 _ rfl
        have f6_0 := F9.t6.free 0
        have f6_1 := F9.t6.free 1
        have g5_0 : w9.cell? ⟨w.heap.size + 1 + 1, 0, none⟩ = some (.int .i64 (along start pre0).b) := F9.t5.cell 0 _ rfl
        have g5_1 : w9.cell? ⟨w.heap.size + 1 + 1, 1, none⟩ = some (.int .i64 (along start pre0).g) := F9.t5.cell 1 _ rfl
        have g5_2 : w9.cell? ⟨w.heap.size + 1 + 1, 2, none⟩ = some (.int .i64 (along start pre0).l) := F9.t5.cell 2 _ rfl
        have g5_3 : w9.cell? ⟨w.heap.size + 1 + 1, 3, none⟩ = some (.int .i64 (along start pre0).c) := F9.t5.cell 3 _ rfl
        have g2_0 : w9.cell? ⟨w.heap.size, 0, none⟩ = some (.int .i64 0) := F9.t2.cell 0 _ rfl
        have f2_0 := F9.t2.free 0
        have g2_1 : w9.cell? ⟨w.heap.size, 1, none⟩ = some (.string ⟨#[]⟩) := F9.t2.cell 1 _ rfl
        have f2_1 := F9.t2.free 1
        have g2_2 : w9.cell? ⟨w.heap.size, 2, none⟩ = some (.int .i64 0) := F9.t2.cell 2 _ rfl
        have f2_2 := F9.t2.free 2
        have g2_3 : w9.cell? ⟨w.heap.size, 3, none⟩ = some (.int .i64 0) := F9.t2.cell 3 _ rfl
        have f2_3 := F9.t2.free 3
        have g2_4 : w9.cell? ⟨w.heap.size, 4, none⟩ = some (.int .i64 0) := F9.t2.cell 4 _ rfl
        have f2_4 := F9.t2.free 4
        have g2_5 : w9.cell? ⟨w.heap.size, 5, none⟩ = some (.int .i64 0) := F9.t2.cell 5 _ rfl
        have f2_5 := F9.t2.free 5
        have g4_0 : w9.cell? ⟨w.heap.size + 1, 0, none⟩ = some (.int .i64 0) := F9.t4.cell 0 _ rfl
        have f4_0 := F9.t4.free 0
        have g4_1 : w9.cell? ⟨w.heap.size + 1, 1, none⟩ = some (.int .i64 0) := F9.t4.cell 1 _ rfl
        have f4_1 := F9.t4.free 1
        have g4_2 : w9.cell? ⟨w.heap.size + 1, 2, none⟩ = some (.int .i64 0) := F9.t4.cell 2 _ rfl
        have f4_2 := F9.t4.free 2
        have g4_3 : w9.cell? ⟨w.heap.size + 1, 3, none⟩ = some (.int .i64 0) := F9.t4.cell 3 _ rfl
        have f4_3 := F9.t4.free 3
        have hr0 : w9.cell? ⟨b, 0, none⟩ = some (.string S) := Blk.cell F9.rd 0 _ rfl
        have hr1 : w9.cell? ⟨b, 1, none⟩ = some (.int .i64 (along start (pre0 ++ mid)).b) := Blk.cell F9.rd 1 _ rfl
        go_still_tail 12, (by kernel_rfl)
        change wpList _ _ _ _ _ w9.drew
        have F10 := F9.qd ⟨1, rfl⟩
        change TkF w w9.drew w.heap.size b S (pre0 ++ mid) (along start pre0) 2 ⟨#[]⟩ at F10
        generalize w9.drew = w10 at F10 ⊢
        clear F9
        go_wp2_with fail
        refine (bare_calls _ _ hsz).mono ?_
        rintro e w11 ⟨rfl, hq11⟩
        have F11 := F10.qd hq11
        rw [HBR.out]
        have q6_1 : w11.cell? ⟨w.heap.size + 1 + 1 + 1, 1, none⟩ = some (.string ⟨#[]⟩) := F11.t6.cell 1 _ rfl
        have qf6_1 := F11.t6.free 1
        go_wp2_with fail
        have F12 := F11.setS hlt ⟨(decText (digVal mid)).toArray⟩
        refine (Digits_dec _ _ hds).mono ?_
        rintro e w13 ⟨a13, c13, rfl, ho13, hf13⟩
        have F13 := F12.no hf13
        clear q6_1 qf6_1 F10 F11 F12
        go_wp2_with fail
        refine (Big_calls _ _ _ _ _ _ hdl (Nat.le_trans (by simp) hf13.size) ho13).mono ?_
        rintro e w14 ⟨rfl, hf14⟩
        have F14 := F13.no hf14
        clear F13 ho13 hf13 hf14
        have g6_0 : w14.cell? ⟨w.heap.size + 1 + 1 + 1, 0, none⟩ = some (.int .i64 (2)) := F14.t6.cell 0 _ rfl
        have g6_1 : w14.cell? ⟨w.heap.size + 1 + 1 + 1, 1, none⟩ = some (.string ⟨(decText (digVal mid)).toArray⟩) := F14.t6.cell 1 _ rfl
        have g6_2 : w14.cell? ⟨w.heap.size + 1 + 1 + 1, 2, none⟩ = some (.int .i64 (along start pre0).b) := F14.t6.cell 2 _ rfl
        have g6_3 : w14.cell? ⟨w.heap.size + 1 + 1 + 1, 3, none⟩ = some (.int .i64 (along start pre0).g) := F14.t6.cell 3 _ rfl
        have g6_4 : w14.cell? ⟨w.heap.size + 1 + 1 + 1, 4, none⟩ = some (.int .i64 (along start pre0).l) := F14.t6.cell 4 _ rfl
        have g6_5 : w14.cell? ⟨w.heap.size + 1 + 1 + 1, 5, none⟩ = some (.int .i64 (along start pre0).c) := F14.t6.cell 5 _ rfl
        have f6_0 := F14.t6.free 0
        have f6_1 := F14.t6.free 1
        have g5_0 : w14.cell? ⟨w.heap.size + 1 + 1, 0, none⟩ = some (.int .i64 (along start pre0).b) := F14.t5.cell 0 _ rfl
        have g5_1 : w14.cell? ⟨w.heap.size + 1 + 1, 1, none⟩ = some (.int .i64 (along start pre0).g) := F14.t5.cell 1 _ rfl
        have g5_2 : w14.cell? ⟨w.heap.size + 1 + 1, 2, none⟩ = some (.int .i64 (along start pre0).l) := F14.t5.cell 2 _ rfl
        have g5_3 : w14.cell? ⟨w.heap.size + 1 + 1, 3, none⟩ = some (.int .i64 (along start pre0).c) := F14.t5.cell 3 _ rfl
        have g2_0 : w14.cell? ⟨w.heap.size, 0, none⟩ = some (.int .i64 0) := F14.t2.cell 0 _ rfl
        have f2_0 := F14.t2.free 0
        have g2_1 : w14.cell? ⟨w.heap.size, 1, none⟩ = some (.string ⟨#[]⟩) := F14.t2.cell 1 _ rfl
        have f2_1 := F14.t2.free 1
        have g2_2 : w14.cell? ⟨w.heap.size, 2, none⟩ = some (.int .i64 0) := F14.t2.cell 2 _ rfl
        have f2_2 := F14.t2.free 2
        have g2_3 : w14.cell? ⟨w.heap.size, 3, none⟩ = some (.int .i64 0) := F14.t2.cell 3 _ rfl
        have f2_3 := F14.t2.free 3
        have g2_4 : w14.cell? ⟨w.heap.size, 4, none⟩ = some (.int .i64 0) := F14.t2.cell 4 _ rfl
        have f2_4 := F14.t2.free 4
        have g2_5 : w14.cell? ⟨w.heap.size, 5, none⟩ = some (.int .i64 0) := F14.t2.cell 5 _ rfl
        have f2_5 := F14.t2.free 5
        have g4_0 : w14.cell? ⟨w.heap.size + 1, 0, none⟩ = some (.int .i64 0) := F14.t4.cell 0 _ rfl
        have f4_0 := F14.t4.free 0
        have g4_1 : w14.cell? ⟨w.heap.size + 1, 1, none⟩ = some (.int .i64 0) := F14.t4.cell 1 _ rfl
        have f4_1 := F14.t4.free 1
        have g4_2 : w14.cell? ⟨w.heap.size + 1, 2, none⟩ = some (.int .i64 0) := F14.t4.cell 2 _ rfl
        have f4_2 := F14.t4.free 2
        have g4_3 : w14.cell? ⟨w.heap.size + 1, 3, none⟩ = some (.int .i64 0) := F14.t4.cell 3 _ rfl
        have f4_3 := F14.t4.free 3
        by_cases hbig : big (digVal mid) = true
        · have HBG := Lib.hid hbig
          go_wp2_with fail
          go_region
          go_wp2_with fail
          obtain ⟨e1, e2, e3, e4⟩ := F14.exit hlt _ rfl
          refine bodyPost_ret (results_ctc rfl _ _ _ _ _ _ rfl rfl (load_tok e1 rfl) (load_pl e2 rfl)) rfl ?_
          have htk : tk (c :: r) = .bad 2 := by (have h9 := HBG.out; unfold big at h9; rw [tk3 HC.out, HTW.out, if_pos (of_decide_eq_true h9)])
          unfold TokOut
          rw [htk]
          exact ⟨_, _, rfl, e4⟩
        · have hbig : big (digVal mid) = false := by simpa using hbig
          have HBG := Lib.hid hbig
          go_wp2_with fail
          go_region
          go_wp2_with fail
          obtain ⟨e1, e2, e3, e4⟩ := F14.exit hlt _ rfl
          refine bodyPost_ret (results_ctc rfl _ _ _ _ _ _ rfl rfl (load_tok e1 rfl) (load_pl e2 rfl)) rfl ?_
          have htk : tk (c :: r) = .ok 2 (decText (digVal mid)) mid.length := by (have h9 := HBG.out; unfold big at h9; rw [tk3 HC.out, HTW.out, if_neg (of_decide_eq_false h9)])
          unfold TokOut
          rw [htk]
          exact ⟨rfl, by rw [show pre0 ++ (c :: r).take mid.length = pre0 ++ mid from by have h8 := A.out.1; rw [h8]; simp]; exact e3, e4⟩
      · clear hp
        go_wp2_with fail
        refine (Look_is T1 hS F.rd HV.out).mono ?_
        rintro e w2 ⟨rfl, hq2⟩
        have F2 := F.qd hq2
        have q6_0 : w2.cell? ⟨w.heap.size + 1 + 1 + 1, 0, none⟩ = some (.int .i64 0) := F2.t6.cell 0 _ rfl
        have qf6_0 := F2.t6.free 0
        go_wp2_with fail
        clear q6_0 qf6_0
        have F9 := F2.setK hlt 2
        generalize (w2.setCell ⟨w.heap.size + 1 + 1 + 1, 0, none⟩ (Value.int IntKind.i64 2)) = w9 at F9 ⊢
        have g6_0 : w9.cell? ⟨w.heap.size + 1 + 1 + 1, 0, none⟩ = some (.int .i64 (2)) := F9.t6.cell 0 _ rfl
        have g6_1 : w9.cell? ⟨w.heap.size + 1 + 1 + 1, 1, none⟩ = some (.string ⟨#[]⟩) := F9.t6.cell 1 _ rfl
        have g6_2 : w9.cell? ⟨w.heap.size + 1 + 1 + 1, 2, none⟩ = some (.int .i64 (along start pre0).b) := F9.t6.cell 2 _ rfl
        have g6_3 : w9.cell? ⟨w.heap.size + 1 + 1 + 1, 3, none⟩ = some (.int .i64 (along start pre0).g) := F9.t6.cell 3 _ rfl
        have g6_4 : w9.cell? ⟨w.heap.size + 1 + 1 + 1, 4, none⟩ = some (.int .i64 (along start pre0).l) := F9.t6.cell 4 _ rfl
        have g6_5 : w9.cell? ⟨w.heap.size + 1 + 1 + 1, 5, none⟩ = some (.int .i64 (along start pre0).c) := F9.t6.cell 5 _ rfl
        have f6_0 := F9.t6.free 0
        have f6_1 := F9.t6.free 1
        have g5_0 : w9.cell? ⟨w.heap.size + 1 + 1, 0, none⟩ = some (.int .i64 (along start pre0).b) := F9.t5.cell 0 _ rfl
        have g5_1 : w9.cell? ⟨w.heap.size + 1 + 1, 1, none⟩ = some (.int .i64 (along start pre0).g) := F9.t5.cell 1 _ rfl
        have g5_2 : w9.cell? ⟨w.heap.size + 1 + 1, 2, none⟩ = some (.int .i64 (along start pre0).l) := F9.t5.cell 2 _ rfl
        have g5_3 : w9.cell? ⟨w.heap.size + 1 + 1, 3, none⟩ = some (.int .i64 (along start pre0).c) := F9.t5.cell 3 _ rfl
        have g2_0 : w9.cell? ⟨w.heap.size, 0, none⟩ = some (.int .i64 0) := F9.t2.cell 0 _ rfl
        have f2_0 := F9.t2.free 0
        have g2_1 : w9.cell? ⟨w.heap.size, 1, none⟩ = some (.string ⟨#[]⟩) := F9.t2.cell 1 _ rfl
        have f2_1 := F9.t2.free 1
        have g2_2 : w9.cell? ⟨w.heap.size, 2, none⟩ = some (.int .i64 0) := F9.t2.cell 2 _ rfl
        have f2_2 := F9.t2.free 2
        have g2_3 : w9.cell? ⟨w.heap.size, 3, none⟩ = some (.int .i64 0) := F9.t2.cell 3 _ rfl
        have f2_3 := F9.t2.free 3
        have g2_4 : w9.cell? ⟨w.heap.size, 4, none⟩ = some (.int .i64 0) := F9.t2.cell 4 _ rfl
        have f2_4 := F9.t2.free 4
        have g2_5 : w9.cell? ⟨w.heap.size, 5, none⟩ = some (.int .i64 0) := F9.t2.cell 5 _ rfl
        have f2_5 := F9.t2.free 5
        have g4_0 : w9.cell? ⟨w.heap.size + 1, 0, none⟩ = some (.int .i64 0) := F9.t4.cell 0 _ rfl
        have f4_0 := F9.t4.free 0
        have g4_1 : w9.cell? ⟨w.heap.size + 1, 1, none⟩ = some (.int .i64 0) := F9.t4.cell 1 _ rfl
        have f4_1 := F9.t4.free 1
        have g4_2 : w9.cell? ⟨w.heap.size + 1, 2, none⟩ = some (.int .i64 0) := F9.t4.cell 2 _ rfl
        have f4_2 := F9.t4.free 2
        have g4_3 : w9.cell? ⟨w.heap.size + 1, 3, none⟩ = some (.int .i64 0) := F9.t4.cell 3 _ rfl
        have f4_3 := F9.t4.free 3
        have hr0 : w9.cell? ⟨b, 0, none⟩ = some (.string S) := Blk.cell F9.rd 0 _ rfl
        have hr1 : w9.cell? ⟨b, 1, none⟩ = some (.int .i64 (along start (pre0 ++ mid)).b) := Blk.cell F9.rd 1 _ rfl
        go_still_tail 12, (by kernel_rfl)
        change wpList _ _ _ _ _ w9.drew
        have F10 := F9.qd ⟨1, rfl⟩
        change TkF w w9.drew w.heap.size b S (pre0 ++ mid) (along start pre0) 2 ⟨#[]⟩ at F10
        generalize w9.drew = w10 at F10 ⊢
        clear F9
        go_wp2_with fail
        refine (bare_calls _ _ hsz).mono ?_
        rintro e w11 ⟨rfl, hq11⟩
        have F11 := F10.qd hq11
        rw [HBR.out]
        have q6_1 : w11.cell? ⟨w.heap.size + 1 + 1 + 1, 1, none⟩ = some (.string ⟨#[]⟩) := F11.t6.cell 1 _ rfl
        have qf6_1 := F11.t6.free 1
        go_wp2_with fail
        have F12 := F11.setS hlt ⟨(decText (digVal mid)).toArray⟩
        refine (Digits_dec _ _ hds).mono ?_
        rintro e w13 ⟨a13, c13, rfl, ho13, hf13⟩
        have F13 := F12.no hf13
        clear q6_1 qf6_1 F10 F11 F12
        go_wp2_with fail
        refine (Big_calls _ _ _ _ _ _ hdl (Nat.le_trans (by simp) hf13.size) ho13).mono ?_
        rintro e w14 ⟨rfl, hf14⟩
        have F14 := F13.no hf14
        clear F13 ho13 hf13 hf14
        have g6_0 : w14.cell? ⟨w.heap.size + 1 + 1 + 1, 0, none⟩ = some (.int .i64 (2)) := F14.t6.cell 0 _ rfl
        have g6_1 : w14.cell? ⟨w.heap.size + 1 + 1 + 1, 1, none⟩ = some (.string ⟨(decText (digVal mid)).toArray⟩) := F14.t6.cell 1 _ rfl
        have g6_2 : w14.cell? ⟨w.heap.size + 1 + 1 + 1, 2, none⟩ = some (.int .i64 (along start pre0).b) := F14.t6.cell 2 _ rfl
        have g6_3 : w14.cell? ⟨w.heap.size + 1 + 1 + 1, 3, none⟩ = some (.int .i64 (along start pre0).g) := F14.t6.cell 3 _ rfl
        have g6_4 : w14.cell? ⟨w.heap.size + 1 + 1 + 1, 4, none⟩ = some (.int .i64 (along start pre0).l) := F14.t6.cell 4 _ rfl
        have g6_5 : w14.cell? ⟨w.heap.size + 1 + 1 + 1, 5, none⟩ = some (.int .i64 (along start pre0).c) := F14.t6.cell 5 _ rfl
        have f6_0 := F14.t6.free 0
        have f6_1 := F14.t6.free 1
        have g5_0 : w14.cell? ⟨w.heap.size + 1 + 1, 0, none⟩ = some (.int .i64 (along start pre0).b) := F14.t5.cell 0 _ rfl
        have g5_1 : w14.cell? ⟨w.heap.size + 1 + 1, 1, none⟩ = some (.int .i64 (along start pre0).g) := F14.t5.cell 1 _ rfl
        have g5_2 : w14.cell? ⟨w.heap.size + 1 + 1, 2, none⟩ = some (.int .i64 (along start pre0).l) := F14.t5.cell 2 _ rfl
        have g5_3 : w14.cell? ⟨w.heap.size + 1 + 1, 3, none⟩ = some (.int .i64 (along start pre0).c) := F14.t5.cell 3 _ rfl
        have g2_0 : w14.cell? ⟨w.heap.size, 0, none⟩ = some (.int .i64 0) := F14.t2.cell 0 _ rfl
        have f2_0 := F14.t2.free 0
        have g2_1 : w14.cell? ⟨w.heap.size, 1, none⟩ = some (.string ⟨#[]⟩) := F14.t2.cell 1 _ rfl
        have f2_1 := F14.t2.free 1
        have g2_2 : w14.cell? ⟨w.heap.size, 2, none⟩ = some (.int .i64 0) := F14.t2.cell 2 _ rfl
        have f2_2 := F14.t2.free 2
        have g2_3 : w14.cell? ⟨w.heap.size, 3, none⟩ = some (.int .i64 0) := F14.t2.cell 3 _ rfl
        have f2_3 := F14.t2.free 3
        have g2_4 : w14.cell? ⟨w.heap.size, 4, none⟩ = some (.int .i64 0) := F14.t2.cell 4 _ rfl
        have f2_4 := F14.t2.free 4
        have g2_5 : w14.cell? ⟨w.heap.size, 5, none⟩ = some (.int .i64 0) := F14.t2.cell 5 _ rfl
        have f2_5 := F14.t2.free 5
        have g4_0 : w14.cell? ⟨w.heap.size + 1, 0, none⟩ = some (.int .i64 0) := F14.t4.cell 0 _ rfl
        have f4_0 := F14.t4.free 0
        have g4_1 : w14.cell? ⟨w.heap.size + 1, 1, none⟩ = some (.int .i64 0) := F14.t4.cell 1 _ rfl
        have f4_1 := F14.t4.free 1
        have g4_2 : w14.cell? ⟨w.heap.size + 1, 2, none⟩ = some (.int .i64 0) := F14.t4.cell 2 _ rfl
        have f4_2 := F14.t4.free 2
        have g4_3 : w14.cell? ⟨w.heap.size + 1, 3, none⟩ = some (.int .i64 0) := F14.t4.cell 3 _ rfl
        have f4_3 := F14.t4.free 3
        by_cases hbig : big (digVal mid) = true
        · have HBG := Lib.hid hbig
          go_wp2_with fail
          go_region
          go_wp2_with fail
          obtain ⟨e1, e2, e3, e4⟩ := F14.exit hlt _ rfl
          refine bodyPost_ret (results_ctc rfl _ _ _ _ _ _ rfl rfl (load_tok e1 rfl) (load_pl e2 rfl)) rfl ?_
          have htk : tk (c :: r) = .bad 2 := by (have h9 := HBG.out; unfold big at h9; rw [tk3 HC.out, HTW.out, if_pos (of_decide_eq_true h9)])
          unfold TokOut
          rw [htk]
          exact ⟨_, _, rfl, e4⟩
        · have hbig : big (digVal mid) = false := by simpa using hbig
          have HBG := Lib.hid hbig
          go_wp2_with fail
          go_region
          go_wp2_with fail
          obtain ⟨e1, e2, e3, e4⟩ := F14.exit hlt _ rfl
          refine bodyPost_ret (results_ctc rfl _ _ _ _ _ _ rfl rfl (load_tok e1 rfl) (load_pl e2 rfl)) rfl ?_
          have htk : tk (c :: r) = .ok 2 (decText (digVal mid)) mid.length := by (have h9 := HBG.out; unfold big at h9; rw [tk3 HC.out, HTW.out, if_neg (of_decide_eq_false h9)])
          unfold TokOut
          rw [htk]
          exact ⟨rfl, by rw [show pre0 ++ (c :: r).take mid.length = pre0 ++ mid from by have h8 := A.out.1; rw [h8]; simp]; exact e3, e4⟩

end Go.Proofs.YtklhfbgmadblcaaDoor
