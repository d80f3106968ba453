/- The walk of GlyphAgain. -/
import Derived.Test.YtklhfbgmadblcaaDoorS2
import Derived.Test.YtklhfbgmadblcaaDoorL5
namespace Go.Proofs.YtklhfbgmadblcaaDoor
open Go.RowKit
set_option linter.unusedVariables false
set_option linter.unusedSimpArgs false
attribute [local go_sem ↓] Go.wp_at_zero Go.wp_at_succ

theorem joinT_len (l : List Tok) (h : ∀ x ∈ l, x.text.length ≤ 1024) : (joinT l).length ≤ 1025 * l.length := by
  induction l with
  | nil => simp [joinT]
  | cons y l ih =>
    have h1 := h y (by simp)
    have h2 := ih (fun x hx => h x (by simp [hx]))
    cases l with
    | nil => simp [joinT]; omega
    | cons z l => simp only [joinT, List.length_append, List.length_cons] at *; omega
theorem and_mask (n : Int) : ∃ m : Nat, bits .and .i64 n 4611686018427387903 = (m : Int) ∧ m ≤ 4611686018427387903 := by
  have h : (BitVec.ofInt 64 n &&& BitVec.ofInt 64 4611686018427387903).toNat ≤ 4611686018427387903 := by
    rw [BitVec.toNat_and]
    exact Nat.le_trans Nat.and_le_right (by decide)
  refine ⟨(BitVec.ofInt 64 n &&& BitVec.ofInt 64 4611686018427387903).toNat, ?_, h⟩
  show IntKind.i64.wrap ((BitVec.ofInt 64 n &&& BitVec.ofInt 64 4611686018427387903).toNat : Int) = _
  generalize (BitVec.ofInt 64 n &&& BitVec.ofInt 64 4611686018427387903).toNat = k at *
  rw [IntKind.wrap_i64]
  omega
/-- what of a comment is printed -/
def printed (l : List UInt8) : List UInt8 := l.filter fun b => decide (32 ≤ b.toNat ∧ b.toNat < 127)
theorem printed_ok (l : List UInt8) : ∀ b ∈ printed l, 32 ≤ b.toNat ∧ b.toNat < 127 := by
  intro b hb; unfold printed at hb; rw [List.mem_filter] at hb; simpa using hb.2
theorem printed_len (l : List UInt8) : (printed l).length ≤ l.length := List.length_filter_le ..

theorem printed_snoc (c : ByteArray) (k : Nat) (h : k < c.size) : printed (c.data.toList.take (k + 1)) = printed (c.data.toList.take k) ++ (if 32 ≤ (c[k]).toNat ∧ (c[k]).toNat < 127 then [c[k]] else []) := by
  have e : c.data.toList.take (k + 1) = c.data.toList.take k ++ [c[k]] := by rw [List.take_succ_eq_append_getElem (by rw [← Lib.size_eq]; exact h)]; rfl
  rw [e]
  unfold printed
  rw [List.filter_append]
  by_cases hp : 32 ≤ (c[k]).toNat ∧ (c[k]).toNat < 127
  · rw [if_pos hp]; simp [hp]
  · rw [if_neg hp]; simp [hp]
theorem extract_one (c : ByteArray) (k : Nat) (h : k < c.size) : c.extract k (k + 1) = ⟨#[c[k]]⟩ := by
  apply ByteArray.ext
  apply Array.ext'
  rw [Lib.extract_data, show k + 1 - k = 1 by omega, List.drop_eq_getElem_cons (by rw [← Lib.size_eq]; exact h)]
  rfl

theorem again_list (s : ByteArray) (C : List UInt8) (k : Nat) : (s.extract 0 k ++ (⟨#[9, 32, 35]⟩ : ByteArray) ++ ⟨C.toArray⟩ ++ (⟨#[10, 32, 227, 128, 128]⟩ : ByteArray) ++ s.extract k s.size).data.toList =
    s.data.toList.take k ++ ([9, 32, 35] ++ C ++ [10, 32, 227, 128, 128]) ++ s.data.toList.drop k := by
  have e1 : (s.extract 0 k).data.toList = s.data.toList.take k := by rw [Lib.extract_data]; simp
  have e2 : (s.extract k s.size).data.toList = s.data.toList.drop k := by
    rw [Lib.extract_data, List.take_of_length_le (by rw [List.length_drop, ← Lib.size_eq]; exact Nat.le_refl _)]
  simp only [ByteArray.data_append, Array.toList_append, e1, e2]
  simp

set_option maxRecDepth 100000 in
set_option maxHeartbeats 4000000 in
theorem law_again (s : ByteArray) (hs : s.size ≤ maxLen) (n : Int) (com : ByteArray) (hc : com.size ≤ maxLen) (hcr : com.size ≤ 140737488351232) (w : World) (hT : Tb w) : Calls Tryd.prog 11 #[.string s, .int .i64 n, .string com] w fun e w' => e = .returned (.bool true) ∧ Fr No w w' := by
  cases hR : scanS s.data.toList with
  | bad k p =>
    have hk := scanS_bad_ne hR
    have hz : (k != 0) = true := by simpa using hk
    have HR := Lib.hid hR
    clear hR hk
    go_enter Tryd.func11, Tryd.ntmps11
    go_wp2_with fail
    refine (awake_calls w hT).mono ?_
    rintro e w1 ⟨rfl, hf⟩
    go_wp2_with fail
    refine (Scan_any s _ (hT.no hf) hs).mono ?_
    rw [HR.out]
    rintro e w2 ⟨a1, c1, rfl, ho1, hf1⟩
    simp only [Res.toks, Res.code, Res.pl, plA]
    go_wp2
    go_ret
    exact ⟨by simp, (hf.callNo hf1).alloc _⟩
  | ok l =>
    have hln : l.length ≤ 4097 := by have := scan_len s.data.toList; rw [hR] at this; exact this
    have hsc := (scanS_ok hR).2.2
    have hl0 : 0 < l.length := List.length_pos_iff.2 (sc_ne hsc)
    have htx := sc_text hsc
    have hjl := joinT_len l (fun x hx => (htx x hx).1)
    have hjw := fun h => joins_law hR h
    have HR := Lib.hid hR
    have HJW := Lib.hid hjw
    clear hR hsc htx hjw
    go_enter Tryd.func11, Tryd.ntmps11
    go_wp2_with fail
    refine (awake_calls w hT).mono ?_
    rintro e w1 ⟨rfl, hf⟩
    go_wp2_with fail
    refine (Scan_any s _ (hT.no hf) hs).mono ?_
    rw [HR.out]
    rintro e w2 ⟨a1, c1, rfl, ho1, hf1⟩
    simp only [Res.toks, Res.code, Res.pl, plA] at ho1 ⊢
    have ho2 := ho1.alloc (.cells #[.int .i64 zeroPl.b, .int .i64 zeroPl.g, .int .i64 zeroPl.l, .int .i64 zeroPl.c] 27 (0, 0))
    have hf2 := (hf.callNo hf1).alloc (.cells #[.int .i64 zeroPl.b, .int .i64 zeroPl.g, .int .i64 zeroPl.l, .int .i64 zeroPl.c] 27 (0, 0))
    clear ho1 hf1 hf
    go_wp2_with fail
    refine (Join_calls l _ _ _ _ (by omega) (by omega) ho2).mono ?_
    rintro e w3 ⟨rfl, hf3⟩
    have ho3 := own_fr ho2 hf3 (fun _ _ x => x)
    have hf4 := hf2.callNo hf3
    clear ho2 hf2 hf3
    generalize joinT l = J at *
    have hJ : (⟨J.toArray⟩ : ByteArray).size = J.length := by rw [Lib.size_eq]
    have hmx : (⟨J.toArray⟩ : ByteArray).size ≤ maxLen := by rw [hJ]; unfold maxLen; omega
    have HJ := Lib.hid hJ
    clear hJ
    have hT4 := hT.no hf4
    by_cases hle : J.length ≤ 4096
    · obtain ⟨l', h1, h2⟩ := HJW.out hle
      have hl' : l'.length = l.length := by simpa using congrArg List.length h2
      have H1 := Lib.hid (And.intro h1 (And.intro h2 hl'))
      have hd : decide (((⟨J.toArray⟩ : ByteArray).size : Int) ≤ 4096) = true := by rw [HJ.out]; simp; omega
      clear h1 h2 hl'
      go_wp2_with fail
      refine (Scan_any _ _ hT4 hmx).mono ?_
      rw [show (⟨J.toArray⟩ : ByteArray).data.toList = J from rfl, H1.out.1]
      rintro e w4 ⟨a2, c2, rfl, ho4, hf5⟩
      simp only [Res.toks, Res.code, Res.pl, plA] at ho4 ⊢
      have ho5 := own_fr ho3 hf5 (fun _ _ x => x)
      have hf6 := hf4.callNo hf5
      go_wp2_with fail
      refine (alike_true l' l _ _ _ _ _ _ _ (by have := H1.out.2.2; omega) H1.out.2.1 (ho4.alloc _) (ho5.alloc _)).mono ?_
      rintro e w6 ⟨rfl, hf7⟩
      have ho6 := own_fr (ho5.alloc _) hf7 (fun _ _ x => x)
      have hf8 := (hf6.alloc _).callNo hf7
      clear ho3 hf4 hT4 ho4 ho5 hf5 hf6 hf7
      go_wp2_with fail
      go_loop [14, 15] (fun sv i => ∃ k : Nat, k ≤ com.size ∧ i = .int .i64 k ∧ sv = .string ⟨(printed (com.data.toList.take k)).toArray⟩) (fun _ i => com.size - (intOf i).toNat)
      case atStart => exact ⟨0, by omega, rfl, rfl⟩
      case round =>
        obtain ⟨k, hk, rfl, rfl⟩ := hrel
        by_cases hlt : k < com.size
        · have hpl := printed_len (com.data.toList.take k)
          have htl : (com.data.toList.take k).length ≤ k := List.length_take_le _ _
          have hpe := printed_snoc com k hlt
          have HPE := Lib.hid hpe
          have hsl := extract_one com k hlt
          clear hpe
          by_cases hp : 32 ≤ (com[k]).toNat ∧ (com[k]).toNat < 127
          · obtain ⟨p1, p2⟩ := hp
            go_wp2
            refine ⟨⟨k + 1, by omega, by go_num, congrArg Value.string ?_⟩, by simp [intOf]; omega⟩
            rw [HPE.out, if_pos ⟨p1, p2⟩]
            apply ByteArray.ext
            simp
          · have HP := Lib.hid hp
            by_cases hp1 : 32 ≤ (com[k]).toNat
            · have hp2 : 127 ≤ (com[k]).toNat := by omega
              clear hp
              go_wp2
              refine ⟨⟨k + 1, by omega, by go_num, congrArg Value.string ?_⟩, by simp [intOf]; omega⟩
              rw [HPE.out, if_neg HP.out, List.append_nil]
            · clear hp
              go_wp2
              refine ⟨⟨k + 1, by omega, by go_num, congrArg Value.string ?_⟩, by simp [intOf]; omega⟩
              rw [HPE.out, if_neg HP.out, List.append_nil]
        · obtain rfl : k = com.size := by omega
          have hct : com.data.toList.take com.size = com.data.toList := List.take_of_length_le (by rw [Lib.size_eq]; omega)
          rw [hct]
          clear hct
          have hT6 := hT.no hf8
          have hpl := printed_len com.data.toList
          rw [← Lib.size_eq] at hpl
          have hpo := printed_ok com.data.toList
          generalize printed com.data.toList = C at *
          rcases own_cases ho6 with ⟨_, hn0, _⟩ | ⟨g, d, hs1, hgB, hgl, _⟩
          · omega
          simp only [Value.slice.injEq] at hs1
          obtain ⟨rfl, _, rfl⟩ := hs1
          obtain ⟨m, hm1, hm2⟩ := and_mask n
          have hml : m % l.length < l.length := Nat.mod_lt _ hl0
          obtain ⟨x, hx⟩ : ∃ x, l[m % l.length]? = some x := ⟨l[m % l.length], List.getElem?_eq_getElem hml⟩
          have hxb := (tok_at ho6 hx).b
          have hil := insert_law HR.out hml hpo
          have hxe : l[m % l.length] = x := (List.getElem?_eq_some_iff.1 hx).2
          rw [hxe] at hil
          obtain ⟨hib, hil⟩ := hil
          rw [← Lib.size_eq] at hib
          have hsz : s.size ≤ 4096 := by have := (scanS_ok HR.out).1; rw [← Lib.size_eq] at this; exact this
          have hCs : (⟨C.toArray⟩ : ByteArray).size = C.length := by rw [Lib.size_eq]
          have HIL := Lib.hid hil
          have HCS := Lib.hid hCs
          clear hil hxe hx hCs hpo
          generalize x.at_.b = at0 at *
          have ib : (at0 : Int) ≤ (s.size : Int) := by omega
          go_wp2_with fail
          go_quiet (fail)
          have hSL := again_list s C at0
          have hf9 := hf8.drewN nq
          have ho9 : (w6.drewN nq).ownsRow w1.heap.size 37 6 (.slice (some ⟨g, 0, none⟩) l.length c1) l.length (toksV l) := ho6
          have hT9 := hT.no hf9
          go_wp2_with fail
          generalize s.extract 0 at0 ++ (⟨#[9, 32, 35]⟩ : ByteArray) ++ ⟨C.toArray⟩ ++ (⟨#[10, 32, 227, 128, 128]⟩ : ByteArray) ++ s.extract at0 s.size = S3 at hSL ⊢
          generalize w6.drewN nq = w7 at *
          have hq := HIL.out
          rw [← hSL] at hq
          have hS3 := Lib.size_eq S3
          have hS3l : S3.size ≤ 200000000000000 := by
            rw [hS3, hSL]
            simp only [List.length_append, List.length_take, List.length_drop, List.length_cons, List.length_nil, ← Lib.size_eq]
            omega
          have hmx3 : S3.size ≤ maxLen := by unfold maxLen; omega
          clear HIL hT6 hf8 ho6
          have HSL := Lib.hid hSL
          clear hSL
          by_cases h3 : S3.size ≤ 4096
          · obtain ⟨l3, k1, k2⟩ := hq (by omega)
            have k3 : l3.length = l.length := by simpa using congrArg List.length k2
            have K := Lib.hid (And.intro k1 (And.intro k2 k3))
            have hd3 : decide ((4096 : Int) < (S3.size : Int)) = false := by simp; omega
            clear hq k1 k2 k3 hS3
            refine (Scan_any _ _ hT9 hmx3).mono ?_
            rw [K.out.1]
            rintro e w8 ⟨a3, c3, rfl, hoA, hfA⟩
            simp only [Res.toks, Res.code, Res.pl, plA] at hoA ⊢
            have hoB := own_fr ho9 hfA (fun _ _ x => x)
            have hfB := hf9.callNo hfA
            go_wp2_with fail
            refine (alike_true l3 l _ _ _ _ _ _ _ (by have := K.out.2.2; omega) K.out.2.1 hoA hoB).mono ?_
            rintro e w9 ⟨rfl, hfC⟩
            go_wp2
            go_ret
            exact ⟨by simp, hfB.callNo hfC⟩
          · have hbad3 : scanS S3.data.toList = .bad 2 zeroPl := if_pos (by omega)
            have HB3 := Lib.hid hbad3
            have hd3 : decide ((4096 : Int) < (S3.size : Int)) = true := by simp; omega
            clear hbad3 hq hS3
            refine (Scan_any _ _ hT9 hmx3).mono ?_
            rw [HB3.out]
            rintro e w8 ⟨a3, c3, rfl, hoA, hfA⟩
            simp only [Res.toks, Res.code, Res.pl, plA] at hoA ⊢
            have hfB := hf9.callNo hfA
            go_wp2
            go_ret
            exact ⟨by simp, hfB⟩
    · have hbad : scanS J = .bad 2 zeroPl := if_pos (by omega)
      have HB := Lib.hid hbad
      have hd : decide (((⟨J.toArray⟩ : ByteArray).size : Int) ≤ 4096) = false := by rw [HJ.out]; simp; omega
      clear hbad
      go_wp2_with fail
      refine (Scan_any _ _ hT4 hmx).mono ?_
      rw [show (⟨J.toArray⟩ : ByteArray).data.toList = J from rfl, HB.out]
      rintro e w5 ⟨a2, c2, rfl, ho4, hf5⟩
      simp only [Res.toks, Res.code, Res.pl, plA] at ho4 ⊢
      have ho6 := (own_fr ho3 hf5 (fun _ _ x => x)).alloc (.cells #[.int .i64 zeroPl.b, .int .i64 zeroPl.g, .int .i64 zeroPl.l, .int .i64 zeroPl.c] 27 (0, 0))
      have hf8 := (hf4.callNo hf5).alloc (.cells #[.int .i64 zeroPl.b, .int .i64 zeroPl.g, .int .i64 zeroPl.l, .int .i64 zeroPl.c] 27 (0, 0))
      clear ho3 hf4 hT4 ho4 hf5
      go_wp2_with fail
      generalize w5.alloc (.cells #[.int .i64 zeroPl.b, .int .i64 zeroPl.g, .int .i64 zeroPl.l, .int .i64 zeroPl.c] 27 (0, 0)) = w6 at ho6 hf8 ⊢
      go_loop [14, 15] (fun sv i => ∃ k : Nat, k ≤ com.size ∧ i = .int .i64 k ∧ sv = .string ⟨(printed (com.data.toList.take k)).toArray⟩) (fun _ i => com.size - (intOf i).toNat)
      case atStart => exact ⟨0, by omega, rfl, rfl⟩
      case round =>
        obtain ⟨k, hk, rfl, rfl⟩ := hrel
        by_cases hlt : k < com.size
        · have hpl := printed_len (com.data.toList.take k)
          have htl : (com.data.toList.take k).length ≤ k := List.length_take_le _ _
          have hpe := printed_snoc com k hlt
          have HPE := Lib.hid hpe
          have hsl := extract_one com k hlt
          clear hpe
          by_cases hp : 32 ≤ (com[k]).toNat ∧ (com[k]).toNat < 127
          · obtain ⟨p1, p2⟩ := hp
            go_wp2
            refine ⟨⟨k + 1, by omega, by go_num, congrArg Value.string ?_⟩, by simp [intOf]; omega⟩
            rw [HPE.out, if_pos ⟨p1, p2⟩]
            apply ByteArray.ext
            simp
          · have HP := Lib.hid hp
            by_cases hp1 : 32 ≤ (com[k]).toNat
            · have hp2 : 127 ≤ (com[k]).toNat := by omega
              clear hp
              go_wp2
              refine ⟨⟨k + 1, by omega, by go_num, congrArg Value.string ?_⟩, by simp [intOf]; omega⟩
              rw [HPE.out, if_neg HP.out, List.append_nil]
            · clear hp
              go_wp2
              refine ⟨⟨k + 1, by omega, by go_num, congrArg Value.string ?_⟩, by simp [intOf]; omega⟩
              rw [HPE.out, if_neg HP.out, List.append_nil]
        · obtain rfl : k = com.size := by omega
          have hct : com.data.toList.take com.size = com.data.toList := List.take_of_length_le (by rw [Lib.size_eq]; omega)
          rw [hct]
          clear hct
          have hT6 := hT.no hf8
          have hpl := printed_len com.data.toList
          rw [← Lib.size_eq] at hpl
          have hpo := printed_ok com.data.toList
          generalize printed com.data.toList = C at *
          rcases own_cases ho6 with ⟨_, hn0, _⟩ | ⟨g, d, hs1, hgB, hgl, _⟩
          · omega
          simp only [Value.slice.injEq] at hs1
          obtain ⟨rfl, _, rfl⟩ := hs1
          obtain ⟨m, hm1, hm2⟩ := and_mask n
          have hml : m % l.length < l.length := Nat.mod_lt _ hl0
          obtain ⟨x, hx⟩ : ∃ x, l[m % l.length]? = some x := ⟨l[m % l.length], List.getElem?_eq_getElem hml⟩
          have hxb := (tok_at ho6 hx).b
          have hil := insert_law HR.out hml hpo
          have hxe : l[m % l.length] = x := (List.getElem?_eq_some_iff.1 hx).2
          rw [hxe] at hil
          obtain ⟨hib, hil⟩ := hil
          rw [← Lib.size_eq] at hib
          have hsz : s.size ≤ 4096 := by have := (scanS_ok HR.out).1; rw [← Lib.size_eq] at this; exact this
          have hCs : (⟨C.toArray⟩ : ByteArray).size = C.length := by rw [Lib.size_eq]
          have HIL := Lib.hid hil
          have HCS := Lib.hid hCs
          clear hil hxe hx hCs hpo
          generalize x.at_.b = at0 at *
          have ib : (at0 : Int) ≤ (s.size : Int) := by omega
          go_wp2_with fail
          go_quiet (fail)
          have hSL := again_list s C at0
          have hf9 := hf8.drewN nq
          have ho9 : (w6.drewN nq).ownsRow w1.heap.size 37 6 (.slice (some ⟨g, 0, none⟩) l.length c1) l.length (toksV l) := ho6
          have hT9 := hT.no hf9
          go_wp2_with fail
          generalize s.extract 0 at0 ++ (⟨#[9, 32, 35]⟩ : ByteArray) ++ ⟨C.toArray⟩ ++ (⟨#[10, 32, 227, 128, 128]⟩ : ByteArray) ++ s.extract at0 s.size = S3 at hSL ⊢
          generalize w6.drewN nq = w7 at *
          have hq := HIL.out
          rw [← hSL] at hq
          have hS3 := Lib.size_eq S3
          have hS3l : S3.size ≤ 200000000000000 := by
            rw [hS3, hSL]
            simp only [List.length_append, List.length_take, List.length_drop, List.length_cons, List.length_nil, ← Lib.size_eq]
            omega
          have hmx3 : S3.size ≤ maxLen := by unfold maxLen; omega
          clear HIL hT6 hf8 ho6
          have HSL := Lib.hid hSL
          clear hSL
          by_cases h3 : S3.size ≤ 4096
          · obtain ⟨l3, k1, k2⟩ := hq (by omega)
            have k3 : l3.length = l.length := by simpa using congrArg List.length k2
            have K := Lib.hid (And.intro k1 (And.intro k2 k3))
            have hd3 : decide ((4096 : Int) < (S3.size : Int)) = false := by simp; omega
            clear hq k1 k2 k3 hS3
            refine (Scan_any _ _ hT9 hmx3).mono ?_
            rw [K.out.1]
            rintro e w8 ⟨a3, c3, rfl, hoA, hfA⟩
            simp only [Res.toks, Res.code, Res.pl, plA] at hoA ⊢
            have hoB := own_fr ho9 hfA (fun _ _ x => x)
            have hfB := hf9.callNo hfA
            go_wp2_with fail
            refine (alike_true l3 l _ _ _ _ _ _ _ (by have := K.out.2.2; omega) K.out.2.1 hoA hoB).mono ?_
            rintro e w9 ⟨rfl, hfC⟩
            go_wp2
            go_ret
            exact ⟨by simp, hfB.callNo hfC⟩
          · have hbad3 : scanS S3.data.toList = .bad 2 zeroPl := if_pos (by omega)
            have HB3 := Lib.hid hbad3
            have hd3 : decide ((4096 : Int) < (S3.size : Int)) = true := by simp; omega
            clear hbad3 hq hS3
            refine (Scan_any _ _ hT9 hmx3).mono ?_
            rw [HB3.out]
            rintro e w8 ⟨a3, c3, rfl, hoA, hfA⟩
            simp only [Res.toks, Res.code, Res.pl, plA] at hoA ⊢
            have hfB := hf9.callNo hfA
            go_wp2
            go_ret
            exact ⟨by simp, hfB⟩
end Go.Proofs.YtklhfbgmadblcaaDoor
