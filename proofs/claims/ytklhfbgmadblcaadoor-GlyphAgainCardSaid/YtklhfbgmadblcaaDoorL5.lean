/- The walk of GlyphSigns. -/
import Derived.Test.YtklhfbgmadblcaaDoorP4
namespace Go.Proofs.YtklhfbgmadblcaaDoor
open Go.RowKit
set_option linter.unusedVariables false
set_option linter.unusedSimpArgs false
set_option exponentiation.threshold 2000
attribute [local go_sem ↓] Go.wp_at_zero Go.wp_at_succ

theorem scan_bad_ne : ∀ (n : Nat) (brk : Bool) (pre cs : List Nat) (e : Int) (p : Pl), cs.length < n → scan brk n pre cs = .bad e p → e ≠ 0
  | 0, brk, pre, cs, e, p, hn, h => by omega
  | n + 1, brk, pre, cs, e, p, hn, h => by
    simp only [scan] at h
    split at h
    · split at h
      · cases h; omega
      · cases h
    · rename_i c r hs
      have hle := skipC_le cs false
      rw [hs] at hle
      simp at hle
      split at h
      · rename_i e1 ht
        cases h
        have := tk_bad ht
        omega
      · rename_i k x m ht
        have hm := (tk_ok ht).1
        cases hR : scan brk n (pre ++ skipped cs ++ (c :: r).take m) ((c :: r).drop m) with
        | ok l => rw [hR] at h; cases h
        | bad e1 p1 =>
          rw [hR] at h
          simp only [Res.cons, Res.bad.injEq] at h
          rw [← h.1]
          exact scan_bad_ne n brk _ _ e1 p1 (by simp; omega) hR
theorem scanS_bad_ne {l : List UInt8} {e : Int} {p : Pl} (h : scanS l = .bad e p) : e ≠ 0 := by
  unfold scanS at h
  split at h
  · cases h; omega
  · exact scan_bad_ne _ _ _ _ _ _ (by omega) h
theorem tk_text {c : Nat} {r : List Nat} {k : Int} {x : List UInt8} {m : Nat} (h : tk (c :: r) = .ok k x m) : x.length ≤ 1024 := by
  rcases tk_kind h with ⟨rfl, hx, h2⟩ | ⟨rfl, v, hv, rfl⟩ | ⟨rfl, hx⟩
  · simp only [tk] at h
    rw [if_pos h2] at h
    split at h
    · cases h
    · rename_i h16
      cases h
      have : ∀ l : List Nat, (l.flatMap enc).length ≤ 4 * l.length := by
        intro l
        induction l with
        | nil => simp
        | cons d l ih => have := enc_le d; simp only [List.flatMap_cons, List.length_append, List.length_cons]; omega
      have := this ((c :: r).takeWhile part)
      omega
  · unfold decText
    split
    · simp
    · rw [List.length_map, List.length_reverse, dig_len_le (by omega)]
      exact Nat.lt_of_lt_of_le hv (Nat.pow_le_pow_left (by omega) _)
  · simp only [signTexts, List.mem_cons, List.not_mem_nil, or_false] at hx
    rcases hx with rfl | rfl | rfl | rfl | rfl | rfl | rfl | rfl | rfl | rfl | rfl | rfl | rfl | rfl | rfl | rfl <;> simp
theorem sc_text {pre cs : List Nat} {l : List Tok} (h : SC pre cs l) : ∀ x ∈ l, x.text.length ≤ 1024 ∧ (x.kind = 3 → x.text ∈ signTexts) := by
  induction h with
  | done h => intro x hx; simp at hx; subst hx; exact ⟨by simp, fun h => by cases h⟩
  | step h ht hl ih =>
    intro x hx
    rcases List.mem_cons.1 hx with rfl | hx
    · refine ⟨tk_text ht, fun hk => ?_⟩
      rcases tk_kind ht with ⟨h1, _⟩ | ⟨h1, _⟩ | ⟨_, h1⟩
      · simp at hk; omega
      · simp at hk; omega
      · exact h1
    · exact ih x hx
theorem alt_len {odd : Bool} {k : Int} {x : List UInt8} (h : x.length ≤ 1024) : (alt odd k x).length ≤ 1024 := by
  unfold alt
  repeat' split
  all_goals first | exact h | (have := enc_le 8722; have := enc_le 183; have := enc_le 215; have := enc_le 247; have := enc_le 8788; have := enc_le 8800; omega)
theorem signsText_snoc (i : Nat) (l : List Tok) (x : Tok) : signsText i (l ++ [x]) = signsText i l ++ (alt ((i + l.length) % 2 == 1) x.kind x.text ++ [194, 160]) := by
  induction l generalizing i with
  | nil => simp [signsText]
  | cons y l ih => simp only [List.cons_append, signsText, ih, List.length_cons, List.append_assoc]; rw [show i + 1 + l.length = i + (l.length + 1) by omega]
theorem signsText_len (i : Nat) (l : List Tok) (h : ∀ x ∈ l, x.text.length ≤ 1024) : (signsText i l).length ≤ 1026 * l.length := by
  induction l generalizing i with
  | nil => simp [signsText]
  | cons y l ih =>
    have h1 := alt_len (odd := i % 2 == 1) (k := y.kind) (h y (by simp))
    have h2 := ih (i + 1) (fun x hx => h x (by simp [hx]))
    simp only [signsText, List.length_append, List.length_cons, List.length_nil]
    omega

theorem ba3 (a y z : List UInt8) : (⟨a.toArray⟩ : ByteArray) ++ ⟨y.toArray⟩ ++ ⟨z.toArray⟩ = ⟨(a ++ (y ++ z)).toArray⟩ := by
  apply ByteArray.ext
  simp
theorem i64_and_one (a : Nat) (ha : a ≤ 1000000) : bits .and .i64 (a : Int) 1 = ((a % 2 : Nat) : Int) := by
  have h1 : (BitVec.ofInt 64 (a : Int)).toNat = a := by
    rw [BitVec.ofInt_natCast, BitVec.toNat_ofNat]; exact Nat.mod_eq_of_lt (by omega)
  show IntKind.i64.wrap ((BitVec.ofInt 64 (a : Int) &&& BitVec.ofInt 64 1).toNat : Int) = _
  rw [BitVec.toNat_and, h1, show (BitVec.ofInt 64 1).toNat = 1 from rfl, Nat.and_one_is_mod, IntKind.wrap_i64]
  omega

set_option maxRecDepth 100000 in
set_option maxHeartbeats 4000000 in
theorem law_signs (s : ByteArray) (hs : s.size ≤ maxLen) (w : World) (hT : Tb w) : Calls Tryd.prog 5 #[.string s] w fun e w' => e = .returned (.bool true) ∧ Fr No w w' := by
  have hS := Scan_any s
  cases hR : scanS s.data.toList with
  | bad n p =>
    have hn := scanS_bad_ne hR
    have hz : (n != 0) = true := by simpa using hn
    have HR := Lib.hid hR
    clear hR hn
    go_enter Tryd.func5, Tryd.ntmps5
    go_wp2_with fail
    refine (awake_calls w hT).mono ?_
    rintro e w1 ⟨rfl, hf⟩
    go_wp2_with fail
    refine (Scan_any s _ (hT.no hf) hs).mono ?_
    rw [HR.out]
    rintro e w2 ⟨a1, c1, rfl, ho1, hf1⟩
    simp only [Res.toks, Res.code, Res.pl, plA]
    go_wp2
    go_ret
    exact ⟨rfl, (hf.callNo hf1).alloc _⟩
  | ok l =>
    have HR := Lib.hid hR
    clear hR
    go_enter Tryd.func5, Tryd.ntmps5
    go_wp2_with fail
    refine (awake_calls w hT).mono ?_
    rintro e w1 ⟨rfl, hf⟩
    go_wp2_with fail
    refine (Scan_any s _ (hT.no hf) hs).mono ?_
    rw [HR.out]
    rintro e w2 ⟨a1, c1, rfl, ho1, hf1⟩
    simp only [Res.toks, Res.code, Res.pl, plA] at ho1 ⊢
    go_wp2_with fail
    have ho2 := ho1.alloc (.cells #[.int .i64 zeroPl.b, .int .i64 zeroPl.g, .int .i64 zeroPl.l, .int .i64 zeroPl.c] 27 (0, 0))
    have hf2 := (hf.callNo hf1).alloc (.cells #[.int .i64 zeroPl.b, .int .i64 zeroPl.g, .int .i64 zeroPl.l, .int .i64 zeroPl.c] 27 (0, 0))
    have hT2 := hT.no hf2
    generalize (w2.alloc (.cells #[.int .i64 zeroPl.b, .int .i64 zeroPl.g, .int .i64 zeroPl.l, .int .i64 zeroPl.c] 27 (0, 0))) = w3 at *
    have hsc := (scanS_ok HR.out).2.2
    have hln : l.length ≤ 4097 := by have := scan_len s.data.toList; rw [HR.out] at this; exact this
    have htx := sc_text hsc
    have HTX := Lib.hid htx
    clear hsc htx ho1 hf1 hf hS
    go_loop [6, 7] (fun sv i => ∃ k : Nat, k ≤ l.length ∧ i = .int .i64 k ∧ sv = .string ⟨(signsText 0 (l.take k)).toArray⟩) (fun _ i => l.length - (intOf i).toNat)
    case atStart => exact ⟨0, by omega, rfl, rfl⟩
    case round =>
      obtain ⟨k, hk, rfl, rfl⟩ := hrel
      by_cases hlt : k < l.length
      · rcases own_cases ho2 with ⟨_, hn0, _⟩ | ⟨g, d, hs1, hgB, hgl, _⟩
        · omega
        simp only [Value.slice.injEq] at hs1
        obtain ⟨rfl, _, rfl⟩ := hs1
        obtain ⟨x, hx⟩ : ∃ x, l[k]? = some x := ⟨l[k], List.getElem?_eq_getElem hlt⟩
        obtain ⟨p0, p1, _, _, _, _⟩ := tok_at ho2 hx
        have hxm := HTX.out x (List.mem_of_getElem? hx)
        have hsz := signsText_len 0 (l.take k) (fun y hy => (HTX.out y (List.mem_of_mem_take hy)).1)
        have htl : (l.take k).length = k := by rw [List.length_take]; omega
        have hsn := signsText_snoc 0 (l.take k) x
        rw [htl, Nat.zero_add] at hsn
        rw [htl] at hsz
        have htk : l.take (k + 1) = l.take k ++ [x] := by rw [List.take_add_one, hx]; rfl
        rw [← htk] at hsn
        have HSN := Lib.hid hsn
        have HX := Lib.hid hx
        have HXM := Lib.hid hxm
        clear hsn hx hxm htl htk
        have hxt := HXM.out.1
        have hand := i64_and_one k (by omega)
        have i0 : (0 : Int) ≤ (k : Int) := by omega
        have i1 : (k : Int) < (l.length : Int) := by omega
        by_cases hk3 : x.kind = 3
        · have hk3' : (x.kind == 3) = true := by simpa using hk3
          have hst := HXM.out.2 hk3
          simp only [signTexts, List.mem_cons, List.not_mem_nil, or_false] at hst
          have HK := Lib.hid hk3
          clear hk3
          rcases hst with e | e | e | e | e | e | e | e | e | e | e | e | e | e | e | e
          all_goals
            rw [e] at p1 hxt
            have HE := Lib.hid e
            clear e
            go_wp2
            all_goals
              refine ⟨⟨k + 1, by omega, by go_num, congrArg Value.string ((ba3 _ _ _).trans ?_)⟩, by simp [intOf]; omega⟩
              rw [HSN.out, HK.out, HE.out]
              refine congrArg _ (congrArg _ (congrArg _ (congrArg (· ++ _) ?_)))
          any_goals (generalize (k % 2 == 1) = bb; cases bb <;> decide)
          · have h : (((k % 2 : Nat) : Int) == 1) = true := by assumption
            have h' : (k % 2 == 1) = true := by simp at h ⊢; omega
            rw [h']
            decide
          · have h : (((k % 2 : Nat) : Int) == 1) = false := by assumption
            have h' : (k % 2 == 1) = false := by simp at h ⊢; omega
            rw [h']
            decide
        · have hk3' : (x.kind == 3) = false := by simpa using hk3
          have HK := Lib.hid hk3
          clear hk3
          go_wp2
          refine ⟨⟨k + 1, by omega, by go_num, congrArg Value.string ((ba3 _ _ _).trans ?_)⟩, by simp [intOf]; omega⟩
          rw [HSN.out]
          have : alt (k % 2 == 1) x.kind x.text = x.text := if_neg HK.out
          rw [this]
      · obtain rfl : k = l.length := by omega
        rw [List.take_length]
        have hlen := signsText_len 0 l (fun y hy => (HTX.out y hy).1)
        have hsl := fun h => signs_law HR.out h
        generalize signsText 0 l = S2 at *
        have hS2 : (⟨S2.toArray⟩ : ByteArray).size = S2.length := by rw [Lib.size_eq]
        have hmx : (⟨S2.toArray⟩ : ByteArray).size ≤ maxLen := by rw [hS2]; unfold maxLen; omega
        by_cases hle : S2.length ≤ 4096
        · obtain ⟨l', h1, h2⟩ := hsl hle
          have hl' : l'.length = l.length := by simpa using congrArg List.length h2
          have H1 := Lib.hid (And.intro h1 (And.intro h2 hl'))
          have HS2 := Lib.hid hS2
          have hd : decide ((4096 : Int) < ((⟨S2.toArray⟩ : ByteArray).size : Int)) = false := by rw [hS2]; simp; omega
          clear hsl h1 h2 hl' hS2
          go_wp2_with fail
          refine (Scan_any _ _ hT2 hmx).mono ?_
          rw [show (⟨S2.toArray⟩ : ByteArray).data.toList = S2 from rfl, H1.out.1]
          rintro e w4 ⟨a2, c2, rfl, ho4, hf4⟩
          simp only [Res.toks, Res.code, Res.pl, plA] at ho4 ⊢
          have ho5 := own_fr ho2 hf4 (fun _ _ x => x)
          have hf5 := hf2.callNo hf4
          go_wp2_with fail
          refine (alike_true l' l _ _ _ _ _ _ _ (by have := H1.out.2.2; omega) H1.out.2.1 (ho4.alloc _) (ho5.alloc _)).mono ?_
          rintro e w5 ⟨rfl, hf6⟩
          go_wp2
          go_ret
          exact ⟨by simp, (hf5.alloc _).callNo hf6⟩
        · have hbad : scanS S2 = .bad 2 zeroPl := if_pos (by omega)
          have HB := Lib.hid hbad
          have HS2 := Lib.hid hS2
          have hd : decide ((4096 : Int) < ((⟨S2.toArray⟩ : ByteArray).size : Int)) = true := by rw [hS2]; simp; omega
          clear hsl hbad hS2
          go_wp2_with fail
          refine (Scan_any _ _ hT2 hmx).mono ?_
          rw [show (⟨S2.toArray⟩ : ByteArray).data.toList = S2 from rfl, HB.out]
          rintro e w4 ⟨a2, c2, rfl, ho4, hf4⟩
          simp only [Res.toks, Res.code, Res.pl, plA] at ho4 ⊢
          have hf5 := hf2.callNo hf4
          go_wp2
          go_ret
          exact ⟨by simp, hf5.alloc _⟩
end Go.Proofs.YtklhfbgmadblcaaDoor
