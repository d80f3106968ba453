/- GlyphLimits: numbers, the longest text. -/
import Derived.Test.YtklhfbgmadblcaaDoorP5
import Derived.Test.YtklhfbgmadblcaaDoorL2
import Derived.Test.YtklhfbgmadblcaaDoorD6
import Derived.Test.YtklhfbgmadblcaaDoorN1
namespace Go.Proofs.YtklhfbgmadblcaaDoor
open Go.RowKit
set_option linter.unusedVariables false
set_option linter.unusedSimpArgs false
set_option exponentiation.threshold 5000
attribute [local go_sem ↓] Go.wp_at_zero Go.wp_at_succ

/-- what Scan answers to a text, and what it hands back -/
theorem Scan_is (s : ByteArray) (l : List UInt8) (r : Res) (hs : s.data.toList = l) (hl : l.length ≤ 100000) (h : scanS l = r) : ∀ w, Tb w → Calls Tryd.prog 19 #[.string s] w (ScanGot w r) := by
  intro w hT
  have := Scan_any s w hT (by have := Lib.size_eq s; rw [hs] at this; unfold maxLen; omega)
  rw [hs, h] at this
  exact this

theorem own_lit (w : World) (xs : List Value) (e : TypeId) (hl : xs.length ≤ maxLen) : (w.alloc (.cells xs.toArray e (0, 0))).ownsRow w.heap.size e 1 (.slice (some ⟨w.heap.size, 0, none⟩) xs.length xs.length) xs.length xs :=
  ⟨by omega, Or.inr ⟨w.heap.size, xs.length, xs.toArray, rfl, Nat.le_refl _, Blk.new w _, Nat.le_refl _, hl, by simp, by simp⟩⟩

def blanksL (n : Nat) : List UInt8 := List.replicate n 32
theorem blanksL_len (n : Nat) : (blanksL n).length = n := List.length_replicate
theorem blanksL_succ (n : Nat) : (⟨(blanksL n).toArray⟩ : ByteArray) ++ ⟨#[32]⟩ = ⟨(blanksL (n + 1)).toArray⟩ := by
  have : blanksL (n + 1) = blanksL n ++ [32] := List.replicate_succ'
  rw [this]
  apply ByteArray.ext
  simp
def topL : List Nat := List.replicate 32 4294967295
theorem valB_top (n : Nat) : valB L32 (List.replicate n 4294967295) + 1 = L32 ^ n := by
  induction n with
  | zero => rfl
  | succ n ih =>
    rw [List.replicate_succ, Nat.pow_succ]
    simp only [valB]
    rw [← ih]
    unfold L32
    omega
theorem pow_top : L32 ^ 32 = 2 ^ 1024 := by
  have : L32 = 2 ^ 32 := rfl
  rw [this, ← Nat.pow_mul]
theorem top_val : valB L32 topL + 1 = 2 ^ 1024 := by rw [← pow_top]; exact valB_top 32
theorem topL_lt : ∀ x ∈ topL, x < L32 := by
  intro x hx
  rw [(List.mem_replicate.1 hx).2]
  unfold L32
  omega
theorem topL_len : topL.length = 32 := List.length_replicate

set_option maxRecDepth 100000 in
set_option maxHeartbeats 4000000 in
theorem numbers_calls (B : Nat) (a : Option Addr) (c : Nat) (w : World) (hT : Tb w) (h : w.ownsRow B 52 1 (.slice a 32 c) 32 (u32s topL)) :
    Calls Tryd.prog 28 #[.slice a 32 c] w fun e w' => e = .returned (.bool true) ∧ Fr No w w' := by
  have hv := top_val
  have h1 : ∃ v T1 T2, valB L32 topL = v ∧ decText v = T1 ∧ decText (v + 1) = T2 ∧ T1.length ≤ 4000 ∧ T2.length ≤ 4000 ∧ (∃ p q, scanS ([48, 48] ++ T1) = .ok [⟨2, T1, p⟩, ⟨0, [], q⟩]) ∧ ∃ p, scanS ([49, 32] ++ T2) = .bad 2 p := by
    generalize valB L32 topL = v at hv
    have l1 := top_len (v := v) (by omega)
    have l2 := top_len (v := v + 1) (by omega)
    exact ⟨v, _, _, rfl, rfl, rfl, l1, l2, num_ok (by omega) l1, num_big (by omega) l2⟩
  obtain ⟨v, T1, T2, hv1, hT1, hT2, l1, l2, ⟨p, q, hs1⟩, p', hs2⟩ := h1
  have HA := Lib.hid (Scan_is (⟨#[48, 48]⟩ ++ ⟨T1.toArray⟩) ([48, 48] ++ T1) _ (by simp) (by simp; omega) hs1)
  have HB := Lib.hid (Scan_is (⟨#[49, 32]⟩ ++ ⟨T2.toArray⟩) ([49, 32] ++ T2) _ (by simp) (by simp; omega) hs2)
  have z1 : (⟨T1.toArray⟩ : ByteArray).size = T1.length := by rw [Lib.size_eq]
  have z2 : (⟨T2.toArray⟩ : ByteArray).size = T2.length := by rw [Lib.size_eq]
  obtain ⟨bq, hbq⟩ := blanks_ok
  have HC := Lib.hid (Scan_is ⟨(blanksL 4096).toArray⟩ (blanksL 4096) _ rfl (by rw [blanksL_len]; omega) hbq)
  have HD := Lib.hid (Scan_is (⟨(blanksL 4096).toArray⟩ ++ ⟨#[32]⟩) (blanksL 4096 ++ [32]) _ (by simp) (by rw [List.length_append, blanksL_len]; simp) blanks_long)
  clear hbq
  have HV := Lib.hid (And.intro hv1 (And.intro hT1 hT2))
  clear hv hs1 hs2 hv1 hT1 hT2
  go_enter Tryd.func28, Tryd.ntmps28
  go_wp2_with fail
  refine (Text_calls B a c topL _ (by rw [topL_len]; omega) topL_lt (by rw [topL_len]; exact h)).mono ?_
  rintro e w1 ⟨rfl, hf1⟩
  rw [HV.out.1, HV.out.2.1]
  go_wp2_with fail
  have hlit := own_lit w1 (u32s [1]) 52 (by simp [u32s, maxLen])
  have ht2 := (own_fr h hf1 (fun _ _ x => x)).alloc (.cells #[.int .u32 1] 52 (0, 0))
  refine (Add_calls B w1.heap.size _ _ topL [1] _ (by rw [topL_len]; omega) (by simp) topL_lt (by simp [L32]) (by rw [topL_len]; exact ht2) hlit).mono ?_
  rintro e w2 ⟨a2, c2, R, rfl, hRl, hR, hRv, hoR, hf2⟩
  have hf3 := (hf1.alloc (.cells #[.int .u32 1] 52 (0, 0))).callNo hf2
  rw [HV.out.1, show valB L32 [1] = 1 from rfl] at hRv
  rw [topL_len] at hRl
  simp only [List.length_cons, List.length_nil] at hRl
  have HRV := Lib.hid (And.intro hR hRv)
  clear hlit ht2 hf1 hf2 hR hRv
  go_wp2_with fail
  refine (Text_calls _ a2 c2 R _ (by omega) HRV.out.1 hoR).mono ?_
  rintro e w3 ⟨rfl, hf4⟩
  rw [HRV.out.2, HV.out.2.2]
  have hf5 := hf3.callNo hf4
  have hT5 := hT.no hf5
  clear hf3 hf4 hoR HRV hRl
  go_wp2_with fail
  refine (HA.out _ hT5).mono ?_
  rintro e w4 ⟨a4, c4, rfl, ho4, hf6⟩
  simp only [Res.toks, Res.code, Res.pl, plA, zeroPl] at ho4 ⊢
  have hf7 := hf5.callNo hf6
  clear hf5 hf6 hT5
  rcases own_cases ho4 with ⟨_, hn, _⟩ | ⟨g, cap, hsl, hB', hg, hcap⟩
  · simp at hn
  simp only [Value.slice.injEq] at hsl
  obtain ⟨rfl, _, rfl⟩ := hsl
  go_wp2_with fail
  have hf8 := hf7.alloc (.cells #[.int .i64 0, .int .i64 0, .int .i64 0, .int .i64 0] 27 (0, 0))
  have ho5 := ho4.alloc (.cells #[.int .i64 0, .int .i64 0, .int .i64 0, .int .i64 0] 27 (0, 0))
  refine (HB.out _ (hT.no hf8)).mono ?_
  rintro e w5 ⟨a5, c5, rfl, _, hf9⟩
  simp only [Res.toks, Res.code, Res.pl, plA]
  have ho6 := own_fr ho5 hf9 (fun _ _ x => x)
  have hfA := hf8.callNo hf9
  obtain ⟨_, k1, _, _, _, _⟩ := tok_at ho6 (i := 0) rfl
  simp only [Nat.zero_mul, Nat.zero_add] at k1
  have hg5 : g < w5.heap.size := by have := hf9.size; simp at this; omega
  clear ho4 ho5 ho6 hf7 hf8 hf9 hB' hg hcap
  go_wp2_with fail
  have hfB := hfA.alloc (.cells #[.int .i64 p'.b, .int .i64 p'.g, .int .i64 p'.l, .int .i64 p'.c] 27 (0, 0))
  clear k1 hg5 hfA z1 z2 l1 l2 HA HB HV
  go_loopg [11, 12] 4096 (fun r x11 x12 wr => ∃ k : Nat, r = 4096 - k ∧ k ≤ 4096 ∧ x12 = .int .i64 k ∧ x11 = .string ⟨(blanksL k).toArray⟩ ∧ Fr No w wr)
  case atStart => exact ⟨0, rfl, Nat.zero_le _, rfl, rfl, hfB⟩
  case round =>
    obtain ⟨k, hr, hk, rfl, rfl, hf⟩ := hrel
    have HR := Lib.hid hr
    have hbl := blanksL_len k
    clear hr hfB
    by_cases hlt : k < 4096
    · go_wp2_with fail
      go_roundg (4096 - (k + 1))
      case measure => rw [HR.out]; omega
      case rel => exact ⟨k + 1, rfl, by omega, by go_num, by rw [blanksL_succ], hf⟩
    · obtain rfl : k = 4096 := by omega
      clear hlt hk
      go_wp2_with fail
      refine (HC.out _ (hT.no hf)).mono ?_
      rintro e w6 ⟨a6, c6, rfl, _, hf6⟩
      simp only [Res.toks, Res.code, Res.pl, plA, zeroPl]
      have hf7 := hf.callNo hf6
      go_wp2_with fail
      have hf8 := hf7.alloc (.cells #[.int .i64 0, .int .i64 0, .int .i64 0, .int .i64 0] 27 (0, 0))
      refine (HD.out _ (hT.no hf8)).mono ?_
      rintro e w7 ⟨a7, c7, rfl, _, hf9⟩
      simp only [Res.toks, Res.code, Res.pl, plA, zeroPl]
      have hfC := hf8.callNo hf9
      go_wp2_with fail
      go_ret
      exact ⟨rfl, hfC.alloc _⟩
end Go.Proofs.YtklhfbgmadblcaaDoor
