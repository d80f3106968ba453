/- The walk of GlyphLimits. -/
import Derived.Test.YtklhfbgmadblcaaDoorN2
import Derived.Test.YtklhfbgmadblcaaDoorK1
namespace Go.Proofs.YtklhfbgmadblcaaDoor
open Go.RowKit
set_option linter.unusedVariables false
set_option linter.unusedSimpArgs false
attribute [local go_sem ↓] Go.wp_at_zero Go.wp_at_succ

theorem and3 (n : Int) : ∃ m : Nat, bits .and .i64 n 3 = (m : Int) ∧ m < 4 := by
  have h : (BitVec.ofInt 64 n &&& BitVec.ofInt 64 3).toNat ≤ 3 := by
    rw [BitVec.toNat_and]
    exact Nat.le_trans Nat.and_le_right (by decide)
  refine ⟨(BitVec.ofInt 64 n &&& BitVec.ofInt 64 3).toNat, ?_, by omega⟩
  show IntKind.i64.wrap ((BitVec.ofInt 64 n &&& BitVec.ofInt 64 3).toNat : Int) = _
  generalize (BitVec.ofInt 64 n &&& BitVec.ofInt 64 3).toNat = k at *
  rw [IntKind.wrap_i64]
  omega

theorem nameB_yes {l : List UInt8} {p q : Pl} (h : scanS l = .ok [⟨1, l, p⟩, ⟨0, [], q⟩]) : nameB l = true := by
  unfold nameB
  rw [h]
  simp
theorem nameB_no {l : List UInt8} {e : Int} {p : Pl} (h : scanS l = .bad e p) : nameB l = false := by
  unfold nameB
  rw [h]

theorem Name_is (s : ByteArray) (l : List UInt8) (b : Bool) (hs : s.data.toList = l) (hl : l.length ≤ 100000) (h : nameB l = b) : ∀ w, Tb w → Calls Tryd.prog 27 #[.string s] w fun e w' => e = .returned (.bool b) ∧ Fr No w w' := by
  intro w hT
  have := Name_calls s w hT (by have := Lib.size_eq s; rw [hs] at this; unfold maxLen; omega)
  rw [hs, h] at this
  exact this

def tz (k : Nat) : List Nat := List.replicate k 4294967295 ++ zs (32 - k)
theorem tz_zero : tz 0 = zs 32 := rfl
theorem tz_top : tz 32 = topL := by simp [tz, topL, zs]
theorem tz_len (k : Nat) (h : k ≤ 32) : (tz k).length = 32 := by
  unfold tz zs
  rw [List.length_append, List.length_replicate, List.length_replicate]
  omega
theorem tz_at (k : Nat) (h : k < 32) : (tz k)[k]? = some 0 := by
  unfold tz zs
  rw [List.getElem?_append_right (by rw [List.length_replicate]; exact Nat.le_refl _), List.length_replicate, Nat.sub_self, show 32 - k = (31 - k) + 1 by omega, List.replicate_succ]
  rfl
theorem tz_set (k : Nat) (h : k < 32) : (u32s (tz k)).set k (.int .u32 4294967295) = u32s (tz (k + 1)) := by
  unfold tz zs u32s
  rw [show 32 - k = (32 - (k + 1)) + 1 by omega, List.replicate_succ, List.replicate_succ', List.map_append, List.map_append, List.map_append, List.set_append_right _ _ (by rw [List.length_map, List.length_replicate]; exact Nat.le_refl _), List.length_map, List.length_replicate, Nat.sub_self, List.append_assoc]
  rfl

set_option maxRecDepth 100000 in
set_option maxHeartbeats 4000000 in
theorem law_limits (x y : Int) (w : World) (hT : Tb w) : Calls Tryd.prog 10 #[.int .i64 x, .int .i64 y] w fun e w' => e = .returned (.bool true) ∧ Fr No w w' := by
  obtain ⟨m, hm1, hm2⟩ := and_mask y
  obtain ⟨q, hq1, hq2⟩ := and3 x
  obtain ⟨n1, n2, n3⟩ := name_law q m
  go_enter Tryd.func10, Tryd.ntmps10
  go_wp2_with fail
  refine (awake_calls w hT).mono ?_
  rintro e w1 ⟨rfl, hf⟩
  have q4 : q = 0 ∨ q = 1 ∨ q = 2 ∨ q = 3 := by omega
  go_wp2_with fail
  have hBp := Blk.new (w1.alloc (.cells #[.string ⟨#[97]⟩, .string ⟨#[90]⟩, .string ⟨#[206, 177]⟩, .string ⟨#[209, 143]⟩] 9 (0, 0))) (.cells #[.string ⟨#[55]⟩, .string ⟨#[95]⟩, .string ⟨#[226, 128, 178]⟩, .string ⟨#[226, 130, 137]⟩, .string ⟨#[98]⟩] 9 (0, 0))
  have hf2 := (hf.alloc (.cells #[.string ⟨#[97]⟩, .string ⟨#[90]⟩, .string ⟨#[206, 177]⟩, .string ⟨#[209, 143]⟩] 9 (0, 0))).alloc (.cells #[.string ⟨#[55]⟩, .string ⟨#[95]⟩, .string ⟨#[226, 128, 178]⟩, .string ⟨#[226, 130, 137]⟩, .string ⟨#[98]⟩] 9 (0, 0))
  have hst : [Value.string ⟨#[97]⟩, .string ⟨#[90]⟩, .string ⟨#[206, 177]⟩, .string ⟨#[209, 143]⟩][q] = .string ⟨(nameT q m 0).toArray⟩ := by
    rw [nameT_zero]
    rcases q4 with rfl | rfl | rfl | rfl <;> rfl
  have HN := Lib.hid (And.intro n1 (And.intro n2 n3))
  clear n1 n2 n3 q4 hf
  rw [show (w1.alloc (.cells #[.string ⟨#[97]⟩, .string ⟨#[90]⟩, .string ⟨#[206, 177]⟩, .string ⟨#[209, 143]⟩] 9 (0, 0))).heap.size = w1.heap.size + 1 by (show (w1.heap.push _).size = _; simp)] at hBp
  generalize hbp : w1.heap.size + 1 = bp at *
  go_loopg [7, 8] 15 (fun r x7 x8 wr => ∃ k : Nat, r = 15 - k ∧ k ≤ 15 ∧ x8 = .int .i64 k ∧ x7 = .string ⟨(nameT q m k).toArray⟩ ∧ wr = (w1.alloc (.cells #[.string ⟨#[97]⟩, .string ⟨#[90]⟩, .string ⟨#[206, 177]⟩, .string ⟨#[209, 143]⟩] 9 (0, 0))).alloc (.cells #[.string ⟨#[55]⟩, .string ⟨#[95]⟩, .string ⟨#[226, 128, 178]⟩, .string ⟨#[226, 130, 137]⟩, .string ⟨#[98]⟩] 9 (0, 0)))
  case atStart => exact ⟨0, rfl, Nat.zero_le _, rfl, hst, rfl⟩
  case round =>
    obtain ⟨k, hr, hk, rfl, rfl, rfl⟩ := hrel
    have HR := Lib.hid hr
    have hnl := nameT_len q m k
    clear hr hst
    generalize ((w1.alloc (.cells #[.string ⟨#[97]⟩, .string ⟨#[90]⟩, .string ⟨#[206, 177]⟩, .string ⟨#[209, 143]⟩] 9 (0, 0))).alloc (.cells #[.string ⟨#[55]⟩, .string ⟨#[95]⟩, .string ⟨#[226, 128, 178]⟩, .string ⟨#[226, 130, 137]⟩, .string ⟨#[98]⟩] 9 (0, 0))) = W at *
    by_cases hlt : k < 15
    · obtain ⟨j, hj⟩ : ∃ j, (m + k) % 5 = j := ⟨_, rfl⟩
      have hj5 : j < 5 := by omega
      have hmod : ((m : Int) + (k : Int)) % 5 = (j : Int) := by omega
      have hc : W.cell? ⟨bp, j, none⟩ = some (.string ⟨(enc (partC j)).toArray⟩) := by
        have j4 : j = 0 ∨ j = 1 ∨ j = 2 ∨ j = 3 ∨ j = 4 := by omega
        rw [Blk.all hBp]
        rcases j4 with rfl | rfl | rfl | rfl | rfl <;> rfl
      have hel := enc_le (partC j)
      have hez : (⟨(enc (partC j)).toArray⟩ : ByteArray).size = (enc (partC j)).length := by rw [Lib.size_eq]
      have HJ := Lib.hid hj
      clear hj
      go_wp2_with fail
      go_roundg (15 - (k + 1))
      case measure => rw [HR.out]; omega
      case rel =>
        refine ⟨k + 1, rfl, by omega, by go_num, ?_, rfl⟩
        rw [nameT_succ, HJ.out]
        congr 1
    · obtain rfl : k = 15 := by omega
      obtain ⟨T, hTt⟩ : ∃ T, nameT q m 15 = T := ⟨_, rfl⟩
      rw [hTt] at hnl HN ⊢
      have hnz : (⟨T.toArray⟩ : ByteArray).size = T.length := by rw [Lib.size_eq]
      obtain ⟨⟨p1, p2, hs1⟩, ⟨p3, hs2⟩, hs3⟩ := HN.out
      have H1 := Lib.hid (Name_is ⟨T.toArray⟩ T true rfl (by omega) (nameB_yes hs1))
      have H2 := Lib.hid (Name_is (⟨T.toArray⟩ ++ ⟨#[120]⟩) (T ++ [120]) false (by simp) (by simp; omega) (nameB_no hs2))
      have H3 := Lib.hid (Scan_is (⟨#[32, 32]⟩ ++ ⟨T.toArray⟩ ++ ⟨#[120]⟩) ([32, 32] ++ T ++ [120]) _ (by simp) (by simp; omega) hs3)
      have HR := Lib.hid (And.intro hTt HN.out)
      clear hs1 hs2 hs3 hTt HN hlt hk hBp
      go_wp2_with fail
      refine (H3.out _ (hT.no hf2)).mono ?_
      rintro e w2 ⟨a2, c2, rfl, _, hf3⟩
      simp only [Res.toks, Res.code, Res.pl, plA]
      have hf4 := hf2.callNo hf3
      go_wp2_with fail
      have hf5 := hf4.alloc (.cells #[.int .i64 2, .int .i64 2, .int .i64 1, .int .i64 3] 27 (0, 0))
      have hb5 := Blk.new w2 (.cells #[.int .i64 2, .int .i64 2, .int .i64 1, .int .i64 3] 27 (0, 0))
      refine (H1.out _ (hT.no hf5)).mono ?_
      rintro e w3 ⟨rfl, hf6⟩
      have hf7 := hf5.callNo hf6
      have hb7 := hb5.fr hf6 (fun x => x)
      clear hf2 hf3 hf4 hf5 hf6 hb5
      generalize w2.heap.size = bq at *
      go_wp2_with fail
      refine (H2.out _ (hT.no hf7)).mono ?_
      rintro e w4 ⟨rfl, hf8⟩
      have hf9 := hf7.callNo hf8
      have hb9 := hb7.fr hf8 (fun x => x)
      have R := Blk.all hb9
      clear hf7 hf8 hb7
      go_wp2_with fail
      refine (place_same ⟨2, 2, 1, 3⟩ _).mono ?_
      rintro e w5 ⟨rfl, hfA⟩
      have hfB : Fr No w w5 := by first | exact hf9.callNo hfA | exact (hf9.alloc _).callNo hfA
      clear R hb9 hf9 hfA H1 H2 H3 hnl hnz hm1 hq1
      obtain ⟨i0, hi, hz0, hz1, hz2⟩ := info_parts info_u32
      go_wp2_with ((at_make; go_loud (refine wpList_make_full _ rfl _ _ 51 rfl w.heap.size 52 i0 (.int .u32 0) 1 Tryd.underlying51 hi hz0 hz1 .i64 .i64 32 32 32 rfl rfl rfl rfl ?c2 ?c3 hfB.size ?_; (case c2 => (rw [hz2]; omega)); (case c3 => (unfold maxLen; omega)); intro w6 hown hgr; rw [made_zeros32] at hown)))
      have hgw : w.heap.size ≤ w5.heap.size := hfB.size
      have hfC := hfB.grown hgr (fun _ h _ => by cases h)
      rw [← tz_zero] at hown
      generalize w5.heap.size = g at *
      have HR2 := Lib.hid (And.intro hfB hgr)
      clear hfB hgr
      go_loopg [13] 32 (fun r x13 wr => ∃ k : Nat, r = 32 - k ∧ k ≤ 32 ∧ x13 = .int .i64 k ∧ wr.ownsRow w.heap.size 52 1 (.slice (some ⟨g, 0, none⟩) 32 32) 32 (u32s (tz k)) ∧ Fr No w wr)
      case atStart => exact ⟨0, rfl, Nat.zero_le _, rfl, hown, hfC⟩
      case round =>
        obtain ⟨k, hr, hk, rfl, ho, hf⟩ := hrel
        have HR3 := Lib.hid hr
        clear hr hown hfC
        by_cases hlt : k < 32
        · have hc := own_cell ho (u32s_get (tz_at k hlt))
          have hfz := ho.frozenAt k
          have hsto := ho.stored k (.int .u32 4294967295)
          rw [tz_set k hlt] at hsto
          have HO := Lib.hid (And.intro hsto.1 hf)
          clear hsto ho hf
          go_wp2_with fail
          go_roundg (32 - (k + 1))
          case measure => rw [HR3.out]; omega
          case rel => exact ⟨k + 1, rfl, by omega, by go_num, HO.out.1, HO.out.2.setCell _ (fun h => absurd h (Nat.not_lt.2 hgw))⟩
        · obtain rfl : k = 32 := by omega
          rw [tz_top] at ho
          clear hlt hk
          go_wp2_with fail
          refine (numbers_calls _ _ _ _ (hT.no hf) ho).mono ?_
          rintro e w8 ⟨rfl, hf8⟩
          go_wp2_with fail
          go_ret
          exact ⟨rfl, hf.callNo hf8⟩
end Go.Proofs.YtklhfbgmadblcaaDoor
