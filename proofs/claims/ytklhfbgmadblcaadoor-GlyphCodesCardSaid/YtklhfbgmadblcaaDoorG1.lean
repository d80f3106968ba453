/- bytes: a code point's bytes. -/
import Derived.Test.YtklhfbgmadblcaaDoorL4
namespace Go.Proofs.YtklhfbgmadblcaaDoor
open Go.RowKit
set_option linter.unusedVariables false
set_option linter.unusedSimpArgs false

theorem and63 (a : Nat) (h : a ≤ 10000000) : bits .and .i64 (a : Int) 63 = ((a % 64 : Nat) : Int) := by
  have h1 : (BitVec.ofInt 64 (a : Int)).toNat = a := by
    rw [BitVec.ofInt_natCast, BitVec.toNat_ofNat]; exact Nat.mod_eq_of_lt (by omega)
  show IntKind.i64.wrap ((BitVec.ofInt 64 (a : Int) &&& BitVec.ofInt 64 63).toNat : Int) = _
  rw [BitVec.toNat_and, h1, show (BitVec.ofInt 64 63).toNat = 2 ^ 6 - 1 from rfl, Nat.and_two_pow_sub_one_eq_mod, IntKind.wrap_i64]
  omega

theorem conv_row (w : World) (xs : List Int) : (convert 73 9 (.slice (some ⟨w.heap.size, 0, none⟩) xs.length xs.length)).run Tryd.prog (w.alloc (.cells (xs.map (Value.int .u8)).toArray 5)) =
    .ok (.string ⟨(xs.map fun x => UInt8.ofNat x.toNat).toArray⟩) (w.alloc (.cells (xs.map (Value.int .u8)).toArray 5)) := by
  rw [run_convert_bytes_arg (w.alloc (.cells (xs.map (Value.int .u8)).toArray 5)) 73 5 Tryd.underlying73 Tryd.underlying5 w.heap.size 0 xs.length xs.length xs rfl ?_ _ Tryd.underlying9]
  · rfl
  · intro i hi
    rw [Nat.zero_add]
    refine (Blk.new w (.cells (xs.map (Value.int .u8)).toArray 5 (0, 0))).cell i _ ?_
    simp [hi, List.getD]

set_option maxRecDepth 100000 in
set_option maxHeartbeats 1000000 in
theorem bytes_calls {c : Nat} (h : okc c = true) (w : World) : Calls Tryd.prog 26 #[.int .i64 c] w fun e w' => e = .returned (.string ⟨(enc c).toArray⟩) ∧ Fr No w w' := by
  have hc := okc_lt h
  have a1 := and63 c (by omega)
  by_cases h1 : c < 128
  · have hcv := conv_row w [(c : Int)]
    simp only [List.length_cons, List.length_nil, Nat.zero_add, List.map_cons, List.map_nil] at hcv
    go_enter Tryd.func26, Tryd.ntmps26
    go_wp2
    go_ret
    exact ⟨ret_str (by simp [enc, h1]), (Fr.refl No w).alloc _⟩
  · by_cases h2 : c < 2048
    · have hcv := conv_row w [(192 : Int) + (c : Int) / 64, (128 : Int) + (c : Int) % 64]
      simp only [List.length_cons, List.length_nil, Nat.zero_add, Nat.reduceAdd, List.map_cons, List.map_nil] at hcv
      go_enter Tryd.func26, Tryd.ntmps26
      go_wp2
      go_ret
      exact ⟨ret_str (by simp [enc, h1, h2]), (Fr.refl No w).alloc _⟩
    · have a2 := and63 (c / 64) (by omega)
      by_cases h3 : c < 65536
      · have hcv := conv_row w [(224 : Int) + (c : Int) / 4096, (128 : Int) + (c : Int) / 64 % 64, (128 : Int) + (c : Int) % 64]
        simp only [List.length_cons, List.length_nil, Nat.zero_add, Nat.reduceAdd, List.map_cons, List.map_nil] at hcv
        push_cast at a1 a2
        have d1 : decide ((c : Int) < 128) = false := by simp; omega
        have d2 : decide ((c : Int) < 2048) = false := by simp; omega
        have d3 : decide ((c : Int) < 65536) = true := by simp; omega
        have b3 : (c : Int) / 4096 < 16 := by omega
        have H3 := Lib.hid (And.intro h1 (And.intro h2 h3))
        clear h1 h2 h3
        go_enter Tryd.func26, Tryd.ntmps26
        go_wp2
        go_ret
        exact ⟨ret_str (by simp [enc, H3.out.1, H3.out.2.1, H3.out.2.2]), (Fr.refl No w).alloc _⟩
      · have a3 := and63 (c / 4096) (by omega)
        have hcv := conv_row w [(240 : Int) + (c : Int) / 262144, (128 : Int) + (c : Int) / 4096 % 64, (128 : Int) + (c : Int) / 64 % 64, (128 : Int) + (c : Int) % 64]
        simp only [List.length_cons, List.length_nil, Nat.zero_add, Nat.reduceAdd, List.map_cons, List.map_nil] at hcv
        push_cast at a1 a2 a3
        have d1 : decide ((c : Int) < 128) = false := by simp; omega
        have d2 : decide ((c : Int) < 2048) = false := by simp; omega
        have d3 : decide ((c : Int) < 65536) = false := by simp; omega
        have H3 := Lib.hid (And.intro h1 (And.intro h2 h3))
        clear h1 h2 h3
        go_enter Tryd.func26, Tryd.ntmps26
        go_wp2
        go_ret
        exact ⟨ret_str (by simp [enc, H3.out.1, H3.out.2.1, H3.out.2.2]), (Fr.refl No w).alloc _⟩
end Go.Proofs.YtklhfbgmadblcaaDoor
