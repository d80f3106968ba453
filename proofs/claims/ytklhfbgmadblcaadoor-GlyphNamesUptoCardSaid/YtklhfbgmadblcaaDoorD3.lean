/- The program's limbs: byLimb. -/
import Derived.Test.YtklhfbgmadblcaaDoorD2
import Derived.Lib.EndianBits
namespace Go.Proofs.YtklhfbgmadblcaaDoor
open Go.RowKit
set_option linter.unusedVariables false
set_option linter.unusedSimpArgs false

theorem or32 {R X V : Nat} (hR : R < 4294967296) (hX : X < 4294967296) (hV : R * L32 + X = V) : bits .or .u64 ((R : Int) * 4294967296) (X : Int) = (V : Int) := by
  have h := bits_join .u64 64 (by decide) (fun n h0 h1 => wraps_u64 n h0 h1) 32 ((R : Int) * 4294967296) (X : Int) (by omega) (by omega) (by omega) (by omega) (by omega) (by omega)
  rw [h, ← hV]
  simp only [L32]
  omega

theorem made_zeros32 (n : Nat) : (madeCells (Value.int .u32 0).cells (n * 1)).toList = u32s (zs n) := by
  rw [Nat.mul_one]; exact (toList_madeCells_one _ _).trans (by simp [u32s, zs])

set_option maxRecDepth 100000 in
set_option maxHeartbeats 1000000 in
theorem byLimb_calls (B : Nat) (a0 : Option Addr) (c0 : Nat) (xs : List Nat) (k : Nat) (w : World) (hl : xs.length ≤ 1000000) (hk : 0 < k) (hk2 : k < L32) (hx : ∀ x ∈ xs, x < L32) (h : w.ownsRow B 52 1 (.slice a0 xs.length c0) xs.length (u32s xs)) :
    Calls Tryd.prog 70 #[.slice a0 xs.length c0, .int .u32 k] w fun e w' => ∃ a c, e = .returned (.tuple #[.slice a (dig L32 (valB L32 xs / k)).length c, .int .u32 ((valB L32 xs % k : Nat) : Int)]) ∧
      w'.ownsRow w.heap.size 52 1 (.slice a (dig L32 (valB L32 xs / k)).length c) (dig L32 (valB L32 xs / k)).length (u32s (dig L32 (valB L32 xs / k))) ∧ Fr No w w' := by
  obtain ⟨i0, hi, hz0, hz1, hz2⟩ := info_parts info_u32
  have HX := Lib.hid hx
  clear hx
  have HK2 := Lib.hid hk2
  simp only [L32] at hk2
  go_enter Tryd.func70, Tryd.ntmps70
  go_wp2_with ((at_make; go_loud (refine wpList_make_full _ rfl _ _ 51 rfl w.heap.size 52 i0 (.int .u32 0) 1 Tryd.underlying51 hi hz0 hz1 .i64 .i64 xs.length xs.length xs.length rfl rfl rfl rfl ?c2 ?c3 (Nat.le_refl _) ?_; (case c2 => (rw [hz2]; omega)); (case c3 => (unfold maxLen; omega)); intro w1 hown hgr; rw [made_zeros32] at hown)))
  go_loopg [7, 8] xs.length (fun r x7 x8 wr => ∃ m : Nat, r = m ∧ m ≤ xs.length ∧ x8 = .int .i64 ((m : Int) - 1) ∧ x7 = .int .u64 ((divL L32 k (xs.drop m)).2 : Nat) ∧ wr.ownsRow w.heap.size 52 1 (.slice (some ⟨w.heap.size, 0, none⟩) xs.length xs.length) xs.length (u32s (zs m ++ (divL L32 k (xs.drop m)).1)) ∧ Fr No w wr)
  case atStart => exact ⟨xs.length, rfl, Nat.le_refl _, rfl, by simp [divL], by simpa [divL] using hown, (Fr.refl No w).grown hgr (fun _ h _ => by cases h)⟩
  case round =>
    obtain ⟨m, hr, hm, rfl, rfl, ho, hf⟩ := hrel
    have HR := Lib.hid hr
    clear hr
    cases m with
    | zero =>
      have hQl := divL_len L32 k xs
      have hQ := trimT_eq (b := L32) (by unfold L32; omega) (divL_lt (b := L32) hk HX.out)
      have hRk := divL_rest L32 hk xs
      rw [(divL_quo (b := L32) hk xs).1] at hQ
      have hR := (divL_quo (b := L32) hk xs).2
      simp only [zs, List.replicate_zero, List.nil_append, List.drop_zero] at ho ⊢
      generalize (divL L32 k xs).1 = Q at *
      generalize (divL L32 k xs).2 = R at *
      have ho2 : wr.ownsRow w.heap.size 52 1 (.slice (some ⟨w.heap.size, 0, none⟩) xs.length xs.length) Q.length (u32s Q) := by rw [hQl]; exact ho
      have hl2 : Q.length ≤ 1000000000 := by omega
      have HQ := Lib.hid hQ
      have HR2 := Lib.hid hR
      clear hQ hQl hR ho
      go_wp2_with fail
      refine (short_calls w.heap.size _ Q _ hl2 ho2).mono ?_
      rintro e w2 ⟨a, c, rfl, ho3, hb3, hq3⟩
      go_wp2_with fail
      go_ret2
      rw [HQ.out] at ho3 ⊢
      rw [← HR2.out]
      exact ⟨a, c, rfl, ho3, hf.qd hq3⟩
    | succ m =>
      have hxm : xs[m]? = some (xs[m]'(by omega)) := List.getElem?_eq_getElem (by omega)
      have hx1 : xs[m]'(by omega) < L32 := HX.out _ (List.getElem_mem _)
      have hdr : xs.drop m = xs[m]'(by omega) :: xs.drop (m + 1) := List.drop_eq_getElem_cons (by omega)
      have hrest := divL_rest L32 hk (xs.drop (m + 1))
      have HO := Lib.hid ho
      have HD := Lib.hid hdr
      rcases own_cases (own_fr h hf (fun _ _ x => x)) with ⟨_, hn, _⟩ | ⟨g, cap, hsl, hB, hg, hcap⟩
      · omega
      · simp only [Value.slice.injEq] at hsl
        obtain ⟨rfl, _, rfl⟩ := hsl
        have hc := own_cell (own_fr h hf (fun _ _ x => x)) (u32s_get hxm)
        have hzl : (zs (m + 1) ++ (divL L32 k (xs.drop (m + 1))).1)[m]? = some 0 := by
          rw [List.getElem?_append_left (by simp [zs])]; simp [zs]
        have hs := own_cell ho (u32s_get hzl)
        have hfz := ho.frozenAt m
        obtain ⟨R, hR⟩ : ∃ R, (divL L32 k (xs.drop (m + 1))).2 = R := ⟨_, rfl⟩
        rw [hR] at hrest ⊢
        have HRR := Lib.hid hR
        clear hR ho hdr hxm hzl
        obtain ⟨X, hX⟩ : ∃ X, xs[m]'(by omega) = X := ⟨_, rfl⟩
        have HXX := Lib.hid hX
        rw [hX] at hx1 hc
        clear hX
        simp only [L32] at hx1
        obtain ⟨V, hV⟩ : ∃ V, R * L32 + X = V := ⟨_, rfl⟩
        have hor := or32 (by omega) hx1 hV
        have hVk : V < k * L32 := by
          rw [← hV]
          have : (R + 1) * L32 ≤ k * L32 := Nat.mul_le_mul_right L32 hrest
          rw [Nat.add_mul] at this
          simp only [L32] at *
          omega
        have hq : V / k < 4294967296 := by
          rw [Nat.div_lt_iff_lt_mul hk, Nat.mul_comm]; exact hVk
        have hV64 : V < 18446744073709551616 := Nat.lt_of_lt_of_le hVk (by simp only [L32]; omega)
        have hqi : ((V : Int) / (k : Int)) < 4294967296 := by rw [← Int.natCast_ediv]; omega
        have hqi0 : 0 ≤ ((V : Int) / (k : Int)) := by rw [← Int.natCast_ediv]; exact Int.natCast_nonneg _
        have HV := Lib.hid (And.intro hV hVk)
        clear hV hVk
        go_wp2_with fail
        have e1 : ((V : Int) / (k : Int)) = ((V / k : Nat) : Int) := by rw [Int.natCast_ediv]
        have e2 : ((V : Int) % (k : Int)) = ((V % k : Nat) : Int) := by rw [Int.natCast_emod]
        have hsto := HO.out.stored m (.int .u32 ((V / k : Nat) : Int))
        go_roundg m
        case measure => have := HR.out; omega
        case rel =>
          have hD : divL L32 k (xs.drop m) = (V / k :: (divL L32 k (xs.drop (m + 1))).1, V % k) := by
            rw [HD.out, divL, HRR.out, HXX.out, HV.out.1]
          refine ⟨m, rfl, by omega, by go_num, by rw [e2, hD], ?_, hf.setCell _ (fun hh => absurd hh (Nat.lt_irrefl _))⟩
          rw [e1, hD]
          have h5 := hsto.1
          have e5 : (u32s (zs (m + 1) ++ (divL L32 k (xs.drop (m + 1))).1)).set m (.int .u32 ((V / k : Nat) : Int)) = u32s (zs m ++ V / k :: (divL L32 k (xs.drop (m + 1))).1) := by
            unfold u32s zs
            rw [List.replicate_succ', List.append_assoc, List.map_append, List.set_append_right _ _ (by simp)]
            simp
          rw [e5] at h5
          exact h5
end Go.Proofs.YtklhfbgmadblcaaDoor
