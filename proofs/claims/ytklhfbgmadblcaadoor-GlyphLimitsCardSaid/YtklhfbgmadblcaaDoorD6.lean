/- The program's limbs: Add. -/
import Derived.Test.YtklhfbgmadblcaaDoorD5
import Derived.Deep.DeepCutAuto
import Derived.Deep.CutBlock
namespace Go.Proofs.YtklhfbgmadblcaaDoor
open Go.RowKit
set_option linter.unusedVariables false
set_option linter.unusedSimpArgs false

theorem valB_one (b x : Nat) : valB b [x] = x := by simp [valB]
theorem valB_take (b : Nat) (us : List Nat) (k : Nat) : valB b (us.take (k + 1)) = valB b (us.take k) + b ^ k * (us[k]?).getD 0 := by
  by_cases h : k < us.length
  · rw [List.take_add_one, List.getElem?_eq_getElem h, Option.toList_some, valB_append, valB_one, List.length_take, Nat.min_eq_left (by omega)]
    rfl
  · rw [List.take_of_length_le (by omega), List.take_of_length_le (by omega), List.getElem?_eq_none (by omega)]
    simp
theorem add_step {A us vs : List Nat} {C k x y : Nat} (hA : A.length = k) (hx : (us[k]?).getD 0 = x) (hy : (vs[k]?).getD 0 = y) (hv : valB L32 A + L32 ^ k * C = valB L32 (us.take k) + valB L32 (vs.take k)) :
    valB L32 (A ++ [(C + x + y) % L32]) + L32 ^ (k + 1) * ((C + x + y) / L32) = valB L32 (us.take (k + 1)) + valB L32 (vs.take (k + 1)) := by
  rw [valB_append, valB_one, hA, valB_take, valB_take, hx, hy, Nat.pow_succ]
  have h1 := Nat.mod_add_div (C + x + y) L32
  generalize (C + x + y) % L32 = R at *
  generalize (C + x + y) / L32 = Q at *
  generalize L32 ^ k = P at *
  have h2 : P * (R + L32 * Q) = P * (C + x + y) := by rw [h1]
  rw [Nat.mul_add, Nat.mul_add, Nat.mul_add, ← Nat.mul_assoc] at h2
  omega
theorem add_done {A us vs : List Nat} {C : Nat} (hA : A.length = us.length) (hv : valB L32 A + L32 ^ us.length * C = valB L32 us + valB L32 vs) : valB L32 (A ++ [C]) = valB L32 us + valB L32 vs := by
  rw [valB_append, valB_one, hA]
  exact hv

set_option maxRecDepth 100000 in
set_option maxHeartbeats 2000000 in
theorem Add_calls (B1 B2 : Nat) (v1 v2 : Value) (xs ys : List Nat) (w : World) (hl1 : xs.length ≤ 1000000) (hl2 : ys.length ≤ 1000000) (hx : ∀ x ∈ xs, x < L32) (hy : ∀ y ∈ ys, y < L32)
    (h1 : w.ownsRow B1 52 1 v1 xs.length (u32s xs)) (h2 : w.ownsRow B2 52 1 v2 ys.length (u32s ys)) :
    Calls Tryd.prog 47 #[v1, v2] w fun e w' => ∃ a c R, e = .returned (.slice a R.length c) ∧ R.length ≤ xs.length + ys.length + 1 ∧ (∀ x ∈ R, x < L32) ∧ valB L32 R = valB L32 xs + valB L32 ys ∧
      w'.ownsRow w.heap.size 52 1 (.slice a R.length c) R.length (u32s R) ∧ Fr No w w' := by
  obtain ⟨i0, hi, hz0, hz1, hz2⟩ := info_parts info_u32
  have t1 := trimT_eq (b := L32) (by unfold L32; omega) hx
  have t2 := trimT_eq (b := L32) (by unfold L32; omega) hy
  have V1 : valB L32 (trimT xs) = valB L32 xs := by rw [t1, valB_dig (by unfold L32; omega)]
  have V2 : valB L32 (trimT ys) = valB L32 ys := by rw [t2, valB_dig (by unfold L32; omega)]
  have X1 : ∀ x ∈ trimT xs, x < L32 := by rw [t1]; exact dig_lt (by unfold L32; omega) _
  have X2 : ∀ x ∈ trimT ys, x < L32 := by rw [t2]; exact dig_lt (by unfold L32; omega) _
  have N1 : (trimT xs).length ≤ xs.length := by
    obtain ⟨k, hk, he, _⟩ := trimT_prefix xs
    rw [he, List.length_take]; omega
  have N2 : (trimT ys).length ≤ ys.length := by
    obtain ⟨k, hk, he, _⟩ := trimT_prefix ys
    rw [he, List.length_take]; omega
  clear t1 t2
  go_enter Tryd.func47, Tryd.ntmps47
  go_wp2_with fail
  refine (short_calls B1 _ xs _ (by omega) h1).mono ?_
  rintro e w1 ⟨a1, c1, rfl, ho1, hb1, hq1⟩
  have hh2 := own_qd h2 hq1
  have hf1 := hq1.fr No
  go_wp2_with fail
  refine (short_calls B2 _ ys _ (by omega) hh2).mono ?_
  rintro e w2 ⟨a2, c2, rfl, ho2, hb2, hq2⟩
  have ho1' := own_qd ho1 hq2
  have hf2 := hf1.qd hq2
  clear hb1 hb2 hq1 hq2 ho1 hh2 h1 h2 hf1
  generalize trimT xs = us at *
  generalize trimT ys = vs at *
  go_upto_if 16 with (fail)
  go_cut [0, 1] (fun s0 s1 wx => ∃ (us vs : List Nat) (a1 a2 : Option Addr) (c1 c2 B1 B2 : Nat), s0 = .slice a1 us.length c1 ∧ s1 = .slice a2 vs.length c2 ∧ vs.length ≤ us.length ∧ us.length ≤ 1000000 ∧ us.length ≤ xs.length + ys.length ∧ (∀ x ∈ us, x < L32) ∧ (∀ x ∈ vs, x < L32) ∧ valB L32 us + valB L32 vs = valB L32 xs + valB L32 ys ∧ wx.ownsRow B1 52 1 (.slice a1 us.length c1) us.length (u32s us) ∧ wx.ownsRow B2 52 1 (.slice a2 vs.length c2) vs.length (u32s vs) ∧ Fr No w wx)
  case first =>
    by_cases hlt : us.length < vs.length
    · go_wp2_with fail
      go_meet
      exact ⟨vs, us, a2, a1, c2, c1, B2, B1, rfl, rfl, by omega, by omega, by omega, X2, X1, by omega, ho2, ho1', hf2⟩
    · go_wp2_with fail
      go_meet
      exact ⟨us, vs, a1, a2, c1, c2, B1, B2, rfl, rfl, by omega, by omega, by omega, X1, X2, by omega, ho1', ho2, hf2⟩
  case rest =>
    clear ho1' ho2 hf2 X1 X2 V1 V2 N1 N2
    obtain ⟨us, vs, a1, a2, c1, c2, B1, B2, rfl, rfl, hle, hn1, hn2, X1, X2, hV, ho1, ho2, hf2⟩ := hcut
    have HV := Lib.hid hV
    have HX1 := Lib.hid X1
    have HX2 := Lib.hid X2
    clear hV X1 X2
    have hB2 : B1 ≤ wc.heap.size ∨ us.length = 0 := by
      rcases own_cases ho1 with ⟨_, h0, _⟩ | ⟨g, d, hs1, hB, hg, _⟩
      · exact Or.inr h0
      · exact Or.inl (by omega)
    go_wp2_with ((at_make; go_loud (refine wpList_make_own _ rfl _ _ 51 rfl wc.heap.size 52 i0 (.int .u32 0) 1 Tryd.underlying51 hi hz0 hz1 .i64 .i64 ((us.length : Int) + 1) (us.length + 1) rfl rfl (by omega) (by rw [hz2]; omega) (by unfold maxLen; omega) (Nat.le_refl _) ?_; intro w3 hown hgr)))
    have HX := Lib.hid (And.intro hn2 hB2)
    go_loopg [5, 6, 25] us.length (fun r x5 x6 x25 wr => ∃ (k : Nat) (A : List Nat) (C : Nat) (a3 : Option Addr) (c3 : Nat), r = us.length - k ∧ k ≤ us.length ∧ A.length = k ∧ x25 = .int .i64 k ∧ x6 = .int .u64 C ∧ C ≤ 1 ∧ x5 = .slice a3 A.length c3 ∧ (∀ x ∈ A, x < L32) ∧ valB L32 A + L32 ^ k * C = valB L32 (us.take k) + valB L32 (vs.take k) ∧ wr.ownsRow wc.heap.size 52 1 (.slice a3 A.length c3) A.length (u32s A) ∧ Fr No wc wr)
    case atStart => exact ⟨0, [], 0, _, _, rfl, Nat.zero_le _, rfl, rfl, rfl, by omega, rfl, by simp, by simp [valB], hown, (Fr.refl No wc).grown hgr (fun _ h _ => by cases h)⟩
    case round =>
      obtain ⟨k, A, C, a3, c3, hr, hk, hA, rfl, rfl, hC, rfl, hAl, hv, ho, hf⟩ := hrel
      have HR := Lib.hid hr
      have HA := Lib.hid (And.intro hA (And.intro hAl hv))
      rw [hA] at ho
      rw [hA]
      clear hr hAl hv hA hown hgr
      have hbw : wc.heap.size ≤ wr.heap.size := hf.size
      by_cases hlt : k < us.length
      · have hxk : us[k]? = some (us[k]'hlt) := List.getElem?_eq_getElem hlt
        have hx1 : us[k]'hlt < L32 := HX1.out _ (List.getElem_mem _)
        obtain ⟨X, hX⟩ : ∃ X, us[k]'hlt = X := ⟨_, rfl⟩
        rw [hX] at hxk hx1
        have g1 := own_fr ho1 hf (fun _ _ x => x)
        rcases own_cases g1 with ⟨_, hn, _⟩ | ⟨g, cap, hsl, hB, hg, hcap⟩
        · omega
        simp only [Value.slice.injEq] at hsl
        obtain ⟨rfl, _, rfl⟩ := hsl
        have hc1 := own_cell g1 (u32s_get hxk)
        simp only [L32] at hx1
        have HXK := Lib.hid hxk
        clear hX hxk g1
        by_cases hlt2 : k < vs.length
        · have hyk : vs[k]? = some (vs[k]'hlt2) := List.getElem?_eq_getElem hlt2
          have hy1 : vs[k]'hlt2 < L32 := HX2.out _ (List.getElem_mem _)
          obtain ⟨Y, hY⟩ : ∃ Y, vs[k]'hlt2 = Y := ⟨_, rfl⟩
          rw [hY] at hyk hy1
          have g2 := own_fr ho2 hf (fun _ _ x => x)
          rcases own_cases g2 with ⟨_, hn, _⟩ | ⟨g', cap', hsl, hB', hg', hcap'⟩
          · omega
          simp only [Value.slice.injEq] at hsl
          obtain ⟨rfl, _, rfl⟩ := hsl
          have hc2 := own_cell g2 (u32s_get hyk)
          simp only [L32] at hy1
          have HYK := Lib.hid hyk
          clear hY hyk g2
          go_wp2_with ((at_builtin; refine wpList_append_own _ rfl _ _ 51 rfl wc.heap.size 52 i0 (.int .u32 0) 1 4 Tryd.underlying51 hi hz0 hz1 hz2 rfl (by decide) _ _ _ rfl (ho.alloc _) ⟨wr.heap.size, 0, none⟩ 1 1 [.int .u32 (((C : Int) + (X : Int) + (Y : Int)) % 4294967296)] rfl rfl ?c1 ?c2 ?c3 ?c4 ?c5 ?_; (case c1 => exact new_one _ _ _); (case c2 => exact one_cell rfl); (case c3 => (unfold maxLen; omega)); (case c4 => omega); (case c5 => (simp; omega)); intro v6 w6 hown6 hgr6 _))
          obtain ⟨a6, c6, rfl⟩ := own_form hown6
          have e1 : (((C : Int) + (X : Int) + (Y : Int)) : Int) / 4294967296 = (((C + X + Y) / L32 : Nat) : Int) := by rw [Int.natCast_ediv]; simp [L32]
          have e2 : (((C : Int) + (X : Int) + (Y : Int)) : Int) % 4294967296 = (((C + X + Y) % L32 : Nat) : Int) := by rw [Int.natCast_emod]; simp [L32]
          go_roundg (us.length - (k + 1))
          case measure => rw [HR.out]; omega
          case rel =>
            obtain ⟨q1, q2, q3⟩ := HA.out
            refine ⟨k + 1, A ++ [(C + X + Y) % L32], (C + X + Y) / L32, a6, c6, rfl, by omega, by simp [q1], by go_num, by rw [← e1], by unfold L32; omega, by rw [List.length_append, q1]; rfl, ?_, add_step q1 (by rw [HXK.out]; rfl) (by rw [HYK.out]; rfl) q3, ?_, (hf.alloc _).grown hgr6 (fun j h1 h2 => by have := ho.lt j h1; have := hf2.size; omega)⟩
            · intro x hx
              rcases List.mem_append.1 hx with hx | hx
              · exact q2 x hx
              · simp at hx; subst hx; exact Nat.mod_lt _ (by unfold L32; omega)
            · rw [e2] at hown6
              rw [List.length_append, q1]
              simpa [u32s] using hown6
        · have hyk : (vs[k]?).getD 0 = 0 := by rw [List.getElem?_eq_none (by omega)]; rfl
          have HYK := Lib.hid hyk
          clear hyk
          go_wp2_with ((at_builtin; refine wpList_append_own _ rfl _ _ 51 rfl wc.heap.size 52 i0 (.int .u32 0) 1 4 Tryd.underlying51 hi hz0 hz1 hz2 rfl (by decide) _ _ _ rfl (ho.alloc _) ⟨wr.heap.size, 0, none⟩ 1 1 [.int .u32 (((C : Int) + (X : Int)) % 4294967296)] rfl rfl ?c1 ?c2 ?c3 ?c4 ?c5 ?_; (case c1 => exact new_one _ _ _); (case c2 => exact one_cell rfl); (case c3 => (unfold maxLen; omega)); (case c4 => omega); (case c5 => (simp; omega)); intro v6 w6 hown6 hgr6 _))
          obtain ⟨a6, c6, rfl⟩ := own_form hown6
          have e1 : (((C : Int) + (X : Int)) : Int) / 4294967296 = (((C + X + 0) / L32 : Nat) : Int) := by rw [Int.natCast_ediv]; simp [L32]
          have e2 : (((C : Int) + (X : Int)) : Int) % 4294967296 = (((C + X + 0) % L32 : Nat) : Int) := by rw [Int.natCast_emod]; simp [L32]
          go_roundg (us.length - (k + 1))
          case measure => rw [HR.out]; omega
          case rel =>
            obtain ⟨q1, q2, q3⟩ := HA.out
            refine ⟨k + 1, A ++ [(C + X + 0) % L32], (C + X + 0) / L32, a6, c6, rfl, by omega, by simp [q1], by go_num, by rw [← e1], by unfold L32; omega, by rw [List.length_append, q1]; rfl, ?_, add_step q1 (by rw [HXK.out]; rfl) HYK.out q3, ?_, (hf.alloc _).grown hgr6 (fun j h1 h2 => by have := ho.lt j h1; have := hf2.size; omega)⟩
            · intro x hx
              rcases List.mem_append.1 hx with hx | hx
              · exact q2 x hx
              · simp at hx; subst hx; exact Nat.mod_lt _ (by unfold L32; omega)
            · rw [e2] at hown6
              rw [List.length_append, q1]
              simpa [u32s] using hown6
      · obtain rfl : k = us.length := by omega
        have htk : vs.take us.length = vs := List.take_of_length_le hle
        have HTK := Lib.hid htk
        clear htk
        by_cases hC0 : 0 < C
        · have hd : decide (0 < C) = true := by simpa using hC0
          have hd2 : C = 1 := by omega
          subst hd2
          clear hC0
          go_wp2_with ((at_builtin; refine wpList_append_own _ rfl _ _ 51 rfl wc.heap.size 52 i0 (.int .u32 0) 1 4 Tryd.underlying51 hi hz0 hz1 hz2 rfl (by decide) _ _ _ rfl (ho.alloc _) ⟨wr.heap.size, 0, none⟩ 1 1 [.int .u32 1] rfl rfl ?c1 ?c2 ?c3 ?c4 ?c5 ?_; (case c1 => exact new_one _ _ _); (case c2 => exact one_cell rfl); (case c3 => (unfold maxLen; omega)); (case c4 => omega); (case c5 => (simp; omega)); intro v6 w6 hown6 hgr6 _))
          obtain ⟨a6, c6, rfl⟩ := own_form hown6
          go_ret
          obtain ⟨q1, q2, q3⟩ := HA.out
          rw [List.take_length, HTK.out] at q3
          refine ⟨a6, c6, A ++ [1], by rw [List.length_append, q1]; rfl, by rw [List.length_append, q1]; simp; omega, ?_, by rw [← HV.out]; exact add_done q1 q3, ?_, hf2.callNo ((hf.alloc _).grown hgr6 (fun j h1 h2 => by have := ho.lt j h1; have := hf2.size; omega))⟩
          · intro x hx
            rcases List.mem_append.1 hx with hx | hx
            · exact q2 x hx
            · simp at hx; subst hx; unfold L32; omega
          · rw [List.length_append, q1]
            exact own_mono (by simpa [u32s] using hown6) hf2.size
        · have hd : decide (0 < C) = false := by simpa using hC0
          have hd2 : C = 0 := by omega
          subst hd2
          clear hC0
          go_wp2_with fail
          go_ret
          obtain ⟨q1, q2, q3⟩ := HA.out
          rw [List.take_length, HTK.out] at q3
          exact ⟨a3, c3, A, by rw [q1]; rfl, by omega, q2, by rw [← HV.out]; simpa using q3, by rw [q1]; exact own_mono ho hf2.size, hf2.callNo hf⟩
end Go.Proofs.YtklhfbgmadblcaaDoor
