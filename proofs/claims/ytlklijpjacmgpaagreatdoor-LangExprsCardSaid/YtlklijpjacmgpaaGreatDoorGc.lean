/- The program's limbs: short, grow, byLimb, Parse, Text. -/
import Derived.Test.YtlklijpjacmgpaaGreatDoorGa
import Derived.IntWalk
import Derived.Lib.EndianBits
import Derived.Lib.OthersKept
import Derived.Laws.IdiomStrings
namespace Go.Proofs.YtlklijpjacmgpaaGreatDoor
open Go.RowKit
set_option linter.unusedVariables false
set_option linter.unusedSimpArgs false

set_option maxHeartbeats 1000000 in
theorem short_calls (B : Nat) (v : Value) (xs : List Nat) (w : World) (hl : xs.length ≤ 1000000000) (h : w.ownsRow B 57 1 v xs.length (u32s xs)) :
    Calls Tryz.prog 129 #[v] w fun e w' => ∃ a c, e = .returned (.slice a (trimT xs).length c) ∧ w'.ownsRow B 57 1 (.slice a (trimT xs).length c) (trimT xs).length (u32s (trimT xs)) ∧ (Value.slice a (trimT xs).length c).ownBlock = v.ownBlock ∧ Qd w w' := by
  rcases own_cases h with ⟨rfl, hn, hx⟩ | ⟨g, cap, rfl, hB, hg, hcap⟩
  · have hxs : xs = [] := by simpa [u32s] using hx
    subst hxs
    go_enter Tryz.func129, Tryz.ntmps129
    go_wp2_with fail
    go_loopg [3] 0 (fun r x3 wr => wr = w ∧ x3 = .int .i64 0)
    case atStart => exact ⟨rfl, rfl⟩
    case round =>
      obtain ⟨rfl, rfl⟩ := hrel
      go_wp2_with fail
      go_ret
      exact ⟨_, _, rfl, h, rfl, Qd.refl _⟩
  · go_enter Tryz.func129, Tryz.ntmps129
    go_wp2_with fail
    go_loopg [3] xs.length (fun r x3 wr => wr = w ∧ ∃ k : Nat, r = k ∧ k ≤ xs.length ∧ x3 = .int .i64 k ∧ ∀ j, k ≤ j → j < xs.length → xs[j]? = some 0)
    case atStart => exact ⟨rfl, xs.length, rfl, Nat.le_refl _, rfl, fun j h1 h2 => by omega⟩
    case round =>
      obtain ⟨rfl, k, hr, hk, rfl, hz⟩ := hrel
      have HR := Lib.hid hr
      have HZ := Lib.hid hz
      clear hr hz
      cases k with
      | zero =>
        go_wp2_with fail
        go_ret
        have ht := trimT_at (Nat.zero_le _) HZ.out (Or.inl rfl)
        have ho := own_take h (Nat.zero_le xs.length)
        rw [ht]
        exact ⟨_, _, rfl, by simpa [u32s] using ho, rfl, Qd.refl _⟩
      | succ m =>
        have hm : xs[m]? = some (xs[m]'(by omega)) := List.getElem?_eq_getElem (by omega)
        have hc := own_cell h (u32s_get hm)
        have HM := Lib.hid hm
        clear hm
        by_cases h0 : xs[m]'(by omega) = 0
        · go_wp2_with fail
          go_roundg m
          case measure => have := HR.out; omega
          case rel => exact ⟨rfl, m, rfl, by omega, rfl, fun j h1 h2 => by
            by_cases e : j = m
            · subst e; rw [HM.out, h0]
            · exact HZ.out j (by omega) h2⟩
        · go_wp2_with fail
          go_ret
          have ht := trimT_at (k := m + 1) (by omega) HZ.out (Or.inr ⟨_, HM.out, h0⟩)
          have ho := own_take h (k := m + 1) (by omega)
          rw [ht, List.length_take, Nat.min_eq_left (by omega), ← u32s_take]
          exact ⟨_, _, rfl, by simpa using ho, rfl, Qd.refl _⟩
end Go.Proofs.YtlklijpjacmgpaaGreatDoor

namespace Go.Proofs.YtlklijpjacmgpaaGreatDoor
open Go.RowKit
set_option linter.unusedVariables false
set_option linter.unusedSimpArgs false

/-- times m and c more: the limbs, and what is carried -/
def growL (m : Nat) : Nat → List Nat → List Nat × Nat
  | c, [] => ([], c)
  | c, x :: xs => ((c + x * m) % L32 :: (growL m ((c + x * m) / L32) xs).1, (growL m ((c + x * m) / L32) xs).2)
theorem growL_len (m c : Nat) (xs : List Nat) : (growL m c xs).1.length = xs.length := by
  induction xs generalizing c with
  | nil => rfl
  | cons x xs ih => simp [growL, ih]
theorem growL_snoc (m c : Nat) (xs : List Nat) (x : Nat) : growL m c (xs ++ [x]) = ((growL m c xs).1 ++ [((growL m c xs).2 + x * m) % L32], ((growL m c xs).2 + x * m) / L32) := by
  induction xs generalizing c with
  | nil => rfl
  | cons y xs ih => simp [growL, ih]
theorem growL_val (m c : Nat) (xs : List Nat) : valB L32 (growL m c xs).1 + L32 ^ xs.length * (growL m c xs).2 = valB L32 xs * m + c := by
  induction xs generalizing c with
  | nil => simp [growL, valB]
  | cons x xs ih =>
    have h := ih ((c + x * m) / L32)
    have hd := Nat.div_add_mod (c + x * m) L32
    simp only [growL, valB, List.length_cons, Nat.pow_succ]
    generalize (growL m ((c + x * m) / L32) xs).1 = G at *
    generalize (growL m ((c + x * m) / L32) xs).2 = C at *
    generalize (c + x * m) / L32 = q at *
    generalize (c + x * m) % L32 = r at *
    generalize L32 ^ xs.length = P at *
    generalize L32 = b at *
    generalize valB b xs = V at *
    generalize valB b G = W at *
    grind
theorem growL_lt {m c : Nat} (hm : m < L32) (hc : c < L32) {xs : List Nat} (h : ∀ x ∈ xs, x < L32) : (∀ x ∈ (growL m c xs).1, x < L32) ∧ (growL m c xs).2 < L32 := by
  induction xs generalizing c with
  | nil => exact ⟨(fun x hx => by cases hx), hc⟩
  | cons x xs ih =>
    have hx := h x (List.mem_cons_self ..)
    have h1 : x * m ≤ (L32 - 1) * (L32 - 1) := Nat.mul_le_mul (by omega) (by omega)
    have hq : (c + x * m) / L32 < L32 := by
      rw [Nat.div_lt_iff_lt_mul (by unfold L32; omega)]
      simp only [L32] at *
      omega
    obtain ⟨h2, h3⟩ := ih hq (fun y hy => h y (List.mem_cons_of_mem _ hy))
    refine ⟨?_, h3⟩
    intro y hy
    rcases List.mem_cons.1 hy with rfl | hy
    · exact Nat.mod_lt _ (by unfold L32; omega)
    · exact h2 y hy
/-- what grow hands back -/
def growA (m c : Nat) (xs : List Nat) : List Nat := if 0 < (growL m c xs).2 then (growL m c xs).1 ++ [(growL m c xs).2] else (growL m c xs).1
theorem growA_val (m c : Nat) (xs : List Nat) : valB L32 (growA m c xs) = valB L32 xs * m + c := by
  rw [← growL_val]
  unfold growA
  split
  · rw [valB_append, growL_len]; simp [valB]
  · rename_i h
    have : (growL m c xs).2 = 0 := by omega
    rw [this]; simp
theorem growA_len (m c : Nat) (xs : List Nat) : (growA m c xs).length ≤ xs.length + 1 := by
  unfold growA
  split <;> simp [growL_len]
theorem growA_lt {m c : Nat} (hm : m < L32) (hc : c < L32) {xs : List Nat} (h : ∀ x ∈ xs, x < L32) : ∀ x ∈ growA m c xs, x < L32 := by
  obtain ⟨h1, h2⟩ := growL_lt hm hc h
  unfold growA
  split
  · intro x hx
    rcases List.mem_append.1 hx with hx | hx
    · exact h1 x hx
    · simp at hx; subst hx; exact h2
  · exact h1
set_option maxRecDepth 100000 in
set_option maxHeartbeats 2000000 in
theorem grow_calls (B : Nat) (a0 : Option Addr) (c0 : Nat) (xs : List Nat) (m s : Nat) (w : World) (hl : xs.length ≤ 1000000) (hm : m < L32) (hs : s < L32) (hx : ∀ x ∈ xs, x < L32) (hBw : B ≤ w.heap.size) (h : w.ownsRow B 57 1 (.slice a0 xs.length c0) xs.length (u32s xs)) :
    Calls Tryz.prog 143 #[.slice a0 xs.length c0, .int .u32 m, .int .u32 s] w fun e w' => ∃ a c, e = .returned (.slice a (growA m s xs).length c) ∧
      w'.ownsRow B 57 1 (.slice a (growA m s xs).length c) (growA m s xs).length (u32s (growA m s xs)) ∧ Fr (fun k => (Value.slice a0 xs.length c0).ownBlock = some k) w w' := by
  obtain ⟨i0, hi, hz0, hz1, hz2⟩ := info_parts info_u32
  have HX := Lib.hid hx
  have hgl2 := fun k => (growL_lt (xs := xs.take k) hm hs (fun x hx => HX.out x (List.mem_of_mem_take hx))).2
  have HG2 := Lib.hid hgl2
  clear hx hgl2
  simp only [L32] at hm hs
  go_enter Tryz.func143, Tryz.ntmps143
  go_wp2_with fail
  go_loopg [7, 13] xs.length (fun r x7 x13 wr => ∃ k : Nat, r = xs.length - k ∧ k ≤ xs.length ∧ x13 = .int .i64 k ∧ x7 = .int .u64 ((growL m s (xs.take k)).2 : Nat) ∧ wr.ownsRow B 57 1 (.slice a0 xs.length c0) xs.length (u32s ((growL m s (xs.take k)).1 ++ xs.drop k)) ∧ Fr (fun k => (Value.slice a0 xs.length c0).ownBlock = some k) w wr)
  case atStart => exact ⟨0, by simp, by omega, rfl, by simp [growL], by simpa [growL] using h, Fr.refl _ _⟩
  case round =>
    obtain ⟨k, hr, hk, rfl, rfl, ho, hf⟩ := hrel
    have HR := Lib.hid hr
    clear hr
    obtain ⟨C, hC⟩ : ∃ C, (growL m s (xs.take k)).2 = C := ⟨_, rfl⟩
    have hCl : C < L32 := by rw [← hC]; exact HG2.out k
    rw [hC]
    have HC := Lib.hid hC
    clear hC
    simp only [L32] at hCl
    by_cases hlt : k < xs.length
    · have hxk : xs[k]? = some (xs[k]'hlt) := List.getElem?_eq_getElem hlt
      have hx1 : xs[k]'hlt < L32 := HX.out _ (List.getElem_mem _)
      obtain ⟨X, hX⟩ : ∃ X, xs[k]'hlt = X := ⟨_, rfl⟩
      rw [hX] at hxk hx1
      have hgl : (growL m s (xs.take k)).1.length = k := by rw [growL_len]; simp; omega
      have hat : ((growL m s (xs.take k)).1 ++ xs.drop k)[k]? = some X := by
        rw [List.getElem?_append_right (by omega), hgl]; simpa using hxk
      simp only [L32] at hx1
      rcases own_cases ho with ⟨_, hn, _⟩ | ⟨g, cap, hsl, hB, hg, hcap⟩
      · omega
      simp only [Value.slice.injEq] at hsl
      obtain ⟨rfl, _, rfl⟩ := hsl
      have hc := own_cell ho (u32s_get hat)
      have hfz := ho.frozenAt k
      have hmul : X * m ≤ 4294967295 * 4294967295 := Nat.mul_le_mul (by omega) (by omega)
      have HA := Lib.hid (And.intro hX (And.intro hxk (And.intro hgl hat)))
      have HO := Lib.hid ho
      clear hX hxk hgl hat ho
      go_wp2_with fail
      have e1 : ((C : Int) + (X : Int) * (m : Int)) / 4294967296 = (((C + X * m) / L32 : Nat) : Int) := by rw [Int.natCast_ediv, Int.natCast_add, Int.natCast_mul]; rfl
      have e2 : ((C : Int) + (X : Int) * (m : Int)) % 4294967296 = (((C + X * m) % L32 : Nat) : Int) := by rw [Int.natCast_emod, Int.natCast_add, Int.natCast_mul]; rfl
      have hsto := HO.out.stored k (.int .u32 (((C + X * m) % L32 : Nat) : Int))
      go_roundg (xs.length - (k + 1))
      case measure => rw [HR.out]; omega
      case rel =>
        obtain ⟨a1, a2, a3, a4⟩ := HA.out
        have htk : xs.take (k + 1) = xs.take k ++ [X] := by rw [List.take_add_one, a2]; rfl
        have hdr : xs.drop k = X :: xs.drop (k + 1) := by rw [List.drop_eq_getElem_cons hlt, a1]
        have hgr : growL m s (xs.take (k + 1)) = ((growL m s (xs.take k)).1 ++ [(C + X * m) % L32], (C + X * m) / L32) := by rw [htk, growL_snoc, HC.out]
        refine ⟨k + 1, rfl, by omega, by go_num, by rw [e1, hgr], ?_, hf.setCell _ (fun _ => rfl)⟩
        rw [e2, hgr]
        have h5 := hsto.1
        have e5 : (u32s ((growL m s (xs.take k)).1 ++ xs.drop k)).set k (.int .u32 (((C + X * m) % L32 : Nat) : Int)) = u32s ((growL m s (xs.take k)).1 ++ [(C + X * m) % L32] ++ xs.drop (k + 1)) := by
          rw [hdr]
          unfold u32s
          rw [List.map_append, List.set_append_right _ _ (by simp [a3])]
          simp [a3]
        rw [e5] at h5
        exact h5
    · obtain rfl : k = xs.length := by omega
      rw [List.take_length] at *
      rw [List.drop_length, List.append_nil] at ho
      have hgl : (growL m s xs).1.length = xs.length := growL_len _ _ _
      by_cases hC0 : 0 < C
      · have hd : decide (0 < C) = true := by simpa using hC0
        have HC0 := Lib.hid hC0
        have HO := Lib.hid ho
        go_wp2_with ((at_builtin; refine wpList_append_own _ rfl _ _ 52 rfl B 57 i0 (.int .u32 0) 1 4 Tryz.underlying52 hi hz0 hz1 hz2 rfl (by decide) _ _ _ rfl (ho.alloc _) ⟨wr.heap.size, 0, none⟩ 1 1 [.int .u32 (C : Int)] rfl rfl ?c1 ?c2 ?c3 ?c4 ?c5 ?_; (case c1 => exact new_one _ _ _); (case c2 => exact one_cell rfl); (case c3 => (unfold maxLen; omega)); (case c4 => omega); (case c5 => (have := hf.size; simp; omega)); intro v6 w6 hown6 hgr6 _))
        obtain ⟨a6, c6, rfl⟩ := own_form hown6
        go_ret
        have hA : growA m s xs = (growL m s xs).1 ++ [C] := by unfold growA; rw [HC.out, if_pos HC0.out]
        rw [hA, List.length_append, hgl]
        refine ⟨a6, c6, rfl, ?_, (hf.alloc _).grown hgr6 (fun k hk _ => hk)⟩
        simpa [u32s] using hown6
      · have hd : decide (0 < C) = false := by simpa using hC0
        have HC0 := Lib.hid hC0
        clear hC0
        go_wp2_with fail
        go_ret
        have hA : growA m s xs = (growL m s xs).1 := by unfold growA; rw [HC.out, if_neg HC0.out]
        rw [hA, hgl]
        exact ⟨_, _, rfl, ho, hf⟩
end Go.Proofs.YtlklijpjacmgpaaGreatDoor

namespace Go.Proofs.YtlklijpjacmgpaaGreatDoor
open Go.RowKit
set_option linter.unusedVariables false
set_option linter.unusedSimpArgs false

theorem or32 {R X V : Nat} (hR : R < 4294967296) (hX : X < 4294967296) (hV : R * L32 + X = V) : bits .or .u64 ((R : Int) * 4294967296) (X : Int) = (V : Int) := by
  have h := bits_join .u64 64 (by decide) (fun n h0 h1 => wraps_u64 n h0 h1) 32 ((R : Int) * 4294967296) (X : Int) (by omega) (by omega) (by omega) (by omega) (by omega) (by omega)
  rw [h, ← hV]
  simp only [L32]
  omega
theorem made_zeros32 (n : Nat) : (madeCells (Value.int .u32 0).cells (n * 1)).toList = u32s (zs n) := by
  rw [Nat.mul_one]; exact (toList_madeCells_one _ _).trans (by simp [u32s, zs])
set_option maxRecDepth 100000 in
set_option maxHeartbeats 1000000 in
theorem byLimb_calls (B : Nat) (a0 : Option Addr) (c0 : Nat) (xs : List Nat) (k : Nat) (w : World) (hl : xs.length ≤ 1000000) (hk : 0 < k) (hk2 : k < L32) (hx : ∀ x ∈ xs, x < L32) (h : w.ownsRow B 57 1 (.slice a0 xs.length c0) xs.length (u32s xs)) :
    Calls Tryz.prog 152 #[.slice a0 xs.length c0, .int .u32 k] w fun e w' => ∃ a c, e = .returned (.tuple #[.slice a (dig L32 (valB L32 xs / k)).length c, .int .u32 ((valB L32 xs % k : Nat) : Int)]) ∧
      w'.ownsRow w.heap.size 57 1 (.slice a (dig L32 (valB L32 xs / k)).length c) (dig L32 (valB L32 xs / k)).length (u32s (dig L32 (valB L32 xs / k))) ∧ Fr No w w' := by
  obtain ⟨i0, hi, hz0, hz1, hz2⟩ := info_parts info_u32
  have HX := Lib.hid hx
  clear hx
  have HK2 := Lib.hid hk2
  simp only [L32] at hk2
  go_enter Tryz.func152, Tryz.ntmps152
  go_wp2_with ((at_make; go_loud (refine wpList_make_full _ rfl _ _ 52 rfl w.heap.size 57 i0 (.int .u32 0) 1 Tryz.underlying52 hi hz0 hz1 .i64 .i64 xs.length xs.length xs.length rfl rfl rfl rfl ?c2 ?c3 (Nat.le_refl _) ?_; (case c2 => (rw [hz2]; omega)); (case c3 => (unfold maxLen; omega)); intro w1 hown hgr; rw [made_zeros32] at hown)))
  go_loopg [7, 8] xs.length (fun r x7 x8 wr => ∃ m : Nat, r = m ∧ m ≤ xs.length ∧ x8 = .int .i64 ((m : Int) - 1) ∧ x7 = .int .u64 ((divL L32 k (xs.drop m)).2 : Nat) ∧ wr.ownsRow w.heap.size 57 1 (.slice (some ⟨w.heap.size, 0, none⟩) xs.length xs.length) xs.length (u32s (zs m ++ (divL L32 k (xs.drop m)).1)) ∧ Fr No w wr)
  case atStart => exact ⟨xs.length, rfl, Nat.le_refl _, rfl, by simp [divL], by simpa [divL] using hown, (Fr.refl No w).grown hgr (fun _ h _ => by cases h)⟩
  case round =>
    obtain ⟨m, hr, hm, rfl, rfl, ho, hf⟩ := hrel
    have HR := Lib.hid hr
    clear hr
    cases m with
    | zero =>
      have hQl := divL_len L32 k xs
      have hQ := trimT_eq (b := L32) (by unfold L32; omega) (divL_lt (b := L32) hk HX.out)
      have hRk := divL_rest L32 hk xs
      rw [(divL_quo (b := L32) hk xs).1] at hQ
      have hR := (divL_quo (b := L32) hk xs).2
      simp only [zs, List.replicate_zero, List.nil_append, List.drop_zero] at ho ⊢
      generalize (divL L32 k xs).1 = Q at *
      generalize (divL L32 k xs).2 = R at *
      have ho2 : wr.ownsRow w.heap.size 57 1 (.slice (some ⟨w.heap.size, 0, none⟩) xs.length xs.length) Q.length (u32s Q) := by rw [hQl]; exact ho
      have hl2 : Q.length ≤ 1000000000 := by omega
      have HQ := Lib.hid hQ
      have HR2 := Lib.hid hR
      clear hQ hQl hR ho
      go_wp2_with fail
      refine (short_calls w.heap.size _ Q _ hl2 ho2).mono ?_
      rintro e w2 ⟨a, c, rfl, ho3, hb3, hq3⟩
      go_wp2_with fail
      go_ret2
      rw [HQ.out] at ho3 ⊢
      rw [← HR2.out]
      exact ⟨a, c, rfl, ho3, hf.qd hq3⟩
    | succ m =>
      have hxm : xs[m]? = some (xs[m]'(by omega)) := List.getElem?_eq_getElem (by omega)
      have hx1 : xs[m]'(by omega) < L32 := HX.out _ (List.getElem_mem _)
      have hdr : xs.drop m = xs[m]'(by omega) :: xs.drop (m + 1) := List.drop_eq_getElem_cons (by omega)
      have hrest := divL_rest L32 hk (xs.drop (m + 1))
      have HO := Lib.hid ho
      have HD := Lib.hid hdr
      rcases own_cases (own_fr h hf (fun _ _ x => x)) with ⟨_, hn, _⟩ | ⟨g, cap, hsl, hB, hg, hcap⟩
      · omega
      · simp only [Value.slice.injEq] at hsl
        obtain ⟨rfl, _, rfl⟩ := hsl
        have hc := own_cell (own_fr h hf (fun _ _ x => x)) (u32s_get hxm)
        have hzl : (zs (m + 1) ++ (divL L32 k (xs.drop (m + 1))).1)[m]? = some 0 := by
          rw [List.getElem?_append_left (by simp [zs])]; simp [zs]
        have hs := own_cell ho (u32s_get hzl)
        have hfz := ho.frozenAt m
        obtain ⟨R, hR⟩ : ∃ R, (divL L32 k (xs.drop (m + 1))).2 = R := ⟨_, rfl⟩
        rw [hR] at hrest ⊢
        have HRR := Lib.hid hR
        clear hR ho hdr hxm hzl
        obtain ⟨X, hX⟩ : ∃ X, xs[m]'(by omega) = X := ⟨_, rfl⟩
        have HXX := Lib.hid hX
        rw [hX] at hx1 hc
        clear hX
        simp only [L32] at hx1
        obtain ⟨V, hV⟩ : ∃ V, R * L32 + X = V := ⟨_, rfl⟩
        have hor := or32 (by omega) hx1 hV
        have hVk : V < k * L32 := by
          rw [← hV]
          have : (R + 1) * L32 ≤ k * L32 := Nat.mul_le_mul_right L32 hrest
          rw [Nat.add_mul] at this
          simp only [L32] at *
          omega
        have hq : V / k < 4294967296 := by
          rw [Nat.div_lt_iff_lt_mul hk, Nat.mul_comm]; exact hVk
        have hV64 : V < 18446744073709551616 := Nat.lt_of_lt_of_le hVk (by simp only [L32]; omega)
        have hqi : ((V : Int) / (k : Int)) < 4294967296 := by rw [← Int.natCast_ediv]; omega
        have hqi0 : 0 ≤ ((V : Int) / (k : Int)) := by rw [← Int.natCast_ediv]; exact Int.natCast_nonneg _
        have HV := Lib.hid (And.intro hV hVk)
        clear hV hVk
        go_wp2_with fail
        have e1 : ((V : Int) / (k : Int)) = ((V / k : Nat) : Int) := by rw [Int.natCast_ediv]
        have e2 : ((V : Int) % (k : Int)) = ((V % k : Nat) : Int) := by rw [Int.natCast_emod]
        have hsto := HO.out.stored m (.int .u32 ((V / k : Nat) : Int))
        go_roundg m
        case measure => have := HR.out; omega
        case rel =>
          have hD : divL L32 k (xs.drop m) = (V / k :: (divL L32 k (xs.drop (m + 1))).1, V % k) := by
            rw [HD.out, divL, HRR.out, HXX.out, HV.out.1]
          refine ⟨m, rfl, by omega, by go_num, by rw [e2, hD], ?_, hf.setCell _ (fun hh => absurd hh (Nat.lt_irrefl _))⟩
          rw [e1, hD]
          have h5 := hsto.1
          have e5 : (u32s (zs (m + 1) ++ (divL L32 k (xs.drop (m + 1))).1)).set m (.int .u32 ((V / k : Nat) : Int)) = u32s (zs m ++ V / k :: (divL L32 k (xs.drop (m + 1))).1) := by
            unfold u32s zs
            rw [List.replicate_succ', List.append_assoc, List.map_append, List.set_append_right _ _ (by simp)]
            simp
          rw [e5] at h5
          exact h5
end Go.Proofs.YtlklijpjacmgpaaGreatDoor

namespace Go.Proofs.YtlklijpjacmgpaaGreatDoor
open Go.RowKit
set_option linter.unusedVariables false
set_option linter.unusedSimpArgs false

def Pw (M : Nat) : Prop := M = 1 ∨ M = 10 ∨ M = 100 ∨ M = 1000 ∨ M = 10000 ∨ M = 100000 ∨ M = 1000000 ∨ M = 10000000 ∨ M = 100000000
theorem byte_at {s : ByteArray} {pre post : List Nat} {c : Nat} (hs : s.data.toList = (pre ++ c :: post).map UInt8.ofNat) (hc : c < 256) : ∃ h : pre.length < s.size, (s[pre.length]'h).toNat = c := by
  have hl : s.size = (pre ++ c :: post).length := by rw [Lib.size_eq, hs, List.length_map]
  have hlt : pre.length < s.size := by rw [hl]; simp
  refine ⟨hlt, ?_⟩
  have h1 : s[pre.length]'hlt = s.data.toList[pre.length]'(by rw [← Lib.size_eq]; exact hlt) := rfl
  have h2 : s.data.toList[pre.length]? = some (UInt8.ofNat c) := by rw [hs]; simp
  have h3 := List.getElem?_eq_some_iff.1 h2
  obtain ⟨h4, h5⟩ := h3
  rw [h1, h5]
  simp only [UInt8.toNat_ofNat']
  omega
/-- what Parse's loop has read -/
structure PsR (w wr : World) (s : ByteArray) (it : Nat) (pre : List Nat) (xs : List Nat) (N M : Nat) (a : Option Addr) (c : Nat) : Prop where
  own : wr.ownsRow w.heap.size 57 1 (.slice a xs.length c) xs.length (u32s xs)
  lt : ∀ x ∈ xs, x < L32
  len : xs.length ≤ pre.length
  val : digVal pre = valB L32 xs * M + N
  it : wr.heap[it]? = some (.stringIter s pre.length)
  fr : Fr No w wr
theorem Fr.iterAt {S : Nat → Prop} {w0 w : World} (h : Fr S w0 w) {k : Nat} (hk : k < w0.heap.size → S k) (s : ByteArray) (pos : Nat) : Fr S w0 (w.iterAt k s pos) :=
  ⟨h.os, h.tape, h.output, by rw [Lib.iterAt_size]; exact h.size, fun i hi hn => by rw [Lib.iterAt_other w k i s pos (fun e => by subst e; exact hn (hk hi))]; exact h.block i hi hn⟩
theorem own_iter {w : World} {B : Nat} {e : TypeId} {size : Nat} {v : Value} {n : Nat} {xs : List Value} (h : w.ownsRow B e size v n xs) {k : Nat} (hk : ∀ g, v.ownBlock = some g → g ≠ k) (s : ByteArray) (pos : Nat) : (w.iterAt k s pos).ownsRow B e size v n xs :=
  own_fr h ((Fr.refl (· = k) w).iterAt (fun _ => rfl) s pos) hk
theorem PsR.ne {w wr : World} {s : ByteArray} {it : Nat} {pre xs : List Nat} {N M : Nat} {a : Option Addr} {c : Nat} (h : PsR w wr s it pre xs N M a c) : ∀ k, (Value.slice a xs.length c).ownBlock = some k → k ≠ it := by
  rintro k hk rfl
  rcases own_cases h.own with ⟨h1, _, _⟩ | ⟨g, cap, h1, h2, h3, h4⟩
  · rw [h1] at hk; cases hk
  · rw [h1] at hk
    have hg : g = k := by simpa [Value.ownBlock] using hk
    subst hg
    obtain ⟨_, ho⟩ := h.own
    rcases ho with ⟨ho, _⟩ | ⟨g', cap', cur, hv, hg', hh, r⟩
    · rw [ho] at h1; cases h1
    · rw [h1] at hv
      simp only [Value.slice.injEq, Option.some.injEq, Addr.mk.injEq] at hv
      obtain ⟨⟨rfl, _⟩, _⟩ := hv
      rw [h.it] at hh
      cases hh
set_option maxRecDepth 100000 in
set_option maxHeartbeats 2000000 in
theorem Parse_calls (s : ByteArray) (ds : List Nat) (hs : s.data.toList = ds.map UInt8.ofNat) (hd : ∀ d ∈ ds, 48 ≤ d ∧ d ≤ 57) (h0 : ds ≠ []) (hl : ds.length ≤ 4096) (w : World) :
    Calls Tryz.prog 108 #[.string s] w fun e w' => ∃ a c, e = .returned (.tuple #[.slice a (dig L32 (digVal ds)).length c, .int .i64 0]) ∧
      w'.ownsRow w.heap.size 57 1 (.slice a (dig L32 (digVal ds)).length c) (dig L32 (digVal ds)).length (u32s (dig L32 (digVal ds))) ∧ Fr No w w' := by
  obtain ⟨i0, hi, hz0, hz1, hz2⟩ := info_parts info_u32
  have hsz : s.size = ds.length := by rw [Lib.size_eq, hs, List.length_map]
  have hpos : 0 < ds.length := List.length_pos_iff.2 h0
  have hne : s.data.toList ≠ [] := by rw [hs]; simpa using h0
  have hE : s.toList.isEmpty = false := by
    rw [ByteArray.toList_eq]
    cases hq : s.data.toList with
    | nil => exact absurd hq hne
    | cons _ _ => rfl
  have hd5 : decide ((5120 : Int) < (ds.length : Int)) = false := by simp; omega
  have HD := Lib.hid hd
  have HS := Lib.hid hs
  clear hd hs h0 hne
  go_enter Tryz.func108, Tryz.ntmps108
  go_wp2_with ((at_make; go_loud (refine wpList_make_own _ rfl _ _ 52 rfl w.heap.size 57 i0 (.int .u32 0) 1 Tryz.underlying52 hi hz0 hz1 .i64 .i64 _ (ds.length / 9 + 1) rfl rfl ?c2 ?c3 ?c4 (Nat.le_refl _) ?_; (case c2 => omega); (case c3 => (rw [hz2]; omega)); (case c4 => (unfold maxLen; omega)); intro w1 hown hgr)))
  have hit0 := World.iter_heap w1 s 0
  go_loopg [4, 5, 6] ds.length (fun r x4 x5 x6 wr => ∃ (pre post xs : List Nat) (N M : Nat) (a : Option Addr) (c : Nat), ds = pre ++ post ∧ r = post.length ∧ x4 = .slice a xs.length c ∧ x5 = .int .u32 N ∧ x6 = .int .u32 M ∧ Pw M ∧ N < M ∧ PsR w wr s w1.heap.size pre xs N M a c)
  case atStart =>
    refine ⟨[], ds, [], 0, 1, _, _, rfl, rfl, rfl, rfl, rfl, Or.inl rfl, by omega, ⟨?_, ?_, by simp, rfl, hit0, ?_⟩⟩
    · exact hown.alloc _
    · intro x hx; cases hx
    · exact ((Fr.refl No w).grown hgr (fun _ h _ => by cases h)).alloc _
  case round =>
    obtain ⟨pre, post, xs, N, M, a, c, h1, h2, rfl, rfl, rfl, hpw, hNM, hP⟩ := hrel
    cases post with
    | nil =>
      have hz : ¬ pre.length < s.size := by
        rw [hsz, h1]; simp
      have hnx : ∀ ty, (Instr.next (.pointer (some ⟨w1.heap.size, 0, none⟩)) true ty).run Tryz.prog wr = _ := fun ty => Lib.run_next_end_at _ _ _ _ ty hP.it hz
      have A := Lib.hid h1
      clear h1 h2
      have hM : M < L32 := by unfold Pw at hpw; simp only [L32]; omega
      have hxl : xs.length ≤ 1000000 := by have := hP.len; have := congrArg List.length A.out; simp at this; omega
      go_wp2_with fail
      refine (grow_calls w.heap.size a c xs M N wr hxl hM (by omega) hP.lt hP.fr.size hP.own).mono ?_
      rintro e w2 ⟨a2, c2, rfl, ho2, hf2⟩
      have hgl := growA_len M N xs
      have hT := trimT_eq (b := L32) (by unfold L32; omega) (growA_lt (c := N) hM (by omega) hP.lt)
      have hV : digVal ds = valB L32 xs * M + N := by rw [← hP.val, A.out, List.append_nil]
      rw [growA_val, ← hV] at hT
      have hf3 : Fr No w w2 := hP.fr.call hf2 (fun k hk hkb => by have := (hP.own.lt k hkb).1; omega)
      have HT := Lib.hid hT
      clear hT hV
      generalize growA M N xs = ys at *
      go_wp2_with fail
      refine (short_calls w.heap.size _ ys _ (by omega) ho2).mono ?_
      rintro e w3 ⟨a3, c3, rfl, ho3, hb3, hq3⟩
      go_wp2_with fail
      go_ret2
      rw [HT.out] at ho3 ⊢
      exact ⟨a3, c3, rfl, ho3, hf3.qd hq3⟩
    | cons d post =>
      have hdd := HD.out d (by rw [h1]; simp)
      obtain ⟨hlt, hby⟩ := byte_at (c := d) (by rw [HS.out, h1]) (by omega)
      have hnx : ∀ ty, (Instr.next (.pointer (some ⟨w1.heap.size, 0, none⟩)) true ty).run Tryz.prog wr = _ := fun ty => Lib.run_next_ascii_at _ _ _ _ ty hP.it hlt (by omega)
      rw [hby] at hnx
      have hit2 := Lib.iterAt_heap wr w1.heap.size s pre.length (pre.length + 1) hP.it
      have A := Lib.hid (And.intro h1 h2)
      have ho2 := own_iter hP.own hP.ne s (pre.length + 1)
      have hitn : w.heap.size ≤ w1.heap.size := hgr.size
      have hf2 : Fr No w (wr.iterAt w1.heap.size s (pre.length + 1)) := hP.fr.iterAt (fun h => by omega) s _
      obtain ⟨_, hlt2, hlen2, hval2, _, _⟩ := hP
      have HX := Lib.hid (And.intro hlt2 (And.intro hlen2 hval2))
      clear h1 h2 hby hlt2 hlen2 hval2
      generalize wr.iterAt w1.heap.size s (pre.length + 1) = w2 at hnx hit2 ho2 hf2
      have hM8 : M ≤ 100000000 := by unfold Pw at hpw; omega
      have hwz : ((d : Int) - 48) % 4294967296 = (d : Int) - 48 := by omega
      have hsnoc : digVal (pre ++ [d]) = digVal pre * 10 + (d - 48) := digVal_snoc pre d
      obtain ⟨D, hDD⟩ : ∃ D : Nat, d = D + 48 := ⟨d - 48, by omega⟩
      subst hDD
      have HSN := Lib.hid hsnoc
      clear hsnoc
      by_cases hlast : M = 100000000
      · have hb : ((10 * (M : Int)) == 1000000000) = true := by simp; omega
        have hxl : xs.length ≤ 1000000 := by have := HX.out.2.1; have := congrArg List.length A.out.1; simp at this; omega
        have HL := Lib.hid hlast
        have HPW := Lib.hid hpw
        clear hlast hpw
        have hg := grow_calls w.heap.size a c xs (10 * M) (10 * N + D) w2 hxl (by simp only [L32]; omega) (by simp only [L32]; omega) HX.out.1 hf2.size ho2
        have e1 : ((10 * M : Nat) : Int) = 10 * (M : Int) := by omega
        have e2 : ((10 * N + D : Nat) : Int) = 10 * (N : Int) + (D : Int) := by omega
        rw [e1, e2] at hg
        have HE := Lib.hid (And.intro e1 e2)
        clear e1 e2
        go_wp2_with fail
        refine hg.mono ?_
        rintro e w3 ⟨a2, c2, rfl, ho3, hf3⟩
        have hne : (Value.slice a xs.length c).ownBlock ≠ some w1.heap.size := by
          intro hk
          rcases own_cases ho2 with ⟨h1, _, _⟩ | ⟨g, cap, h1, h2, h3, h4⟩
          · rw [h1] at hk; cases hk
          · rw [h1] at hk
            have hg2 : g = w1.heap.size := by simpa [Value.ownBlock] using hk
            subst hg2
            obtain ⟨_, ho⟩ := ho2
            rcases ho with ⟨ho, _⟩ | ⟨g', cap', cur, hv, hg', hh, r⟩
            · rw [ho] at h1; cases h1
            · rw [h1] at hv
              simp only [Value.slice.injEq, Option.some.injEq, Addr.mk.injEq] at hv
              obtain ⟨⟨hgg, _⟩, _⟩ := hv
              rw [← hgg, hit2] at hh
              cases hh
        have hit3 : w3.heap[w1.heap.size]? = some (.stringIter s (pre.length + 1)) := (hf3.block _ (Array.getElem?_eq_some_iff.1 hit2).1 hne).trans hit2
        have hf4 : Fr No w w3 := hf2.call hf3 (fun k hk hkb => by have := (ho2.lt k hkb).1; omega)
        go_wp2_with fail
        obtain ⟨b1, b2⟩ := A.out
        obtain ⟨x1, x2, x3⟩ := HX.out
        have hgl := growA_len (10 * M) (10 * N + D) xs
        have hgv := growA_val (10 * M) (10 * N + D) xs
        have hgt := growA_lt (m := 10 * M) (c := 10 * N + D) (by simp only [L32]; omega) (by simp only [L32]; omega) x1
        go_roundg post.length
        case measure => rw [b2]; simp
        case rel =>
          refine ⟨pre ++ [D + 48], post, _, 0, 1, a2, c2, by rw [b1]; simp, rfl, rfl, rfl, rfl, Or.inl rfl, by omega, ⟨ho3, hgt, by simp; omega, ?_, by simpa using hit3, hf4⟩⟩
          rw [HSN.out, x3, hgv]
          simp only [Nat.add_sub_cancel, Nat.mul_one, Nat.add_zero]
          rw [Nat.add_mul]
          have : valB L32 xs * (10 * M) = valB L32 xs * M * 10 := by rw [Nat.mul_comm 10 M, Nat.mul_assoc]
          omega
      · have hb : ((10 * (M : Int)) == 1000000000) = false := by simp; omega
        have HL := Lib.hid hlast
        have HPW := Lib.hid hpw
        clear hlast hpw
        go_wp2_with fail
        obtain ⟨b1, b2⟩ := A.out
        obtain ⟨x1, x2, x3⟩ := HX.out
        go_roundg post.length
        case measure => rw [b2]; simp
        case rel =>
          refine ⟨pre ++ [D + 48], post, xs, 10 * N + D, 10 * M, a, c, by rw [b1]; simp, rfl, rfl, by push_cast; rfl, by push_cast; rfl, ?_, by omega, ⟨ho2, x1, by simp; omega, ?_, by simpa using hit2, hf2⟩⟩
          · have h1 := HPW.out
            have h2 := HL.out
            unfold Pw at *
            omega
          · rw [HSN.out, x3]
            simp only [Nat.add_sub_cancel]
            rw [Nat.add_mul]
            have : valB L32 xs * (10 * M) = valB L32 xs * M * 10 := by rw [Nat.mul_comm 10 M, Nat.mul_assoc]
            omega
end Go.Proofs.YtlklijpjacmgpaaGreatDoor

namespace Go.Proofs.YtlklijpjacmgpaaGreatDoor
open Go.RowKit
set_option linter.unusedVariables false
set_option linter.unusedSimpArgs false

def u8s (xs : List Nat) : List Value := xs.map fun (x : Nat) => Value.int .u8 x
theorem u8s_len (xs : List Nat) : (u8s xs).length = xs.length := by simp [u8s]
theorem u8s_get {xs : List Nat} {j x : Nat} (h : xs[j]? = some x) : (u8s xs)[j]? = some (.int .u8 x) := by simp [u8s, h]
theorem info_u8 : (Tryz.prog.info? 5).map (fun i => (i.zero, i.size, i.bytes)) = some (some (.int .u8 0), 1, 1) := by kernel_rfl
theorem made_zeros8 (n : Nat) : (madeCells (Value.int .u8 0).cells (n * 1)).toList = u8s (zs n) := by
  rw [Nat.mul_one]; exact (toList_madeCells_one _ _).trans (by simp [u8s, zs])
/-- the digits of a number as bytes, the lowest first -/
def bk10 (n : Nat) : List Nat := (dig 10 n).map (48 + ·)
theorem bk10_zero : bk10 0 = [] := by unfold bk10; rw [dig_zero]; rfl
theorem bk10_pos {n : Nat} (h : n ≠ 0) : bk10 n = (48 + n % 10) :: bk10 (n / 10) := by
  unfold bk10; rw [dig_pos (by omega) h]; rfl
theorem bk10_len {xs : List Nat} (h : ∀ x ∈ xs, x < L32) : (bk10 (valB L32 xs)).length ≤ 10 * xs.length := by
  unfold bk10
  rw [List.length_map]
  refine (dig_len_le (by omega)).2 (Nat.lt_of_lt_of_le (valB_lt (by unfold L32; omega) h) ?_)
  rw [Nat.pow_mul]
  exact Nat.pow_le_pow_left (by unfold L32; omega) _
theorem bk10_byte (n : Nat) : ∀ x ∈ bk10 n, 48 ≤ x ∧ x < 58 := by
  intro x hx
  unfold bk10 at hx
  obtain ⟨d, hd, rfl⟩ := List.mem_map.1 hx
  have := dig_lt (b := 10) (by omega) n d hd
  omega
theorem decText_bk (n : Nat) (h : n ≠ 0) : decText n = (bk10 n).reverse.map UInt8.ofNat := by
  unfold decText bk10
  rw [if_neg h]
  simp
/-- nine digits at a time -/
def P9 (i P : Nat) : Prop := (i = 0 ∧ P = 1000000000) ∨ (i = 1 ∧ P = 100000000) ∨ (i = 2 ∧ P = 10000000) ∨ (i = 3 ∧ P = 1000000) ∨ (i = 4 ∧ P = 100000) ∨ (i = 5 ∧ P = 10000) ∨ (i = 6 ∧ P = 1000) ∨ (i = 7 ∧ P = 100) ∨ (i = 8 ∧ P = 10) ∨ (i = 9 ∧ P = 1)
theorem P9.next {i P : Nat} (h : P9 i P) (hi : i < 9) : ∃ P', P = 10 * P' ∧ P9 (i + 1) P' := by
  rcases h with ⟨rfl, rfl⟩ | ⟨rfl, rfl⟩ | ⟨rfl, rfl⟩ | ⟨rfl, rfl⟩ | ⟨rfl, rfl⟩ | ⟨rfl, rfl⟩ | ⟨rfl, rfl⟩ | ⟨rfl, rfl⟩ | ⟨rfl, rfl⟩ | ⟨rfl, rfl⟩
  · exact ⟨100000000, rfl, Or.inr (Or.inl ⟨rfl, rfl⟩)⟩
  · exact ⟨10000000, rfl, Or.inr (Or.inr (Or.inl ⟨rfl, rfl⟩))⟩
  · exact ⟨1000000, rfl, Or.inr (Or.inr (Or.inr (Or.inl ⟨rfl, rfl⟩)))⟩
  · exact ⟨100000, rfl, Or.inr (Or.inr (Or.inr (Or.inr (Or.inl ⟨rfl, rfl⟩))))⟩
  · exact ⟨10000, rfl, Or.inr (Or.inr (Or.inr (Or.inr (Or.inr (Or.inl ⟨rfl, rfl⟩)))))⟩
  · exact ⟨1000, rfl, Or.inr (Or.inr (Or.inr (Or.inr (Or.inr (Or.inr (Or.inl ⟨rfl, rfl⟩))))))⟩
  · exact ⟨100, rfl, Or.inr (Or.inr (Or.inr (Or.inr (Or.inr (Or.inr (Or.inr (Or.inl ⟨rfl, rfl⟩)))))))⟩
  · exact ⟨10, rfl, Or.inr (Or.inr (Or.inr (Or.inr (Or.inr (Or.inr (Or.inr (Or.inr (Or.inl ⟨rfl, rfl⟩))))))))⟩
  · exact ⟨1, rfl, Or.inr (Or.inr (Or.inr (Or.inr (Or.inr (Or.inr (Or.inr (Or.inr (Or.inr ⟨rfl, rfl⟩))))))))⟩
  · omega
theorem P9.nine {P : Nat} (h : P9 9 P) : P = 1 := by unfold P9 at h; omega
theorem P9.le {i P : Nat} (h : P9 i P) : i ≤ 9 ∧ P ≤ 1000000000 := by unfold P9 at h; omega
theorem P9.step {P P' q R : Nat} (h : P = 10 * P') : (q * P + R) % 10 = R % 10 ∧ (q * P + R) / 10 = q * P' + R / 10 := by
  subst h
  have : q * (10 * P') = 10 * (q * P') := by rw [← Nat.mul_assoc, Nat.mul_comm q 10, Nat.mul_assoc]
  rw [this]
  generalize q * P' = Z
  omega
theorem own_obj {w : World} {B : Nat} {e : TypeId} {size : Nat} {v : Value} {n : Nat} {xs : List Value} (h : w.ownsRow B e size v n xs) {k : Nat} (hk : v.ownBlock = some k) : ∃ cur, w.heap[k]? = some (.cells cur e (0, 0)) := by
  obtain ⟨_, h2⟩ := h
  rcases h2 with ⟨h2, _⟩ | ⟨g, cap, cur, hv, _, hh, _⟩
  · rw [h2] at hk; cases hk
  · rw [hv] at hk
    have : g = k := by simpa [Value.ownBlock] using hk
    subst this
    exact ⟨cur, hh⟩
theorem own_types {w : World} {B B' : Nat} {e e' : TypeId} {s s' : Nat} {v v' : Value} {n n' : Nat} {xs xs' : List Value} (h : w.ownsRow B e s v n xs) (h' : w.ownsRow B' e' s' v' n' xs') (he : e ≠ e') {k : Nat} (hk : v.ownBlock = some k) : v'.ownBlock ≠ some k := by
  intro hk'
  obtain ⟨c, hc⟩ := own_obj h hk
  obtain ⟨c', hc'⟩ := own_obj h' hk'
  rw [hc] at hc'
  cases hc'
  exact he rfl
theorem bytes_conv {w : World} {B g n cap : Nat} {xs : List Nat} (h : w.ownsRow B 5 1 (.slice (some ⟨g, 0, none⟩) n cap) n (u8s xs)) (hn : n = xs.length) (hx : ∀ x ∈ xs, x < 256) :
    (convert 99 9 (.slice (some ⟨g, 0, none⟩) n cap)).run Tryz.prog w = .ok (.string ⟨(xs.map UInt8.ofNat).toArray⟩) w := by
  subst hn
  have := run_convert_bytes_back (P := Tryz.prog) w 99 9 5 ⟨g, 0, none⟩ cap (xs.map UInt8.ofNat) Tryz.underlying99 Tryz.underlying5 Tryz.underlying9 (fun j hj => by
    have hj2 : j < xs.length := by simpa using hj
    have hc := h.cells (g := g) rfl j _ (u8s_get (List.getElem?_eq_getElem hj2))
    rw [hc]
    have hb := hx _ (List.getElem_mem hj2)
    simp
    omega)
  simpa using this
theorem rev_step {acc : List Nat} {k x : Nat} (hk : k < acc.length) (hx : acc[k]? = some x) :
    (u8s (zs (acc.length - k) ++ (acc.take k).reverse)).set (acc.length - 1 - k) (.int .u8 x) = u8s (zs (acc.length - (k + 1)) ++ (acc.take (k + 1)).reverse) := by
  have h1 : acc.length - k = (acc.length - (k + 1)) + 1 := by omega
  have h2 : acc.length - 1 - k = acc.length - (k + 1) := by omega
  have h3 : acc.take (k + 1) = acc.take k ++ [x] := by rw [List.take_add_one, hx]; rfl
  rw [h1, h2, h3]
  generalize acc.length - (k + 1) = m
  unfold u8s zs
  rw [List.replicate_succ', List.append_assoc, List.map_append, List.set_append_right _ _ (by simp)]
  simp
/-- what Text's loop holds: the limbs of m, and the digits below -/
structure TxR (w wr : World) (n m : Nat) (acc : List Nat) (a0 : Option Addr) (c0 : Nat) (B : Nat) (a3 : Option Addr) (c3 : Nat) : Prop where
  val : acc ++ bk10 m = bk10 n
  own0 : wr.ownsRow B 57 1 (.slice a0 (dig L32 m).length c0) (dig L32 m).length (u32s (dig L32 m))
  own3 : wr.ownsRow w.heap.size 5 1 (.slice a3 acc.length c3) acc.length (u8s acc)
  fr : Fr No w wr
set_option maxRecDepth 100000 in
set_option maxHeartbeats 2000000 in
theorem Text_calls (B : Nat) (a0 : Option Addr) (c0 : Nat) (xs : List Nat) (w : World) (hl : xs.length ≤ 100000) (hx : ∀ x ∈ xs, x < L32) (h : w.ownsRow B 57 1 (.slice a0 xs.length c0) xs.length (u32s xs)) :
    Calls Tryz.prog 127 #[.slice a0 xs.length c0] w fun e w' => e = .returned (.string ⟨(decText (valB L32 xs)).toArray⟩) ∧ Fr No w w' := by
  obtain ⟨i0, hi, hz0, hz1, hz2⟩ := info_parts info_u8
  have hT := trimT_eq (b := L32) (by unfold L32; omega) hx
  have hbl := bk10_len hx
  obtain ⟨n, hn⟩ : ∃ n, valB L32 xs = n := ⟨_, rfl⟩
  rw [hn] at hT hbl ⊢
  have hdl : (dig L32 n).length ≤ xs.length := by
    rw [← hT]
    obtain ⟨k, hk, he, _⟩ := trimT_prefix xs
    rw [he, List.length_take]; omega
  have HT := Lib.hid hT
  have HX := Lib.hid hx
  clear hT hx hn
  go_enter Tryz.func127, Tryz.ntmps127
  go_wp2_with fail
  refine (short_calls B _ xs _ (by omega) h).mono ?_
  rintro e w1 ⟨a1, c1, rfl, ho1, hb1, hq1⟩
  rw [HT.out] at ho1 ⊢
  have hf1 := hq1.fr No
  by_cases h0 : n = 0
  · subst h0
    rw [dig_zero] at ho1 ⊢
    go_wp2_with fail
    go_ret
    exact ⟨rfl, hf1⟩
  · have hdp : 0 < (dig L32 n).length := by rw [dig_pos (by unfold L32; omega) h0]; simp
    have hd0 : (((dig L32 n).length : Int) == 0) = false := by rw [beq_eq_false_iff_ne]; omega
    have HN := Lib.hid h0
    clear h0
    go_wp2_with fail
    go_loopg [0, 3] n (fun r x0 x3 wr => ∃ (m : Nat) (acc : List Nat) (a0 : Option Addr) (c0 B' : Nat) (a3 : Option Addr) (c3 : Nat), r = m ∧ m ≤ n ∧ x0 = .slice a0 (dig L32 m).length c0 ∧ x3 = .slice a3 acc.length c3 ∧ TxR w wr n m acc a0 c0 B' a3 c3)
    case atStart => exact ⟨n, [], a1, c1, B, none, 0, rfl, Nat.le_refl _, rfl, rfl, ⟨rfl, ho1, World.ownsRow_nil _ _ _ _, hf1⟩⟩
    case round =>
      obtain ⟨m, acc, a0, c0, B', a3, c3, hr, hmn, rfl, rfl, hV, ho0, ho3, hf⟩ := hrel
      have HR := Lib.hid hr
      have HV := Lib.hid hV
      have hal : acc.length ≤ 10 * xs.length := by have := congrArg List.length hV; rw [List.length_append] at this; omega
      clear hr hV
      by_cases hm : m = 0
      · subst hm
        rw [dig_zero] at *
        have hacc : acc = bk10 n := by have := HV.out; rw [bk10_zero] at this; simpa using this
        have haL : 0 < acc.length := by rw [hacc, bk10_pos HN.out]; simp
        have HA := Lib.hid hacc
        clear hacc
        rcases own_cases ho3 with ⟨_, hn0, _⟩ | ⟨g3, cap3, hsl, hB3, hg3, hcap3⟩
        · omega
        simp only [Value.slice.injEq] at hsl
        obtain ⟨rfl, _, rfl⟩ := hsl
        go_wp2_with ((at_make; go_loud (refine wpList_make_full _ rfl _ _ 99 rfl wr.heap.size 5 i0 (.int .u8 0) 1 Tryz.underlying99 hi hz0 hz1 .i64 .i64 acc.length acc.length acc.length rfl rfl rfl rfl ?c2 ?c3 (Nat.le_refl _) ?_; (case c2 => (rw [hz2]; omega)); (case c3 => (unfold maxLen; omega)); intro w4 hown4 hgr4; rw [made_zeros8] at hown4)))
        have ho34 := own_fr ho3 ((Fr.refl No wr).grown hgr4 (fun _ h _ => by cases h)) (fun _ _ x => x)
        have hf4 := hf.grown hgr4 (fun _ h _ => by cases h)
        obtain ⟨g5, hg5⟩ : ∃ g5, wr.heap.size = g5 := ⟨_, rfl⟩
        rw [hg5] at hown4 hg3 ⊢
        have hle5 : w.heap.size ≤ g5 := by rw [← hg5]; exact hf.size
        have H5 := Lib.hid hg5
        clear hg5 ho3 hf hgr4
        go_loopg [49] acc.length (fun r2 x49 wr2 => ∃ k : Nat, r2 = acc.length - k ∧ k ≤ acc.length ∧ x49 = .int .i64 k ∧ wr2.ownsRow g5 5 1 (.slice (some ⟨g5, 0, none⟩) acc.length acc.length) acc.length (u8s (zs (acc.length - k) ++ (acc.take k).reverse)) ∧ wr2.ownsRow w.heap.size 5 1 (.slice (some ⟨g3, 0, none⟩) acc.length c3) acc.length (u8s acc) ∧ Fr No w wr2)
        case atStart => exact ⟨0, by simp, by omega, rfl, by simpa using hown4, ho34, hf4⟩
        case round =>
          obtain ⟨k, hr2, hk, rfl, hoo, ho3, hf⟩ := hrel
          have HR2 := Lib.hid hr2
          clear hr2
          by_cases hlt : k < acc.length
          · have hxk : acc[k]? = some (acc[k]'hlt) := List.getElem?_eq_getElem hlt
            obtain ⟨X, hX⟩ : ∃ X, acc[k]'hlt = X := ⟨_, rfl⟩
            rw [hX] at hxk
            have hc := own_cell ho3 (u8s_get hxk)
            have hzl : (zs (acc.length - k) ++ (acc.take k).reverse)[acc.length - 1 - k]? = some 0 := by
              rw [List.getElem?_append_left (by rw [zs, List.length_replicate]; omega), zs, List.getElem?_replicate, if_pos (by omega)]
            have hs := own_cell hoo (u8s_get hzl)
            have hfz := hoo.frozenAt (acc.length - 1 - k)
            have HO := Lib.hid hoo
            have HXK := Lib.hid hxk
            clear hX hxk hzl hoo
            have hsub : ((acc.length : Int) - 1 - (k : Int)) = ((acc.length - 1 - k : Nat) : Int) := by omega
            obtain ⟨J, hJ⟩ : ∃ J, acc.length - 1 - k = J := ⟨_, rfl⟩
            have hJl : J < acc.length := by omega
            rw [hJ] at hsub hs hfz
            have HJ := Lib.hid hJ
            clear hJ
            go_wp2_with fail
            have hsto := HO.out.stored J (.int .u8 (X : Int))
            go_roundg (acc.length - (k + 1))
            case measure => rw [HR2.out]; omega
            case rel =>
              have h5 := hsto.1
              have h6 := rev_step hlt HXK.out
              rw [HJ.out] at h6
              rw [h6] at h5
              refine ⟨k + 1, rfl, by omega, by push_cast; rfl, h5, own_fr ho3 ((Fr.refl (· = g5) wr).setCell (a := ⟨g5, J, none⟩) _ (fun _ => rfl)) (fun k hk => ?_), hf.setCell _ (fun h => by simp at h; omega)⟩
              have : g3 = k := by simpa [Value.ownBlock] using hk
              omega
          · obtain rfl : k = acc.length := by omega
            rw [Nat.sub_self, List.take_length] at hoo
            have hcv := bytes_conv (xs := acc.reverse) (by simpa [zs] using hoo) (by simp) (fun x hx => by have := bk10_byte n x (by rw [← HA.out]; simpa using hx); omega)
            have HO := Lib.hid hoo
            clear hoo
            go_wp2_with fail
            go_ret
            refine ⟨ret_str ?_, hf⟩
            rw [decText_bk n HN.out, HA.out, List.map_reverse]
      · have hmp : 0 < (dig L32 m).length := by rw [dig_pos (by unfold L32; omega) hm]; simp
        have hml : (dig L32 m).length ≤ xs.length := by
          refine Nat.le_trans ((dig_len_le (by unfold L32; omega)).2 (Nat.lt_of_le_of_lt hmn ((dig_len_le (by unfold L32; omega)).1 (Nat.le_refl (dig L32 n).length)))) hdl
        have HM := Lib.hid hm
        clear hm
        go_wp2_with fail
        have hby := byLimb_calls B' a0 c0 (dig L32 m) 1000000000 wr (by omega) (by omega) (by unfold L32; omega) (dig_lt (by unfold L32; omega) m) ho0
        rw [valB_dig (by unfold L32; omega)] at hby
        refine hby.mono ?_
        rintro e w2 ⟨a4, c4, rfl, ho4, hf4⟩
        clear hby
        have hf5 := hf.callNo hf4
        have ho5 := own_fr ho3 hf4 (fun _ _ x => x)
        have hmd := Nat.div_add_mod m 1000000000
        have hmr : m % 1000000000 < 1000000000 := Nat.mod_lt _ (by omega)
        have hq : m / 1000000000 < m := by have := HM.out; omega
        obtain ⟨q, hqe⟩ : ∃ q, m / 1000000000 = q := ⟨_, rfl⟩
        obtain ⟨R0, hR0⟩ : ∃ R0, m % 1000000000 = R0 := ⟨_, rfl⟩
        rw [hqe, hR0] at hmd
        rw [hqe] at hq ho4 ⊢
        rw [hR0] at hmr ⊢
        have HQ := Lib.hid (And.intro hmd hq)
        clear hqe hR0 hmd hq
        go_wp2_with fail
        go_loopg [3, 4, 5] 9 (fun r2 x3 x4 x5 wr2 => ∃ (i R P : Nat) (acc : List Nat) (a3 : Option Addr) (c3 : Nat), r2 = 9 - i ∧ x5 = .int .i64 i ∧ x4 = .int .u32 R ∧ P9 i P ∧ R < P ∧ x3 = .slice a3 acc.length c3 ∧ acc ++ bk10 (q * P + R) = bk10 n ∧ wr2.ownsRow wr.heap.size 57 1 (.slice a4 (dig L32 q).length c4) (dig L32 q).length (u32s (dig L32 q)) ∧ wr2.ownsRow w.heap.size 5 1 (.slice a3 acc.length c3) acc.length (u8s acc) ∧ Fr No w wr2)
        case atStart =>
          refine ⟨0, R0, 1000000000, acc, a3, c3, rfl, rfl, rfl, Or.inl ⟨rfl, rfl⟩, hmr, rfl, ?_, ho4, ho5, hf5⟩
          rw [Nat.mul_comm, HQ.out.1]; exact HV.out
        case round =>
          obtain ⟨i, R, P, acc, a3, c3, hr2, rfl, rfl, hP, hRP, rfl, hV2, ho4, ho3, hf⟩ := hrel
          have HR2 := Lib.hid hr2
          have HV2 := Lib.hid hV2
          have hal2 : acc.length ≤ 10 * xs.length := by have := congrArg List.length hV2; rw [List.length_append] at this; omega
          have hPl := hP.le
          clear hr2 hV2
          by_cases hi9 : i < 9
          · have z1 : decide ((i : Int) < 9) = true := by simp; omega
            by_cases hR0 : 0 < R
            · have z2 : decide (0 < R) = true := by simpa using hR0
              have hnz : q * P + R ≠ 0 := by omega
              have HNZ := Lib.hid hnz
              clear hnz
              have hlt3 := ho3.lt
              have HT3 := Lib.hid hlt3
              have HO4 := Lib.hid ho4
              clear hlt3
              have hsz := hf.size
              go_wp2_with ((at_builtin; refine wpList_append_own _ rfl _ _ 99 rfl w.heap.size 5 i0 (.int .u8 0) 1 1 Tryz.underlying99 hi hz0 hz1 hz2 rfl (by decide) _ _ _ rfl (ho3.alloc _) ⟨wr.heap.size, 0, none⟩ 1 1 [.int .u8 (48 + (R : Int) % 10)] rfl rfl ?c1 ?c2 ?c3 ?c4 ?c5 ?_; (case c1 => exact new_one _ _ _); (case c2 => exact one_cell rfl); (case c3 => (unfold maxLen; omega)); (case c4 => omega); (case c5 => (simp; omega)); intro v6 w6 hown6 hgr6 _))
              obtain ⟨a6, c6, rfl⟩ := own_form hown6
              obtain ⟨P', hP', hP2⟩ := hP.next hi9
              obtain ⟨k1, k2⟩ := P9.step (q := q) (R := R) hP'
              have hV3 := HV2.out
              rw [bk10_pos HNZ.out, k1, k2] at hV3
              go_roundg (9 - (i + 1))
              case measure => rw [HR2.out]; omega
              case rel =>
                refine ⟨i + 1, R / 10, P', acc ++ [48 + R % 10], a6, c6, rfl, by push_cast; rfl, by push_cast; rfl, hP2, by omega, by simp, by simpa using hV3, ?_, ?_, ?_⟩
                · exact (ho4.alloc _).kept hgr6 (by
                    cases hv : (Value.slice a4 (dig L32 q).length c4).ownBlock with
                    | none => exact Or.inl rfl
                    | some k => exact Or.inr (fun hc => own_types ho4 ho3 (by decide) hv hc.symm))
                · simpa [u8s] using hown6
                · exact (hf.alloc _).grown hgr6 (fun k hk hlt => by have := (HT3.out _ hk).1; omega)
            · have z2 : decide (0 < R) = false := by simpa using hR0
              have hRz : R = 0 := by omega
              by_cases hq0 : q = 0
              · have z3 : decide (0 < (dig L32 q).length) = false := by rw [hq0, dig_zero]; rfl
                have HQ0 := Lib.hid (And.intro hq0 hRz)
                clear hq0 hRz hR0
                go_wp2_with fail
                go_roundg q
                case measure => have := HQ.out; have := HR.out; omega
                case rel =>
                  have hq1 := HQ.out
                  refine ⟨q, acc, a4, c4, _, a3, c3, rfl, by omega, rfl, rfl, ⟨?_, ho4, ho3, hf⟩⟩
                  have hV3 := HV2.out
                  rw [show q * P + R = q by rw [HQ0.out.1, HQ0.out.2]; simp] at hV3
                  exact hV3
              · have z3 : decide (0 < (dig L32 q).length) = true := by rw [dig_pos (by unfold L32; omega) hq0]; simp
                have hPP : 0 < P := by unfold P9 at hP; omega
                have hqp : 0 < q * P := Nat.mul_pos (by omega) hPP
                clear hRz hR0 hq0
                have hnz : q * P + R ≠ 0 := by omega
                have HNZ := Lib.hid hnz
                clear hnz
                have hlt3 := ho3.lt
                have HT3 := Lib.hid hlt3
                have HO4 := Lib.hid ho4
                clear hlt3
                have hsz := hf.size
                go_wp2_with ((at_builtin; refine wpList_append_own _ rfl _ _ 99 rfl w.heap.size 5 i0 (.int .u8 0) 1 1 Tryz.underlying99 hi hz0 hz1 hz2 rfl (by decide) _ _ _ rfl (ho3.alloc _) ⟨wr.heap.size, 0, none⟩ 1 1 [.int .u8 (48 + (R : Int) % 10)] rfl rfl ?c1 ?c2 ?c3 ?c4 ?c5 ?_; (case c1 => exact new_one _ _ _); (case c2 => exact one_cell rfl); (case c3 => (unfold maxLen; omega)); (case c4 => omega); (case c5 => (simp; omega)); intro v6 w6 hown6 hgr6 _))
                obtain ⟨a6, c6, rfl⟩ := own_form hown6
                obtain ⟨P', hP', hP2⟩ := hP.next hi9
                obtain ⟨k1, k2⟩ := P9.step (q := q) (R := R) hP'
                have hV3 := HV2.out
                rw [bk10_pos HNZ.out, k1, k2] at hV3
                go_roundg (9 - (i + 1))
                case measure => rw [HR2.out]; omega
                case rel =>
                  refine ⟨i + 1, R / 10, P', acc ++ [48 + R % 10], a6, c6, rfl, by push_cast; rfl, by push_cast; rfl, hP2, by omega, by simp, by simpa using hV3, ?_, ?_, ?_⟩
                  · exact (ho4.alloc _).kept hgr6 (by
                      cases hv : (Value.slice a4 (dig L32 q).length c4).ownBlock with
                      | none => exact Or.inl rfl
                      | some k => exact Or.inr (fun hc => own_types ho4 ho3 (by decide) hv hc.symm))
                  · simpa [u8s] using hown6
                  · exact (hf.alloc _).grown hgr6 (fun k hk hlt => by have := (HT3.out _ hk).1; omega)
          · have z1 : decide ((i : Int) < 9) = false := by simp; omega
            have h9 : i = 9 := by have := hPl.1; omega
            subst h9
            have hP1 := hP.nine
            have hR0 : R = 0 := by omega
            have HP := Lib.hid (And.intro hP1 hR0)
            clear hP1 hR0
            go_wp2_with fail
            go_roundg q
            case measure => have := HQ.out; have := HR.out; omega
            case rel =>
              have hq1 := HQ.out
              refine ⟨q, acc, a4, c4, _, a3, c3, rfl, by omega, rfl, rfl, ⟨?_, ho4, ho3, hf⟩⟩
              have hV3 := HV2.out
              rw [show q * P + R = q by rw [HP.out.1, HP.out.2]; simp] at hV3
              exact hV3
end Go.Proofs.YtlklijpjacmgpaaGreatDoor

