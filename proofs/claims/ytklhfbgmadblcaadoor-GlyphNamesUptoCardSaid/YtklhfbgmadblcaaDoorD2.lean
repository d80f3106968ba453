/- The program's limbs: grow. -/
import Derived.Test.YtklhfbgmadblcaaDoorD1
import Derived.IntWalk
namespace Go.Proofs.YtklhfbgmadblcaaDoor
open Go.RowKit
set_option linter.unusedVariables false
set_option linter.unusedSimpArgs false

/-- times m and c more: the limbs, and what is carried -/
def growL (m : Nat) : Nat → List Nat → List Nat × Nat
  | c, [] => ([], c)
  | c, x :: xs => ((c + x * m) % L32 :: (growL m ((c + x * m) / L32) xs).1, (growL m ((c + x * m) / L32) xs).2)
theorem growL_len (m c : Nat) (xs : List Nat) : (growL m c xs).1.length = xs.length := by
  induction xs generalizing c with
  | nil => rfl
  | cons x xs ih => simp [growL, ih]
theorem growL_snoc (m c : Nat) (xs : List Nat) (x : Nat) : growL m c (xs ++ [x]) = ((growL m c xs).1 ++ [((growL m c xs).2 + x * m) % L32], ((growL m c xs).2 + x * m) / L32) := by
  induction xs generalizing c with
  | nil => rfl
  | cons y xs ih => simp [growL, ih]
theorem growL_val (m c : Nat) (xs : List Nat) : valB L32 (growL m c xs).1 + L32 ^ xs.length * (growL m c xs).2 = valB L32 xs * m + c := by
  induction xs generalizing c with
  | nil => simp [growL, valB]
  | cons x xs ih =>
    have h := ih ((c + x * m) / L32)
    have hd := Nat.div_add_mod (c + x * m) L32
    simp only [growL, valB, List.length_cons, Nat.pow_succ]
    generalize (growL m ((c + x * m) / L32) xs).1 = G at *
    generalize (growL m ((c + x * m) / L32) xs).2 = C at *
    generalize (c + x * m) / L32 = q at *
    generalize (c + x * m) % L32 = r at *
    generalize L32 ^ xs.length = P at *
    generalize L32 = b at *
    generalize valB b xs = V at *
    generalize valB b G = W at *
    grind
theorem growL_lt {m c : Nat} (hm : m < L32) (hc : c < L32) {xs : List Nat} (h : ∀ x ∈ xs, x < L32) : (∀ x ∈ (growL m c xs).1, x < L32) ∧ (growL m c xs).2 < L32 := by
  induction xs generalizing c with
  | nil => exact ⟨(fun x hx => by cases hx), hc⟩
  | cons x xs ih =>
    have hx := h x (List.mem_cons_self ..)
    have h1 : x * m ≤ (L32 - 1) * (L32 - 1) := Nat.mul_le_mul (by omega) (by omega)
    have hq : (c + x * m) / L32 < L32 := by
      rw [Nat.div_lt_iff_lt_mul (by unfold L32; omega)]
      simp only [L32] at *
      omega
    obtain ⟨h2, h3⟩ := ih hq (fun y hy => h y (List.mem_cons_of_mem _ hy))
    refine ⟨?_, h3⟩
    intro y hy
    rcases List.mem_cons.1 hy with rfl | hy
    · exact Nat.mod_lt _ (by unfold L32; omega)
    · exact h2 y hy
/-- what grow hands back -/
def growA (m c : Nat) (xs : List Nat) : List Nat := if 0 < (growL m c xs).2 then (growL m c xs).1 ++ [(growL m c xs).2] else (growL m c xs).1
theorem growA_val (m c : Nat) (xs : List Nat) : valB L32 (growA m c xs) = valB L32 xs * m + c := by
  rw [← growL_val]
  unfold growA
  split
  · rw [valB_append, growL_len]; simp [valB]
  · rename_i h
    have : (growL m c xs).2 = 0 := by omega
    rw [this]; simp
theorem growA_len (m c : Nat) (xs : List Nat) : (growA m c xs).length ≤ xs.length + 1 := by
  unfold growA
  split <;> simp [growL_len]
theorem growA_lt {m c : Nat} (hm : m < L32) (hc : c < L32) {xs : List Nat} (h : ∀ x ∈ xs, x < L32) : ∀ x ∈ growA m c xs, x < L32 := by
  obtain ⟨h1, h2⟩ := growL_lt hm hc h
  unfold growA
  split
  · intro x hx
    rcases List.mem_append.1 hx with hx | hx
    · exact h1 x hx
    · simp at hx; subst hx; exact h2
  · exact h1

set_option maxRecDepth 100000 in
set_option maxHeartbeats 2000000 in
theorem grow_calls (B : Nat) (a0 : Option Addr) (c0 : Nat) (xs : List Nat) (m s : Nat) (w : World) (hl : xs.length ≤ 1000000) (hm : m < L32) (hs : s < L32) (hx : ∀ x ∈ xs, x < L32) (hBw : B ≤ w.heap.size) (h : w.ownsRow B 52 1 (.slice a0 xs.length c0) xs.length (u32s xs)) :
    Calls Tryd.prog 74 #[.slice a0 xs.length c0, .int .u32 m, .int .u32 s] w fun e w' => ∃ a c, e = .returned (.slice a (growA m s xs).length c) ∧
      w'.ownsRow B 52 1 (.slice a (growA m s xs).length c) (growA m s xs).length (u32s (growA m s xs)) ∧ Fr (fun k => (Value.slice a0 xs.length c0).ownBlock = some k) w w' := by
  obtain ⟨i0, hi, hz0, hz1, hz2⟩ := info_parts info_u32
  have HX := Lib.hid hx
  have hgl2 := fun k => (growL_lt (xs := xs.take k) hm hs (fun x hx => HX.out x (List.mem_of_mem_take hx))).2
  have HG2 := Lib.hid hgl2
  clear hx hgl2
  simp only [L32] at hm hs
  go_enter Tryd.func74, Tryd.ntmps74
  go_wp2_with fail
  go_loopg [7, 13] xs.length (fun r x7 x13 wr => ∃ k : Nat, r = xs.length - k ∧ k ≤ xs.length ∧ x13 = .int .i64 k ∧ x7 = .int .u64 ((growL m s (xs.take k)).2 : Nat) ∧ wr.ownsRow B 52 1 (.slice a0 xs.length c0) xs.length (u32s ((growL m s (xs.take k)).1 ++ xs.drop k)) ∧ Fr (fun k => (Value.slice a0 xs.length c0).ownBlock = some k) w wr)
  case atStart => exact ⟨0, by simp, by omega, rfl, by simp [growL], by simpa [growL] using h, Fr.refl _ _⟩
  case round =>
    obtain ⟨k, hr, hk, rfl, rfl, ho, hf⟩ := hrel
    have HR := Lib.hid hr
    clear hr
    obtain ⟨C, hC⟩ : ∃ C, (growL m s (xs.take k)).2 = C := ⟨_, rfl⟩
    have hCl : C < L32 := by rw [← hC]; exact HG2.out k
    rw [hC]
    have HC := Lib.hid hC
    clear hC
    simp only [L32] at hCl
    by_cases hlt : k < xs.length
    · have hxk : xs[k]? = some (xs[k]'hlt) := List.getElem?_eq_getElem hlt
      have hx1 : xs[k]'hlt < L32 := HX.out _ (List.getElem_mem _)
      obtain ⟨X, hX⟩ : ∃ X, xs[k]'hlt = X := ⟨_, rfl⟩
      rw [hX] at hxk hx1
      have hgl : (growL m s (xs.take k)).1.length = k := by rw [growL_len]; simp; omega
      have hat : ((growL m s (xs.take k)).1 ++ xs.drop k)[k]? = some X := by
        rw [List.getElem?_append_right (by omega), hgl]; simpa using hxk
      simp only [L32] at hx1
      rcases own_cases ho with ⟨_, hn, _⟩ | ⟨g, cap, hsl, hB, hg, hcap⟩
      · omega
      simp only [Value.slice.injEq] at hsl
      obtain ⟨rfl, _, rfl⟩ := hsl
      have hc := own_cell ho (u32s_get hat)
      have hfz := ho.frozenAt k
      have hmul : X * m ≤ 4294967295 * 4294967295 := Nat.mul_le_mul (by omega) (by omega)
      have HA := Lib.hid (And.intro hX (And.intro hxk (And.intro hgl hat)))
      have HO := Lib.hid ho
      clear hX hxk hgl hat ho
      go_wp2_with fail
      have e1 : ((C : Int) + (X : Int) * (m : Int)) / 4294967296 = (((C + X * m) / L32 : Nat) : Int) := by rw [Int.natCast_ediv, Int.natCast_add, Int.natCast_mul]; rfl
      have e2 : ((C : Int) + (X : Int) * (m : Int)) % 4294967296 = (((C + X * m) % L32 : Nat) : Int) := by rw [Int.natCast_emod, Int.natCast_add, Int.natCast_mul]; rfl
      have hsto := HO.out.stored k (.int .u32 (((C + X * m) % L32 : Nat) : Int))
      go_roundg (xs.length - (k + 1))
      case measure => rw [HR.out]; omega
      case rel =>
        obtain ⟨a1, a2, a3, a4⟩ := HA.out
        have htk : xs.take (k + 1) = xs.take k ++ [X] := by rw [List.take_add_one, a2]; rfl
        have hdr : xs.drop k = X :: xs.drop (k + 1) := by rw [List.drop_eq_getElem_cons hlt, a1]
        have hgr : growL m s (xs.take (k + 1)) = ((growL m s (xs.take k)).1 ++ [(C + X * m) % L32], (C + X * m) / L32) := by rw [htk, growL_snoc, HC.out]
        refine ⟨k + 1, rfl, by omega, by go_num, by rw [e1, hgr], ?_, hf.setCell _ (fun _ => rfl)⟩
        rw [e2, hgr]
        have h5 := hsto.1
        have e5 : (u32s ((growL m s (xs.take k)).1 ++ xs.drop k)).set k (.int .u32 (((C + X * m) % L32 : Nat) : Int)) = u32s ((growL m s (xs.take k)).1 ++ [(C + X * m) % L32] ++ xs.drop (k + 1)) := by
          rw [hdr]
          unfold u32s
          rw [List.map_append, List.set_append_right _ _ (by simp [a3])]
          simp [a3]
        rw [e5] at h5
        exact h5
    · obtain rfl : k = xs.length := by omega
      rw [List.take_length] at *
      rw [List.drop_length, List.append_nil] at ho
      have hgl : (growL m s xs).1.length = xs.length := growL_len _ _ _
      by_cases hC0 : 0 < C
      · have hd : decide (0 < C) = true := by simpa using hC0
        have HC0 := Lib.hid hC0
        have HO := Lib.hid ho
        go_wp2_with ((at_builtin; refine wpList_append_own _ rfl _ _ 51 rfl B 52 i0 (.int .u32 0) 1 4 Tryd.underlying51 hi hz0 hz1 hz2 rfl (by decide) _ _ _ rfl (ho.alloc _) ⟨wr.heap.size, 0, none⟩ 1 1 [.int .u32 (C : Int)] rfl rfl ?c1 ?c2 ?c3 ?c4 ?c5 ?_; (case c1 => exact new_one _ _ _); (case c2 => exact one_cell rfl); (case c3 => (unfold maxLen; omega)); (case c4 => omega); (case c5 => (have := hf.size; simp; omega)); intro v6 w6 hown6 hgr6 _))
        obtain ⟨a6, c6, rfl⟩ := own_form hown6
        go_ret
        have hA : growA m s xs = (growL m s xs).1 ++ [C] := by unfold growA; rw [HC.out, if_pos HC0.out]
        rw [hA, List.length_append, hgl]
        refine ⟨a6, c6, rfl, ?_, (hf.alloc _).grown hgr6 (fun k hk _ => hk)⟩
        simpa [u32s] using hown6
      · have hd : decide (0 < C) = false := by simpa using hC0
        have HC0 := Lib.hid hC0
        clear hC0
        go_wp2_with fail
        go_ret
        have hA : growA m s xs = (growL m s xs).1 := by unfold growA; rw [HC.out, if_neg HC0.out]
        rw [hA, hgl]
        exact ⟨_, _, rfl, ho, hf⟩
end Go.Proofs.YtklhfbgmadblcaaDoor
