/- The reference's numbers: Limbs, Long, Big. -/
import Derived.Test.YtklhfbgmadblcaaDoorA6
namespace Go.Proofs.YtklhfbgmadblcaaDoor
open Go.RowKit
set_option linter.unusedVariables false
set_option linter.unusedSimpArgs false

def u32s (xs : List Nat) : List Value := xs.map fun (x : Nat) => Value.int .u32 x
theorem u32s_len (xs : List Nat) : (u32s xs).length = xs.length := by simp [u32s]
theorem u32s_get {xs : List Nat} {j x : Nat} (h : xs[j]? = some x) : (u32s xs)[j]? = some (.int .u32 x) := by simp [u32s, h]
theorem u32s_take (xs : List Nat) (k : Nat) : (u32s xs).take k = u32s (xs.take k) := by simp [u32s, List.map_take]
theorem info_u32 : (Tryd.prog.info? 52).map (fun i => (i.zero, i.size, i.bytes)) = some (some (.int .u32 0), 1, 4) := by kernel_rfl

def L32 : Nat := 4294967296
theorem L32_eq : L32 = 4294967296 := rfl
theorem dig_len_mono {b b' n : Nat} (hb : 2 ≤ b) (h : b ≤ b') : (dig b' n).length ≤ (dig b n).length :=
  (dig_len_le (by omega)).2 (Nat.lt_of_lt_of_le ((dig_len_le (b := b) hb).1 (Nat.le_refl _)) (Nat.pow_le_pow_left h _))

/-- the loop of Limbs: what is told, and what is left -/
def Lm (n m : Nat) (acc : List Nat) : Prop := acc ++ dig L32 m = dig L32 n
theorem Lm.next {n m : Nat} {acc : List Nat} (h : Lm n m acc) (hm : m ≠ 0) : Lm n (m / L32) (acc ++ [m % L32]) := by
  unfold Lm at *; rw [← h, dig_pos (by unfold L32; omega) hm]; simp
theorem Lm.len {n m : Nat} {acc : List Nat} (h : Lm n m acc) : acc.length ≤ (dig 10000 n).length := by
  unfold Lm at h
  have h1 := congrArg List.length h
  have h2 := dig_len_mono (b := 10000) (b' := L32) (n := n) (by omega) (by unfold L32; omega)
  simp at h1; omega
theorem Lm.fin {n : Nat} {acc : List Nat} (h : Lm n 0 acc) : acc = dig L32 n := by unfold Lm at h; rw [dig_zero] at h; simpa using h

theorem cutBy_dig (B : Nat) (a0 : Option Addr) (c0 m : Nat) (w : World) (hl : (dig 10000 m).length ≤ 1000000) (h : w.ownsRow B 3 1 (.slice a0 (dig 10000 m).length c0) (dig 10000 m).length (i64s (dig 10000 m))) :
    Calls Tryd.prog 79 #[.slice a0 (dig 10000 m).length c0, .int .i64 4294967296] w fun e w' => ∃ a c, e = .returned (.tuple #[.slice a (dig 10000 (m / L32)).length c, .int .i64 ((m % L32 : Nat) : Int)]) ∧
      w'.ownsRow w.heap.size 3 1 (.slice a (dig 10000 (m / L32)).length c) (dig 10000 (m / L32)).length (i64s (dig 10000 (m / L32))) ∧ Fr No w w' := by
  have := cutBy_calls B a0 c0 (dig 10000 m) 4294967296 w hl (by omega) (by omega) (dig_lt (by omega) m) h
  rw [valB_dig (by omega)] at this
  exact this

/-- the loop's own -/
def LmRel (w wr : World) (n m : Nat) (x3 x4 : Value) : Prop :=
  ∃ (acc : List Nat) (a3 : Option Addr) (c3 : Nat) (a4 : Option Addr) (c4 : Nat), x3 = .slice a3 acc.length c3 ∧ x4 = .slice a4 (dig 10000 m).length c4 ∧ Lm n m acc ∧
    wr.ownsRow w.heap.size 52 1 (.slice a3 acc.length c3) acc.length (u32s acc) ∧ wr.ownsRow w.heap.size 3 1 (.slice a4 (dig 10000 m).length c4) (dig 10000 m).length (i64s (dig 10000 m)) ∧ Fr No w wr

set_option maxRecDepth 100000 in
set_option maxHeartbeats 2000000 in
theorem rLimbs_calls (B : Nat) (neg : Bool) (a0 : Option Addr) (c0 n : Nat) (w : World) (hl : (dig 10000 n).length ≤ 1000000) (hn : n ≠ 0) (hBw : B ≤ w.heap.size) (h : w.ownsRow B 3 1 (.slice a0 (dig 10000 n).length c0) (dig 10000 n).length (i64s (dig 10000 n))) :
    Calls Tryd.prog 77 #[nV neg (.slice a0 (dig 10000 n).length c0)] w fun e w' => ∃ a c, e = .returned (.slice a (dig L32 n).length c) ∧
      w'.ownsRow w.heap.size 52 1 (.slice a (dig L32 n).length c) (dig L32 n).length (u32s (dig L32 n)) ∧ Fr No w w' := by
  obtain ⟨i0, hi, hz0, hz1, hz2⟩ := info_parts info_int
  obtain ⟨j0, ji, jz0, jz1, jz2⟩ := info_parts info_u32
  have hpos : 0 < (dig 10000 n).length := by rw [dig_pos (by omega) hn]; simp
  rcases own_cases h with ⟨_, hn0, _⟩ | ⟨g, cap, hsl, hB, hg, hcap⟩
  · omega
  simp only [Value.slice.injEq] at hsl
  obtain ⟨rfl, _, rfl⟩ := hsl
  have hcells : ∀ (o : Obj) (j : Nat) (u : Value), (i64s (dig 10000 n))[j]? = some u → (w.alloc o).cell? ((⟨g, 0, none⟩ : Addr).add j) = some u := fun o j u hj => (h.alloc o).cells (g := g) rfl j u hj
  have HC := Lib.hid hcells
  clear hcells
  have hone : ∀ u ∈ i64s (dig 10000 n), u.oneCell' = true := by intro u hu; simp only [i64s, List.mem_map] at hu; obtain ⟨x, _, rfl⟩ := hu; rfl
  have HO := Lib.hid hone
  clear hone
  go_enter Tryd.func77, Tryd.ntmps77
  go_wp2_with ((at_builtin; refine wpList_append_own _ rfl _ _ 47 rfl w.heap.size 3 i0 (.int .i64 0) 1 8 Tryd.underlying47 hi hz0 hz1 hz2 rfl (by decide) (.slice none 0 0) 0 [] rfl (World.ownsRow_nil _ _ _ _) ⟨g, 0, none⟩ (dig 10000 n).length c0 (i64s (dig 10000 n)) rfl ?c1 ?c2 HO.out ?c3 ?c4 ?c5 ?_; (case c1 => (rw [i64s_len]; omega)); (case c2 => exact HC.out _); (case c3 => (unfold maxLen; omega)); (case c4 => omega); (case c5 => simp); intro v1 w1 hown1 hgr1 _))
  obtain ⟨a1, c1, rfl⟩ := own_form hown1
  simp only [Nat.zero_add, List.nil_append] at hown1
  rw [Nat.zero_add]
  go_loopg [3, 4] n (fun r x3 x4 wr => ∃ m, r = m ∧ m ≤ n ∧ LmRel w wr n m x3 x4)
  case atStart => exact ⟨n, rfl, Nat.le_refl _, [], none, 0, a1, c1, rfl, rfl, by unfold Lm; rfl, World.ownsRow_nil _ _ _ _, hown1, ((Fr.refl No w).alloc _).grown hgr1 (fun _ h _ => by cases h)⟩
  case round =>
    obtain ⟨m, hr, hmn, acc, a3, c3, a4, c4, rfl, rfl, hlm, ho3, ho4, hf⟩ := hrel
    have HR := Lib.hid hr
    have HL := Lib.hid hlm
    have hacc := hlm.len
    clear hr hlm
    by_cases hm : m = 0
    · subst hm
      rw [dig_zero] at *
      go_wp2_with fail
      go_ret
      have hq := HL.out.fin
      rw [hq] at ho3 ⊢
      exact ⟨_, _, rfl, ho3, hf⟩
    · have hp : 0 < (dig 10000 m).length := by rw [dig_pos (by omega) hm]; simp
      have hlen : (dig 10000 m).length ≤ (dig 10000 n).length := (dig_len_le (by omega)).2 (Nat.lt_of_le_of_lt hmn ((dig_len_le (b := 10000) (by omega)).1 (Nat.le_refl _)))
      have hrl : m % L32 < 4294967296 := Nat.mod_lt _ (by unfold L32; omega)
      have HM := Lib.hid hm
      clear hm
      go_wp2_with fail
      refine (cutBy_dig w.heap.size a4 c4 m _ (by omega) ho4).mono ?_
      rintro e w2 ⟨a5, c5, rfl, ho5, hf2⟩
      have ho32 := own_fr ho3 hf2 (fun _ _ x => x)
      have hlt3 := ho3.lt
      have hlt5 := ho5.lt
      have hf3 := hf.callNo hf2
      have hsz := hf3.size
      generalize hR : m % L32 = R at *
      have HRR := Lib.hid hR
      clear hR
      have HT := Lib.hid hlt3
      have HT5 := Lib.hid hlt5
      clear hlt3 hlt5 hf2 ho3 ho4
      go_wp2_with ((at_builtin; refine wpList_append_own _ rfl _ _ 51 rfl w.heap.size 52 j0 (.int .u32 0) 1 4 Tryd.underlying51 ji jz0 jz1 jz2 rfl (by decide) _ _ _ rfl (ho32.alloc _) ⟨w2.heap.size, 0, none⟩ 1 1 [.int .u32 (R : Int)] rfl rfl ?c1 ?c2 ?c3 ?c4 ?c5 ?_; (case c1 => exact new_one _ _ _); (case c2 => exact one_cell rfl); (case c3 => (unfold maxLen; omega)); (case c4 => omega); (case c5 => (simp; omega)); intro v6 w6 hown6 hgr6 _))
      obtain ⟨a6, c6, rfl⟩ := own_form hown6
      go_roundg (m / L32)
      case measure => have := HR.out; have := HM.out; exact (by rw [HR.out]; exact Nat.div_lt_self (by omega) (by unfold L32; omega))
      case rel =>
        refine ⟨m / L32, rfl, Nat.le_trans (Nat.div_le_self _ _) hmn, acc ++ [R], a6, c6, a5, c5, by simp, rfl, ?_, ?_, ?_, ?_⟩
        · rw [← HRR.out]; exact HL.out.next HM.out
        · have h6 := hown6
          simp only [u32s, List.map_append, List.map_cons, List.map_nil, List.length_append, List.length_cons, List.length_nil] at h6 ⊢
          exact h6
        · exact own_mono (apart_kept (own_mono (ho5.alloc _) (Nat.le_refl _)) (fun k hk => (HT.out k hk).2) hgr6) hf.size
        · exact (hf3.alloc _).grown hgr6 (fun k hk hlt => by have := (HT.out k hk).1; omega)
/-- is a number longer than the limit? -/
def big (n : Nat) : Bool := decide (2 ^ 1024 ≤ n)
theorem big_iff (n : Nat) : big n = true ↔ 32 < (dig L32 n).length := by
  have h := dig_len_le (b := L32) (n := n) (k := 32) (by unfold L32; omega)
  have e : L32 ^ 32 = 2 ^ 1024 := by decide +kernel
  rw [e] at h
  unfold big
  rw [decide_eq_true_iff]
  omega
theorem big_77 {n : Nat} (h : big n = true) : 77 < (dig 10000 n).length := by
  have h1 := dig_len_le (b := 10000) (n := n) (k := 77) (by omega)
  unfold big at h
  rw [decide_eq_true_iff] at h
  have e : 10000 ^ 77 ≤ 2 ^ 1024 := by decide +kernel
  have : ¬ n < 10000 ^ 77 := fun hc => absurd (Nat.lt_of_lt_of_le hc (Nat.le_trans e h)) (Nat.lt_irrefl _)
  omega

set_option maxRecDepth 100000 in
set_option maxHeartbeats 2000000 in
theorem Long_calls (B : Nat) (neg : Bool) (a0 : Option Addr) (c0 n : Nat) (w : World) (hl : (dig 10000 n).length ≤ 1000000) (h77 : 77 < (dig 10000 n).length) (hn : n ≠ 0) (hBw : B ≤ w.heap.size) (h : w.ownsRow B 3 1 (.slice a0 (dig 10000 n).length c0) (dig 10000 n).length (i64s (dig 10000 n))) :
    Calls Tryd.prog 72 #[nV neg (.slice a0 (dig 10000 n).length c0)] w fun e w' => e = .returned (.int .i64 (dig L32 n).length) ∧ Fr No w w' := by
  go_enter Tryd.func72, Tryd.ntmps72
  go_wp2_with fail
  refine (rLimbs_calls B neg a0 c0 n _ hl hn (by simp; omega) (h.alloc _)).mono ?_
  rintro e w1 ⟨a1, c1, rfl, ho, hf⟩
  go_wp2_with fail
  go_ret
  exact ⟨rfl, ((Fr.refl No w).alloc _).callNo hf⟩

set_option maxRecDepth 100000 in
set_option maxHeartbeats 2000000 in
theorem Big_calls (B : Nat) (neg : Bool) (a0 : Option Addr) (c0 n : Nat) (w : World) (hl : (dig 10000 n).length ≤ 1000000) (hBw : B ≤ w.heap.size) (h : w.ownsRow B 3 1 (.slice a0 (dig 10000 n).length c0) (dig 10000 n).length (i64s (dig 10000 n))) :
    Calls Tryd.prog 53 #[nV neg (.slice a0 (dig 10000 n).length c0)] w fun e w' => e = .returned (.bool (big n)) ∧ Fr No w w' := by
  by_cases h77 : 77 < (dig 10000 n).length
  · have hn : n ≠ 0 := by rintro rfl; rw [dig_zero] at h77; simp at h77
    have HN := Lib.hid hn
    clear hn
    by_cases hb : big n = true
    · have hb2 := (big_iff n).1 hb
      have HB := Lib.hid hb
      clear hb
      go_enter Tryd.func53, Tryd.ntmps53
      go_wp2_with fail
      refine (Long_calls B neg a0 c0 n _ hl h77 HN.out (by simp; omega) (h.alloc _)).mono ?_
      rintro e w1 ⟨rfl, hf⟩
      go_wp2_with fail
      go_ret
      exact ⟨ret_bool (by rw [HB.out]; simp; omega), ((Fr.refl No w).alloc _).callNo hf⟩
    · have hb2 : ¬ 32 < (dig L32 n).length := fun hc => hb ((big_iff n).2 hc)
      have HB := Lib.hid (show big n = false by simpa using hb)
      clear hb
      go_enter Tryd.func53, Tryd.ntmps53
      go_wp2_with fail
      refine (Long_calls B neg a0 c0 n _ hl h77 HN.out (by simp; omega) (h.alloc _)).mono ?_
      rintro e w1 ⟨rfl, hf⟩
      go_wp2_with fail
      go_ret
      exact ⟨ret_bool (by rw [HB.out]; simp; omega), ((Fr.refl No w).alloc _).callNo hf⟩
  · have HB := Lib.hid (show big n = false by
      cases hb : big n with
      | false => rfl
      | true => exact absurd (big_77 hb) h77)
    go_enter Tryd.func53, Tryd.ntmps53
    go_wp2_with fail
    go_ret
    exact ⟨ret_bool (by rw [HB.out]), (Fr.refl No w).alloc _⟩

end Go.Proofs.YtklhfbgmadblcaaDoor
