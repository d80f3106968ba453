/- Printing: bits.Len32, limbs.Bits, whole.Sign, whole.Text; sum, adds, single. -/
import Derived.Test.YtlklijpjacmgpaaGreatDoorLO
import Derived.Lib.BitFns
import Derived.Lib.Small
namespace Go.Proofs.YtlklijpjacmgpaaGreatDoor
open Go.RowKit
set_option linter.unusedVariables false
set_option linter.unusedSimpArgs false
attribute [local go_sem ↓] Go.wp_at_zero Go.wp_at_succ

theorem ba_append (a b : List UInt8) : (⟨a.toArray⟩ : ByteArray) ++ ⟨b.toArray⟩ = ⟨(a ++ b).toArray⟩ := by
  simp [ByteArray.mk_append_mk]
theorem tab_size : Lib.len8tab.size = 256 := by decide +kernel
theorem tab_all : ∀ n : Fin 256, (Lib.len8tab.data.toList[n.val]?).map UInt8.toNat = some (Lib.bitLen n.val) := by decide +kernel
theorem tab_at (n : Nat) (h : n < Lib.len8tab.size) : (Lib.len8tab[n]'h).toNat = Lib.bitLen n ∧ Lib.bitLen n ≤ 8 := by
  have hn : n < 256 := by rw [← tab_size]; exact h
  have h1 := tab_all ⟨n, hn⟩
  have h2 : Lib.len8tab.data.toList[n]? = some (Lib.len8tab[n]'h) := by
    rw [List.getElem?_eq_getElem (by rw [Array.length_toList]; exact h)]
    rfl
  simp only [h2, Option.map_some, Option.some.injEq] at h1
  exact ⟨h1, Lib.bitLen_le n 8 (by omega) hn⟩
theorem w64 {x : Int} (h0 : 0 ≤ x) (h1 : x ≤ 1000) : wrap64 x = x := by unfold wrap64; omega
set_option maxHeartbeats 4000000 in
set_option maxRecDepth 100000 in
theorem len32_calls (x : Int) (w : World) (h0 : 0 ≤ x) (h1 : x ≤ 4294967295) :
    Calls Tryz.prog 159 #[.int .u32 x] w fun e w' => e = .returned (.int .i64 (Lib.bitLen x.toNat)) ∧ w' = w := by
  go_enter Tryz.func159, Tryz.ntmps159
  go_wp2
  all_goals have hts := tab_size
  all_goals first | (exfalso; omega) | (go_ret; refine ⟨congrArg Ending.returned (congrArg (Value.int IntKind.i64) ?_), rfl⟩)
  · obtain ⟨q1, q2⟩ := tab_at (x / 65536 / 256).toNat (by omega)
    have s := Lib.bitLen_shift24 x.toNat (by omega) (by omega)
    rw [show x.toNat / 16777216 = (x / 65536 / 256).toNat by omega] at s
    rw [q1, w64 (x := (Lib.bitLen (x / 65536 / 256).toNat : Int)) (by omega) (by omega), w64 (by omega) (by omega)]
    omega
  · obtain ⟨q1, q2⟩ := tab_at (x / 65536).toNat (by omega)
    have s := Lib.bitLen_shift16 x.toNat (by omega) (by omega)
    rw [show x.toNat / 65536 = (x / 65536).toNat by omega] at s
    rw [q1, w64 (x := (Lib.bitLen (x / 65536).toNat : Int)) (by omega) (by omega), w64 (by omega) (by omega)]
    omega
  · obtain ⟨q1, q2⟩ := tab_at (x / 256).toNat (by omega)
    have s := Lib.bitLen_shift8 x.toNat (by omega) (by omega)
    rw [show x.toNat / 256 = (x / 256).toNat by omega] at s
    rw [q1, w64 (x := (Lib.bitLen (x / 256).toNat : Int)) (by omega) (by omega), w64 (by omega) (by omega)]
    omega
  · obtain ⟨q1, q2⟩ := tab_at x.toNat (by omega)
    rw [q1, w64 (x := (Lib.bitLen x.toNat : Int)) (by omega) (by omega), w64 (by omega) (by omega)]
theorem bitLen_pos {x : Nat} (h0 : x ≠ 0) (h : x < 2 ^ 64) : 1 ≤ Lib.bitLen x := by rw [Lib.bitLen_half x h0 h]; omega
/-- the top limb of a number is not 0 -/
theorem dig_top {b n : Nat} (hb : 2 ≤ b) (h : n ≠ 0) : ∃ k x, (dig b n).length = k + 1 ∧ (dig b n)[k]? = some x ∧ x ≠ 0 := by
  have h1 : trimT (dig b n) = dig b n := by rw [trimT_eq hb (dig_lt hb n), valB_dig hb]
  obtain ⟨k, hk, he, _, hz⟩ := trimT_prefix (dig b n)
  rw [h1] at he
  have hl : (dig b n).length = k := by
    have := congrArg List.length he
    rw [List.length_take] at this
    omega
  have hne : dig b n ≠ [] := by rw [dig_pos hb h]; simp
  have hk0 : k ≠ 0 := by
    intro e
    rw [e] at hl
    exact hne (List.length_eq_zero_iff.1 hl)
  rcases hz with hz | ⟨y, hy, hy0⟩
  · exact absurd hz hk0
  · exact ⟨k - 1, y, by omega, hy, hy0⟩
set_option maxHeartbeats 2000000 in
set_option maxRecDepth 100000 in
theorem bits_calls (B : Nat) (a : Option Addr) (c n : Nat) (w : World) (hl : (dig L32 n).length ≤ 100000) (h : w.ownsRow B 57 1 (.slice a (dig L32 n).length c) (dig L32 n).length (u32s (dig L32 n))) :
    Calls Tryz.prog 151 #[.slice a (dig L32 n).length c] w fun e w' => (∃ k : Int, e = .returned (.int .i64 k) ∧ 0 ≤ k ∧ (k = 0 ↔ n = 0)) ∧ Fr No w w' := by
  have hsh := short_calls B (.slice a (dig L32 n).length c) (dig L32 n) w (by omega) h
  rw [trimT_dig] at hsh
  by_cases h0 : n = 0
  · subst h0
    rw [dig_zero] at hsh ⊢
    go_enter Tryz.func151, Tryz.ntmps151
    go_wp2_with fail
    refine hsh.mono ?_
    rintro e w1 ⟨a1, c1, rfl, ho, hb, q⟩
    simp only [List.length_nil]
    go_wp2_with fail
    go_ret
    exact ⟨⟨0, rfl, by omega, by simp⟩, q.fr No⟩
  · obtain ⟨k, x, hlen, hx, hx0⟩ := dig_top (b := L32) (by unfold L32; omega) h0
    have hxl : x < 4294967296 := dig_lt (b := L32) (by unfold L32; omega) n x (List.mem_of_getElem? hx)
    obtain ⟨ds, hds⟩ : ∃ ds, dig L32 n = ds := ⟨_, rfl⟩
    rw [hds] at hsh hlen hx hl ⊢
    have HD := Lib.hid (And.intro hds (And.intro hx h0))
    clear hds hx h h0
    rw [hlen] at hsh ⊢
    have HL := Lib.hid hlen
    clear hlen
    go_enter Tryz.func151, Tryz.ntmps151
    go_wp2_with fail
    refine hsh.mono ?_
    rintro e w1 ⟨a1, c1, rfl, ho, hb, q⟩
    have hf := q.fr No
    rcases own_cases ho with ⟨h1, h2, h3⟩ | ⟨g, cap, h1, hB, hg, hcap⟩
    · omega
    · rw [h1] at ho ⊢
      have hc : w1.cell? ⟨g, k, none⟩ = some (.int .u32 x) := own_cell ho (u32s_get HD.out.2.1)
      have hkl : k + 1 ≤ 100000 := by rw [HL.out] at hl; exact hl
      have e1 : IntKind.i64.wrap ((k : Int) + 1 - 1) = (k : Int) := by rw [show (k : Int) + 1 - 1 = (k : Int) by omega]; exact IntWalk.i64_in _ (by omega)
      clear h1 ho hb hsh
      go_wp2_with fail
      refine (len32_calls x _ (by omega) (by omega)).mono ?_
      rintro e w2 ⟨rfl, rfl⟩
      have hp := bitLen_pos (x := x) hx0 (by omega)
      have hq := Lib.bitLen_le x 32 (by omega) (by omega)
      rw [show ((x : Int)).toNat = x from rfl]
      obtain ⟨bl, hbl⟩ : ∃ bl, Lib.bitLen x = bl := ⟨_, rfl⟩
      rw [hbl] at hp hq ⊢
      have HBL := Lib.hid hbl
      clear hbl
      have e2 : IntKind.i64.wrap (32 * (k : Int) + (bl : Int)) = 32 * (k : Int) + (bl : Int) := IntWalk.i64_in _ (by omega)
      go_wp2_with fail
      go_ret
      exact ⟨⟨_, rfl, by omega, by have := HD.out.2.2; omega⟩, hf⟩
/-- a whole number with a sign: as it is told -/
def WhIs (w : World) (B : Nat) (neg : Bool) (n : Nat) (a : Option Addr) (c : Nat) : Prop := w.ownsRow B 57 1 (.slice a (dig L32 n).length c) (dig L32 n).length (u32s (dig L32 n))
def sgT (neg : Bool) (n : Nat) : List UInt8 := if neg && decide (n ≠ 0) then 45 :: decText n else decText n
set_option maxHeartbeats 2000000 in
set_option maxRecDepth 100000 in
theorem wSign_calls (B : Nat) (neg : Bool) (a : Option Addr) (c n : Nat) (w : World) (hl : (dig L32 n).length ≤ 100000) (h : WhIs w B neg n a c) :
    Calls Tryz.prog 126 #[whV neg a (dig L32 n).length c] w fun e w' => (∃ k : Int, e = .returned (.int .i64 k) ∧ decide (k < 0) = (neg && decide (n ≠ 0))) ∧ Fr No w w' := by
  unfold WhIs at h
  obtain ⟨m, hm⟩ : ∃ m, (dig L32 n).length = m := ⟨_, rfl⟩
  have hb := bits_calls B a c n (w.alloc (.cells #[.bool neg, .slice a m c] 54 (0, 0))) hl (h.alloc _)
  rw [hm] at hb hl ⊢
  clear h hm
  go_enter Tryz.func126, Tryz.ntmps126
  go_wp2_with fail
  refine hb.mono ?_
  rintro e w1 ⟨⟨k, rfl, hk0, hk⟩, hf⟩
  have hN := (Blk.new w (.cells #[.bool neg, .slice a m c] 54 (0, 0))).fr hf (fun x => x)
  have hF := ((Fr.refl No w).alloc (.cells #[.bool neg, .slice a m c] 54 (0, 0))).callNo hf
  have R := Blk.all hN
  have HK := Lib.hid hk
  clear hk hf hb
  by_cases hkz : k = 0
  · have hn : n = 0 := HK.out.1 hkz
    subst hkz
    go_wp2_with fail
    go_ret
    exact ⟨⟨0, rfl, by subst hn; simp⟩, hF⟩
  · have hn : n ≠ 0 := fun e => hkz (HK.out.2 e)
    have hb1 : (k == 0) = false := by simpa using hkz
    have HN := Lib.hid hn
    clear hkz hn
    cases neg with
    | true =>
      go_wp2_with fail
      go_ret
      exact ⟨⟨-1, rfl, by simp [HN.out]⟩, hF⟩
    | false =>
      go_wp2_with fail
      go_ret
      exact ⟨⟨1, rfl, by simp⟩, hF⟩
set_option maxHeartbeats 2000000 in
set_option maxRecDepth 100000 in
theorem wText_calls (B : Nat) (neg : Bool) (a : Option Addr) (c n : Nat) (w : World) (hl : (dig L32 n).length ≤ 32) (h : WhIs w B neg n a c) :
    Calls Tryz.prog 81 #[whV neg a (dig L32 n).length c] w fun e w' => e = .returned (.string ⟨(sgT neg n).toArray⟩) ∧ Fr No w w' := by
  have hdt : (decText n).length ≤ 1024 := dec_len (Nat.lt_of_lt_of_le ((dig_len_le (by unfold L32; omega)).1 hl) (by unfold L32; decide +kernel)) (by omega)
  obtain ⟨m, hm⟩ : ∃ m, (dig L32 n).length = m := ⟨_, rfl⟩
  have hs := fun (W : World) (f : Fr No w W) => wSign_calls B neg a c n W (by omega) (own_fr h f (fun _ _ x => x))
  have ht := fun (W : World) (f : Fr No w W) => Text_calls B a c (dig L32 n) W (by omega) (dig_lt (by unfold L32; omega) n) (own_fr h f (fun _ _ x => x))
  rw [valB_dig (by unfold L32; omega)] at ht
  rw [hm] at hs ht hl ⊢
  have HS := Lib.hid (And.intro hs ht)
  clear h hm hs ht
  have hN0 := Blk.new w (.cells #[.bool neg, .slice a m c] 54 (0, 0))
  have hF0 := (Fr.refl No w).alloc (.cells #[.bool neg, .slice a m c] 54 (0, 0))
  go_enter Tryz.func81, Tryz.ntmps81
  go_wp2_with fail
  refine (HS.out.1 _ hF0).mono ?_
  rintro e w1 ⟨⟨k, rfl, hk⟩, hf1⟩
  have hN1 := hN0.fr hf1 (fun x => x)
  have hF1 := hF0.callNo hf1
  have R := Blk.all hN1
  clear hN0 hF0 hf1
  obtain ⟨bt, hbt⟩ : ∃ bt, (neg && decide (n ≠ 0)) = bt := ⟨_, rfl⟩
  rw [hbt] at hk
  have HB := Lib.hid hbt
  clear hbt
  obtain ⟨D, hD⟩ : ∃ D, decText n = D := ⟨_, rfl⟩
  rw [hD] at hdt
  have HD := Lib.hid hD
  clear hD
  cases bt with
  | true =>
    go_wp2_with fail
    refine (HS.out.2 _ hF1).mono ?_
    rintro e w2 ⟨rfl, hf2⟩
    rw [HD.out]
    go_wp2_with fail
    go_ret
    exact ⟨by unfold sgT; rw [HB.out, if_pos rfl, HD.out]; exact congrArg (fun x => Ending.returned (.string x)) (ba_append [45] D), hF1.callNo hf2⟩
  | false =>
    go_wp2_with fail
    refine (HS.out.2 _ hF1).mono ?_
    rintro e w2 ⟨rfl, hf2⟩
    go_wp2_with fail
    go_ret
    exact ⟨by unfold sgT; rw [HB.out]; rfl, hF1.callNo hf2⟩
end Go.Proofs.YtlklijpjacmgpaaGreatDoor
