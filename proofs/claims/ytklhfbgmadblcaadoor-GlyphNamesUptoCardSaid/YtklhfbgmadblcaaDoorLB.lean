/- The walk of GlyphNames. -/
import Derived.Test.YtklhfbgmadblcaaDoorN3
import Derived.Test.YtklhfbgmadblcaaDoorE1
namespace Go.Proofs.YtklhfbgmadblcaaDoor
open Go.RowKit
set_option linter.unusedVariables false
set_option linter.unusedSimpArgs false
attribute [local go_sem ↓] Go.wp_at_zero Go.wp_at_succ

theorem toksV_one (l : List Tok) (k : Nat) (x : ByteArray) : toksV (l ++ [⟨k, x.data.toList, zeroPl⟩]) = toksV l ++ [.int .i64 k, .string x, .int .i64 0, .int .i64 0, .int .i64 0, .int .i64 0] := by
  unfold toksV
  rw [List.flatMap_append]
  rfl
theorem one_tok (k : Nat) (x : ByteArray) : ∀ u ∈ [Value.int .i64 (k : Int), .string x, .int .i64 0, .int .i64 0, .int .i64 0, .int .i64 0], u.oneCell' = true := by
  intro u hu
  simp only [List.mem_cons, List.not_mem_nil, or_false] at hu
  rcases hu with rfl | rfl | rfl | rfl | rfl | rfl <;> rfl

set_option maxRecDepth 100000 in
set_option maxHeartbeats 4000000 in
theorem law_names (s : ByteArray) (hs : s.size ≤ maxLen) (v : Value) (z : List ByteArray) (w : World) (hv : IsStrs w v z) (hz : bulkZ z ≤ 1048576) (hT : Tb w) : Calls Tryd.prog 12 #[.string s, v] w fun e w' => e = .returned (.bool true) ∧ Fr No w w' := by
  obtain ⟨a, cap, rfl, hzc⟩ := hv
  have hzl := bulkZ_len z
  obtain ⟨i0, hi, hz0, hz1, hz2⟩ := info_parts info_tok
  go_enter Tryd.func12, Tryd.ntmps12
  go_wp2_with fail
  refine (awake_calls w hT).mono ?_
  rintro e w1 ⟨rfl, hf⟩
  go_wp2_with fail
  go_loopg [5, 6] z.length (fun r x5 x6 wr => ∃ (k : Nat) (a5 : Option Addr) (c5 : Nat), r = z.length - k ∧ k ≤ z.length ∧ x6 = .int .i64 k ∧ x5 = .slice a5 k c5 ∧ wr.ownsRow w1.heap.size 37 6 (.slice a5 k c5) k (toksV (toksFrom 0 (z.take k))) ∧ Fr No w1 wr)
  case atStart => exact ⟨0, none, 0, rfl, Nat.zero_le _, rfl, rfl, World.ownsRow_nil _ _ _ _, Fr.refl _ _⟩
  case round =>
    obtain ⟨k, a5, c5, hr, hk, rfl, rfl, ho, hf2⟩ := hrel
    have HR := Lib.hid hr
    clear hr
    by_cases hlt : k < z.length
    · obtain ⟨x, hx⟩ : ∃ x, z[k]? = some x := ⟨z[k], List.getElem?_eq_getElem hlt⟩
      obtain ⟨b, off, rfl, hcz⟩ := hzc (by omega)
      have hc := Fr.cell (hf.callNo hf2) (hcz k x hx)
      have hbr : b < wr.heap.size := by
        rcases Nat.lt_or_ge b wr.heap.size with hh | hh
        · exact hh
        · simp [World.cell?, hh] at hc
      have HX := Lib.hid (And.intro hx hzc)
      have hfs := hf2.size
      have hxw := Lib.size_eq x
      clear hx hcz hzc
      have j0 : (0 : Int) ≤ (k : Int) := by omega
      have j1 : (k : Int) < (z.length : Int) := by omega
      go_wp2_with ((at_builtin; refine wpList_append_own _ rfl _ _ 25 rfl w1.heap.size 37 i0 (.agg #[.int .i64 0, .string ⟨#[]⟩, .int .i64 0, .int .i64 0, .int .i64 0, .int .i64 0]) 6 56 Tryd.underlying25 hi hz0 hz1 hz2 rfl (by decide) _ _ _ rfl (ho.alloc _) ⟨wr.heap.size, 0, none⟩ 1 1 [.int .i64 k, .string x, .int .i64 0, .int .i64 0, .int .i64 0, .int .i64 0] rfl rfl ?c1 ?c2 ?c3 ?c4 ?c5 ?_; (case c1 => exact new_row _ _ _); (case c2 => exact one_tok _ _); (case c3 => (unfold maxLen; omega)); (case c4 => omega); (case c5 => (simp; omega)); intro v6 w6 hown6 hgr6 _))
      obtain ⟨a6, c6, rfl⟩ := own_form hown6
      go_roundg (z.length - (k + 1))
      case measure => rw [HR.out]; omega
      case rel =>
        refine ⟨k + 1, a6, c6, rfl, by omega, by go_num, rfl, ?_, (hf2.alloc _).grown hgr6 (fun j h1 h2 => by have := ho.lt j h1; omega)⟩
        rw [toksFrom_take z k x HX.out.1, toksV_one]
        exact hown6
    · obtain rfl : k = z.length := by omega
      rw [List.take_length] at ho
      have hl := toksFrom_len 0 z
      have hj := joinT_bulk 0 z
      obtain ⟨l, hle⟩ : ∃ l, toksFrom 0 z = l := ⟨_, rfl⟩
      rw [hle] at hl hj ho
      rw [← hl] at ho ⊢
      have hf3 := hf.callNo hf2
      have hT3 := hT.no hf3
      have hlb : l.length ≤ 1000000000000 := by omega
      have hjb : (joinT l).length ≤ 140737488355328 := by omega
      clear hzc hf2 hf hle hl hj hz hzl hk hlt
      obtain ⟨nb, hnb⟩ : ∃ nb, nameB s.data.toList = nb := ⟨_, rfl⟩
      have HA := Lib.hid (fun w hT => Name_calls s w hT hs)
      have HB := Lib.hid (fun w => rName_calls s w hs)
      rw [hnb] at HA HB
      go_wp2_with fail
      refine (HA.out _ hT3).mono ?_
      rintro e w2 ⟨rfl, hf4⟩
      have ho4 := own_fr ho hf4 (fun _ _ x => x)
      have hf5 := hf3.callNo hf4
      clear ho hf3 hf4 hT3 hT
      go_wp2_with fail
      refine (HB.out _).mono ?_
      rintro e w3 ⟨rfl, hf6⟩
      have ho5 := own_fr ho4 hf6 (fun _ _ x => x)
      have hf7 := hf5.callNo hf6
      clear ho4 hf5 hf6
      go_wp2_with fail
      refine (Join_calls l _ _ _ _ hlb hjb ho5).mono ?_
      rintro e w4 ⟨rfl, hf8⟩
      have ho6 := own_fr ho5 hf8 (fun _ _ x => x)
      have hf9 := hf7.callNo hf8
      clear ho5 hf7 hf8
      go_wp2_with fail
      refine (rJoin_calls l _ _ _ _ hlb hjb ho6).mono ?_
      rintro e w5 ⟨rfl, hfA⟩
      have hfB := hf9.callNo hfA
      go_wp2_with fail
      go_ret
      exact ⟨by simp, hfB⟩
end Go.Proofs.YtklhfbgmadblcaaDoor
