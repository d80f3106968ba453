/- The reference's reader: Begin, End, Look, Next. -/
import Derived.Test.YtklhfbgmadblcaaDoorA3
namespace Go.Proofs.YtklhfbgmadblcaaDoor
open Go.RowKit
set_option linter.unusedVariables false
set_option linter.unusedSimpArgs false

def lookV (S : ByteArray) (i : Nat) : Int := if S.size ≤ i then -1 else match dec (S.data.toList.drop i) with
  | some p => p.1
  | none => -2

theorem point_some {S : ByteArray} {i c n : Nat} (hi : i < S.size) (hS : S.size ≤ 4096) (hd : dec (S.data.toList.drop i) = some (c, n)) (w : World) :
    Calls Tryd.prog 66 #[.string S, .int .i64 i] w fun e w' => e = .returned (.tuple #[.int .i64 c, .int .i64 n]) ∧ w' = w :=
  (point_calls S i w hi hS).mono fun e w' ⟨h1, h2⟩ => ⟨by rw [h1, hd]; rfl, h2.symm⟩
theorem point_none {S : ByteArray} {i : Nat} (hi : i < S.size) (hS : S.size ≤ 4096) (hd : dec (S.data.toList.drop i) = none) (w : World) :
    Calls Tryd.prog 66 #[.string S, .int .i64 i] w fun e w' => e = .returned (.tuple #[.int .i64 0, .int .i64 0]) ∧ w' = w :=
  (point_calls S i w hi hS).mono fun e w' ⟨h1, h2⟩ => ⟨by rw [h1, hd]; rfl, h2.symm⟩

set_option maxHeartbeats 400000 in
theorem End_calls (b : Nat) (S : ByteArray) (p : Pl) (w : World) (hS : S.size ≤ 4096) (hb : Blk w b (rdO S p)) :
    Calls Tryd.prog 41 #[ptrV b] w fun e w' => e = .returned (.bool (decide ((S.size : Int) ≤ p.b))) ∧ Qd w w' := by
  have h0 : w.cell? ⟨b, 0, none⟩ = some (.string S) := hb.cell 0 _ rfl
  have h1 : w.cell? ⟨b, 1, none⟩ = some (.int .i64 p.b) := hb.cell 1 _ rfl
  go_enter Tryd.func41, Tryd.ntmps41
  go_wp2
  go_quiet (fail)
  go_wp2
  go_ret
  exact ⟨by simp, _, rfl⟩

set_option maxHeartbeats 400000 in
theorem Look_calls (b : Nat) (S : ByteArray) (p : Pl) (w : World) (hS : S.size ≤ 4096) (hb : Blk w b (rdO S p)) :
    Calls Tryd.prog 42 #[ptrV b] w fun e w' => e = .returned (.int .i64 (lookV S p.b)) ∧ Qd w w' := by
  by_cases hlt : S.size ≤ p.b
  · go_enter Tryd.func42, Tryd.ntmps42
    go_wp2_with fail
    refine (End_calls b S p _ hS hb).mono ?_
    rintro e w' ⟨rfl, hq⟩
    go_wp2
    go_ret
    exact ⟨ret_int (by unfold lookV; rw [if_pos hlt]), hq⟩
  · cases hd : dec (S.data.toList.drop p.b) with
    | none =>
      have HD := Lib.hid hd
      clear hd
      go_enter Tryd.func42, Tryd.ntmps42
      go_wp2_with fail
      refine (End_calls b S p _ hS hb).mono ?_
      rintro e w1 ⟨rfl, hq⟩
      have hb1 := hq.blk hb
      have h0 : w1.cell? ⟨b, 0, none⟩ = some (.string S) := hb1.cell 0 _ rfl
      have h1 : w1.cell? ⟨b, 1, none⟩ = some (.int .i64 p.b) := hb1.cell 1 _ rfl
      clear hb hb1
      go_wp2_with fail
      go_quiet ((go_at_call 66; exact Calls.quiet_of_same (point_none (by omega) hS HD.out _)))
      go_wp2
      go_ret
      exact ⟨ret_int (by unfold lookV; rw [if_neg hlt, HD.out]), hq.trans ⟨_, rfl⟩⟩
    | some q =>
      obtain ⟨c, n⟩ := q
      have hn := dec_pos hd
      have HD := Lib.hid hd
      have hz : ((n : Int) == 0) = false := by simp; omega
      clear hd
      go_enter Tryd.func42, Tryd.ntmps42
      go_wp2_with fail
      refine (End_calls b S p _ hS hb).mono ?_
      rintro e w1 ⟨rfl, hq⟩
      have hb1 := hq.blk hb
      have h0 : w1.cell? ⟨b, 0, none⟩ = some (.string S) := hb1.cell 0 _ rfl
      have h1 : w1.cell? ⟨b, 1, none⟩ = some (.int .i64 p.b) := hb1.cell 1 _ rfl
      clear hb hb1
      go_wp2_with fail
      go_quiet ((go_at_call 66; exact Calls.quiet_of_same (point_some (by omega) hS HD.out _)))
      go_wp2
      go_ret
      exact ⟨ret_int (by unfold lookV; rw [if_neg hlt, HD.out]), hq.trans ⟨_, rfl⟩⟩

set_option maxHeartbeats 1000000 in
theorem Next_calls (b : Nat) (S : ByteArray) (p : Pl) (c n : Nat) (w : World) (hS : S.size ≤ 4096) (hp : p.fits 4096) (hlt : p.b < S.size) (hd : dec (S.data.toList.drop p.b) = some (c, n)) (hb : Blk w b (rdO S p)) :
    Calls Tryd.prog 43 #[ptrV b] w fun e w' => e = .returned (.tuple #[]) ∧ Blk w' b (rdO S (behind p c)) ∧ Fr (· = b) w w' := by
  obtain ⟨p1, p2, p3, p4⟩ := hp
  have hn := dec_pos hd
  have hn2 := dec_le hd
  have hn3 := (dec_spec hd).2.1
  simp only [List.length_drop, ← Lib.size_eq] at hn2
  have HD := Lib.hid hd
  have HN := Lib.hid hn3
  have h0 : w.cell? ⟨b, 0, none⟩ = some (.string S) := hb.cell 0 _ rfl
  have h1 : w.cell? ⟨b, 1, none⟩ = some (.int .i64 p.b) := hb.cell 1 _ rfl
  have h2 : w.cell? ⟨b, 2, none⟩ = some (.int .i64 p.g) := hb.cell 2 _ rfl
  have h3 : w.cell? ⟨b, 3, none⟩ = some (.int .i64 p.l) := hb.cell 3 _ rfl
  have h4 : w.cell? ⟨b, 4, none⟩ = some (.int .i64 p.c) := hb.cell 4 _ rfl
  have f1 := hb.free 1
  have f2 := hb.free 2
  have f3 := hb.free 3
  have f4 := hb.free 4
  clear hd hn3
  by_cases h10 : c = 10
  · subst h10
    go_enter Tryd.func43, Tryd.ntmps43
    go_wp2_with fail
    go_quiet ((go_at_call 66; exact Calls.quiet_of_same (point_some (by omega) hS HD.out _)))
    go_wp2
    go_end0
    refine ⟨rfl, ((((((hb.drewN _).setOff 1 _).setOff 2 _).setOff 4 _).setOff 3 _).setOff 4 _).cast ?_, by (with_reducible repeat (first | refine Fr.setCell ?_ _ (fun _ => rfl) | refine Fr.drewN ?_ _ | exact Fr.refl _ _))⟩
    have hN := HN.out
    simp [rdO, behind]
    omega
  · have hz : ((c : Int) == 10) = false := by simp; omega
    go_enter Tryd.func43, Tryd.ntmps43
    go_wp2_with fail
    go_quiet ((go_at_call 66; exact Calls.quiet_of_same (point_some (by omega) hS HD.out _)))
    go_wp2
    go_end0
    refine ⟨rfl, ((((hb.drewN _).setOff 1 _).setOff 2 _).setOff 4 _).cast ?_, by (with_reducible repeat (first | refine Fr.setCell ?_ _ (fun _ => rfl) | refine Fr.drewN ?_ _ | exact Fr.refl _ _))⟩
    have hN := HN.out
    simp [rdO, behind, h10]
    omega

end Go.Proofs.YtklhfbgmadblcaaDoor
