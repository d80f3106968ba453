/- read, and what it defers; Parse. -/
import Derived.Test.YtlklijpjacmgpaaGreatDoorLO
import Derived.Defers
import Derived.Recover
namespace Go.Proofs.YtlklijpjacmgpaaGreatDoor
open Go.RowKit
set_option linter.unusedVariables false
set_option linter.unusedSimpArgs false
attribute [local go_sem ↓] Go.wp_at_zero Go.wp_at_succ

def eO (c : Int) : Obj := .cells #[.int .i64 c] 24 (0, 0)
def plaO (p : Pl) : Obj := .cells #[.int .i64 p.b, .int .i64 p.g, .int .i64 p.l, .int .i64 p.c] 26 (0, 0)
def CatchOut (E A : Nat) (c : Int) (p : Pl) (older : List PanicEntry) (w : World) (e : Ending) (u' : FrameMode) (w' : World) : Prop :=
  e = .returned (.tuple #[]) ∧ u' = .panicking ({ v := fltV c p, recovered := true } :: older) ∧ Blk w' E (eO c) ∧ Blk w' A (plaO p) ∧ Fr (fun k => k = E ∨ k = A) w w'
set_option maxRecDepth 100000 in
set_option maxHeartbeats 1000000 in
theorem catch_panicking (E A : Nat) (c0 c : Int) (p0 p : Pl) (older : List PanicEntry) (w : World) (hE : Blk w E (eO c0)) (hA : Blk w A (plaO p0)) (hne : E ≠ A) :
    CallsD Tryz.prog 63 #[.pointer (some ⟨E, 0, none⟩), .pointer (some ⟨A, 0, none⟩)] (.panicking ({ v := fltV c p, recovered := false } :: older)) w (CatchOut E A c p older w) := by
  refine callsD_of_wpS Tryz.func63 rfl fun c₀ cs hu => ?_
  apply wpS_seq
  apply wpS_region
  simp [wpOpsS, go_sem, recoverD, hu, Tryz.ntmps63, Exit.thenS]
  have RE := Blk.all hE
  have RA := Blk.all hA
  have ZE := Blk.frees hE
  have ZA := Blk.frees hA
  have hEl := hE.lt
  have hAl := hA.lt
  unfold fltV
  have hta : ∀ w : World, (Instr.typeAssert (.iface 132 (.agg #[.int .i64 c, .int .i64 p.b, .int .i64 p.g, .int .i64 p.l, .int .i64 p.c])) 20 132 false).run Tryz.prog w = .ok (.agg #[.int .i64 c, .int .i64 p.b, .int .i64 p.g, .int .i64 p.l, .int .i64 p.c]) w := fun w => by kernel_rfl
  have hrp : (Array.replicate 11 undef : Array Value) = #[undef, undef, undef, undef, undef, undef, undef, undef, undef, undef, undef] := rfl
  rw [hrp]
  clear hrp
  simp only [List.setIfInBounds_toArray, List.append_toArray, List.set_cons_zero, List.set_cons_succ, List.cons_append, List.nil_append]
  clear RE RA ZE ZA
  apply wpS_seq
  apply wpS_region
  simp [wpOpsS, go_sem, Exit.thenS]
  refine wpS_cond (t := true) (by simp [Act.eval]) ?_
  simp only [if_true]
  apply wpS_seq
  apply wpS_region
  simp [wpOpsS, go_sem, Exit.thenS, hta]
  refine wpS_of_wp ?_
  have hF := (Blk.new w (.cells #[.int .i64 c, .int .i64 p.b, .int .i64 p.g, .int .i64 p.l, .int .i64 p.c] 132 (0, 0))).drew
  have hE1 := (hE.alloc (.cells #[.int .i64 c, .int .i64 p.b, .int .i64 p.g, .int .i64 p.l, .int .i64 p.c] 132 (0, 0))).drew
  have hA1 := (hA.alloc (.cells #[.int .i64 c, .int .i64 p.b, .int .i64 p.g, .int .i64 p.l, .int .i64 p.c] 132 (0, 0))).drew
  have hFr : Fr (fun k => k = E ∨ k = A) w (w.alloc (.cells #[.int .i64 c, .int .i64 p.b, .int .i64 p.g, .int .i64 p.l, .int .i64 p.c] 132 (0, 0))).drew := ((Fr.refl _ w).alloc _).drew
  obtain ⟨W1, hW1⟩ : ∃ W1, w.alloc (.cells #[.int .i64 c, .int .i64 p.b, .int .i64 p.g, .int .i64 p.l, .int .i64 p.c] 132 (0, 0)) = W1 := ⟨_, rfl⟩
  rw [hW1] at hF hE1 hA1 hFr ⊢
  obtain ⟨F, hFe⟩ : ∃ F, w.heap.size = F := ⟨_, rfl⟩
  rw [hFe] at hF ⊢
  have hEF : E ≠ F := by omega
  have hAF : A ≠ F := by omega
  clear hW1 hFe hEl hAl
  have RF := Blk.all hF
  have RE := Blk.all hE1
  have hAr : Blk W1.drew A (.cells #[.int .i64 p0.b, .int .i64 p0.g, .int .i64 p0.l, .int .i64 p0.c] 26 (0, 0)) := hA1
  have RA : ∀ i, W1.cell? ⟨A, i, none⟩ = (#[.int .i64 p0.b, .int .i64 p0.g, .int .i64 p0.l, .int .i64 p0.c] : Array Value)[i]? := Blk.all hAr
  have A0 := RA 0
  have A1 := RA 1
  have A2 := RA 2
  have A3 := RA 3
  simp at A0 A1 A2 A3
  have RFW : ∀ i, W1.cell? ⟨F, i, none⟩ = (#[.int .i64 c, .int .i64 p.b, .int .i64 p.g, .int .i64 p.l, .int .i64 p.c] : Array Value)[i]? := RF
  have F0 := RFW 0
  have F1 := RFW 1
  have F2 := RFW 2
  have F3 := RFW 3
  have F4 := RFW 4
  simp at F0 F1 F2 F3 F4
  have ZE := Blk.frees hE1
  have ZA : ∀ i, W1.frozen? ⟨A, i, none⟩ = false := Blk.frees hAr
  have Z0 := ZA 0
  have Z1 := ZA 1
  have Z2 := ZA 2
  have Z3 := ZA 3
  go_region
  have e1 : Blk (W1.setCell ⟨E, 0, none⟩ (.int .i64 c)) E (eO c) := (show Blk W1 E (.cells #[.int .i64 c0] 24 (0, 0)) from hE1).setOff 0 (.int .i64 c)
  have f1 : Fr (fun k => k = E ∨ k = A) w (W1.setCell ⟨E, 0, none⟩ (.int .i64 c)) := (show Fr (fun k => k = E ∨ k = A) w W1 from ⟨hFr.os, hFr.tape, hFr.output, hFr.size, hFr.block⟩).setCell (a := ⟨E, 0, none⟩) _ (fun _ => Or.inl rfl)
  have a1 := (show Blk W1 A (.cells #[.int .i64 p0.b, .int .i64 p0.g, .int .i64 p0.l, .int .i64 p0.c] 26 (0, 0)) from hA1).set_ne ⟨E, 0, none⟩ (.int .i64 c) hne.symm
  have a2 := set4 a1 (.int .i64 p.b) (.int .i64 p.g) (.int .i64 p.l) (.int .i64 p.c)
  have f2 := fr4 f1 (N := A) (fun _ _ => Or.inr rfl) (.int .i64 p.b) (.int .i64 p.g) (.int .i64 p.l) (.int .i64 p.c)
  have e2 := e1.fr (fr4 (Fr.refl (· = A) _) (fun _ _ => rfl) (.int .i64 p.b) (.int .i64 p.g) (.int .i64 p.l) (.int .i64 p.c)) hne
  exact ⟨rfl, _, rfl, _, results_none rfl _ _ _, rfl, rfl, e2.drew, a2.drew, f2.drew⟩
def IdleOut (w : World) (e : Ending) (u' : FrameMode) (w' : World) : Prop := e = .returned (.tuple #[]) ∧ u' = .returning ∧ w' = w
theorem catch_idle (E A : Nat) (w : World) :
    CallsD Tryz.prog 63 #[.pointer (some ⟨E, 0, none⟩), .pointer (some ⟨A, 0, none⟩)] .returning w (IdleOut w) := by
  refine callsD_of_wpS Tryz.func63 rfl fun c₀ cs hu => ?_
  apply wpS_seq
  apply wpS_region
  simp [wpOpsS, go_sem, recoverD, hu, Tryz.ntmps63, Exit.thenS]
  apply wpS_seq
  apply wpS_region
  simp [wpOpsS, go_sem, Exit.thenS]
  refine wpS_cond (t := false) (by simp [Act.eval, Array.replicate]) ?_
  simp only [Bool.false_eq_true, if_false]
  refine wpS_of_wp (wp_skip ?_)
  cases c₀
  exact ⟨rfl, _, by simp_all, _, results_none rfl _ _ _, rfl, rfl, rfl⟩
end Go.Proofs.YtlklijpjacmgpaaGreatDoor
