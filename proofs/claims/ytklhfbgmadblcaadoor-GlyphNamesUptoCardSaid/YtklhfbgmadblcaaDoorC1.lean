/- The program's scanner: start, behind, broken. -/
import Derived.Test.YtklhfbgmadblcaaDoorB5
import Derived.Test.YtklhfbgmadblcaaDoorShelf
import Derived.Lib.OthersKept
import Derived.Deep.Cut
import Derived.Deep.RegionWith
namespace Go.Proofs.YtklhfbgmadblcaaDoor
open Go.RowKit
set_option linter.unusedVariables false
set_option linter.unusedSimpArgs false

theorem results_c {fn : Func} {p : Tmp} {t1 : TypeId} (h : fn.results = #[.cell p t1]) (tmps : Array Value) (w : World) (g1 : Nat) (cs1 : Array Value)
    (hp : tmps.getD p undef = .pointer (some ⟨g1, 0, none⟩))
    (L1 : (loadVar t1 ⟨g1, 0, none⟩).run Tryd.prog w = .ok (.agg cs1) w) :
    (results fn tmps).run Tryd.prog w = .ok (.agg cs1) w := by
  have hp' : tmps[p]?.getD undef = .pointer (some ⟨g1, 0, none⟩) := by simpa using hp
  simp only [results, h]
  simp [hp', asAddr, L1, Sem.run_bind, Result.andThen]

set_option maxHeartbeats 400000 in
theorem start_calls (w : World) : Calls Tryd.prog 38 #[] w fun e w' => e = .returned (.agg (plA start)) ∧ Fr No w w' := by
  go_enter Tryd.func38, Tryd.ntmps38
  go_wp2_with fail
  exact bodyPost_ret (results_c rfl _ _ w.heap.size (plA start) rfl (load_pl (Blk.new w (.cells (plA start) 27 (0, 0))) rfl)) rfl ⟨rfl, (Fr.refl No w).alloc _⟩

theorem pl_exit2 {w wr : World} {g : Nat} {q : Pl} (h : Blk wr g (plO q)) (hf : Fr No w wr) (hg : ¬ g < w.heap.size) (p : Pl) (W : World)
    (hW : W = (((wr.setCell ⟨g, 0, none⟩ (.int .i64 p.b)).setCell ⟨g, 1, none⟩ (.int .i64 p.g)).setCell ⟨g, 2, none⟩ (.int .i64 p.l)).setCell ⟨g, 3, none⟩ (.int .i64 p.c)) :
    Blk W g (plO p) ∧ Fr No w W := by
  subst hW
  refine ⟨(((h.setOff 0 _).setOff 1 _).setOff 2 _).setOff 3 _, ?_⟩
  exact (((hf.setCell _ (fun h => absurd h hg)).setCell _ (fun h => absurd h hg)).setCell _ (fun h => absurd h hg)).setCell _ (fun h => absurd h hg)

theorem runeLen_ok {c : Nat} (h : okc c = true) : Lib.runeLen (c : Int) = ((enc c).length : Nat) := by
  have hc := okc_iff.1 h
  unfold Lib.runeLen enc
  repeat' split
  all_goals first | rfl | (exfalso; omega) | skip

theorem runeLen_calls {c : Nat} (h : okc c = true) (w : World) : Calls Tryd.prog 68 #[.int .i32 c] w fun e w' => e = .returned (.int .i64 ((enc c).length : Nat)) ∧ w' = w := by
  rw [← runeLen_ok h]; exact Tryd.utf8_RuneLen (c : Int) w

/-- a code is a rune -/
theorem okc_lt {c : Nat} (h : okc c = true) : c < 1114112 := by have := okc_iff.1 h; omega

set_option maxRecDepth 100000 in
set_option maxHeartbeats 1000000 in
theorem behind_calls {c : Nat} (h : okc c = true) (p : Pl) (hp : p.fits 4096) (w : World) :
    Calls Tryd.prog 45 #[.agg (plA p), .int .i32 c] w fun e w' => e = .returned (.agg (plA (behind p c))) ∧ Fr No w w' := by
  obtain ⟨p1, p2, p3, p4⟩ := hp
  have hc := okc_lt h
  have hl := enc_le c
  obtain ⟨n, hn⟩ : ∃ n, (enc c).length = n := ⟨_, rfl⟩
  have hr := fun w => runeLen_calls h w
  rw [hn] at hr hl
  have HN := Lib.hid hn
  clear h hn
  have hB0 : Blk ((w.alloc (.cells (plA p) 27 (0, 0))).alloc (.cells #[.int .i64 0, .int .i64 0, .int .i64 0, .int .i64 0] 27 (0, 0))) w.heap.size (plO p) := (Blk.new w (plO p)).alloc _
  have hB1 : Blk ((w.alloc (.cells (plA p) 27 (0, 0))).alloc (.cells #[.int .i64 0, .int .i64 0, .int .i64 0, .int .i64 0] 27 (0, 0))) (w.heap.size + 1) (plO zeroPl) := by
    have := Blk.new (w.alloc (plO p)) (plO zeroPl)
    rw [show (w.alloc (plO p)).heap.size = w.heap.size + 1 by simp] at this
    exact this
  have hf : Fr No w ((w.alloc (.cells (plA p) 27 (0, 0))).alloc (.cells #[.int .i64 0, .int .i64 0, .int .i64 0, .int .i64 0] 27 (0, 0))) := ((Fr.refl No w).alloc _).alloc _
  have step : ∀ (w1 : World) (x : Int), Blk w1 w.heap.size (plO p) → Blk w1 (w.heap.size + 1) (plO zeroPl) → Fr No w w1 → x = (p.b : Int) + (n : Int) →
      Blk ((w1.setCell ⟨w.heap.size, 0, none⟩ (.int .i64 x)).drew) w.heap.size (plO { p with b := p.b + n }) ∧ Blk ((w1.setCell ⟨w.heap.size, 0, none⟩ (.int .i64 x)).drew) (w.heap.size + 1) (plO zeroPl) ∧ Fr No w ((w1.setCell ⟨w.heap.size, 0, none⟩ (.int .i64 x)).drew) := by
    rintro w1 x h1 h2 h3 rfl
    exact ⟨(h1.setOff 0 _).drew, (h2.set_ne _ _ (by simp)).drew, (h3.setCell _ (by simp)).drew⟩
  by_cases h10 : c = 10
  · have hz : ((c : Int) == 10) = true := by simp; omega
    have H10 := Lib.hid h10
    clear h10
    go_enter Tryd.func45, Tryd.ntmps45
    go_wp2_with fail
    generalize ((w.alloc (.cells (plA p) 27 (0, 0))).alloc (.cells #[.int .i64 0, .int .i64 0, .int .i64 0, .int .i64 0] 27 (0, 0))) = w1 at hB0 hB1 hf ⊢
    have g0 : w1.cell? ⟨w.heap.size, 0, none⟩ = some (.int .i64 p.b) := hB0.cell 0 _ rfl
    have f0 := hB0.free 0
    have hx := IntWalk.i64_in ((p.b : Int) + (n : Int)) (by omega)
    go_region_with ((refine (hr _).mono ?_; rintro e w' ⟨rfl, rfl⟩))
    all_goals
      obtain ⟨k0, k1, k2⟩ := step w1 _ hB0 hB1 hf rfl
      generalize (w1.setCell ⟨w.heap.size, 0, none⟩ (.int .i64 ((p.b : Int) + (n : Int)))).drew = w2 at k0 k1 k2 ⊢
      clear hB0 hB1 hf g0 f0 hr step hx
      have g1 : w2.cell? ⟨w.heap.size, 1, none⟩ = some (.int .i64 p.g) := k0.cell 1 _ rfl
      have g2 : w2.cell? ⟨w.heap.size, 2, none⟩ = some (.int .i64 p.l) := k0.cell 2 _ rfl
      have g3 : w2.cell? ⟨w.heap.size, 3, none⟩ = some (.int .i64 p.c) := k0.cell 3 _ rfl
      have g0 : w2.cell? ⟨w.heap.size, 0, none⟩ = some (.int .i64 ((p.b : Int) + (n : Int))) := k0.cell 0 _ (by simp)
      have f1 := k0.free 1
      have f2 := k0.free 2
      have f3 := k0.free 3
      go_upto_region 7 with (fail)
      have q0 : Blk _ w.heap.size (plO (behind p c)) := ((((k0.setOff 1 (.int .i64 ((p.g : Int) + 1))).setOff 3 (.int .i64 ((p.c : Int) + 1))).setOff 2 (.int .i64 ((p.l : Int) + 1))).setOff 3 (.int .i64 1)).cast (by have h1 := H10.out; have h2 := HN.out; subst h1; subst h2; simp [plO, behind])
      have q1 := (((k1.set_ne ⟨w.heap.size, 1, none⟩ (.int .i64 ((p.g : Int) + 1)) (by simp)).set_ne ⟨w.heap.size, 3, none⟩ (.int .i64 ((p.c : Int) + 1)) (by simp)).set_ne ⟨w.heap.size, 2, none⟩ (.int .i64 ((p.l : Int) + 1)) (by simp)).set_ne ⟨w.heap.size, 3, none⟩ (.int .i64 1) (by simp)
      have q2 := (((k2.setCell (a := ⟨w.heap.size, 1, none⟩) (.int .i64 ((p.g : Int) + 1)) (by simp)).setCell (a := ⟨w.heap.size, 3, none⟩) (.int .i64 ((p.c : Int) + 1)) (by simp)).setCell (a := ⟨w.heap.size, 2, none⟩) (.int .i64 ((p.l : Int) + 1)) (by simp)).setCell (a := ⟨w.heap.size, 3, none⟩) (.int .i64 1) (by simp)
      generalize (((w2.setCell ⟨w.heap.size, 1, none⟩ (.int .i64 ((p.g : Int) + 1))).setCell ⟨w.heap.size, 3, none⟩ (.int .i64 ((p.c : Int) + 1))).setCell ⟨w.heap.size, 2, none⟩ (.int .i64 ((p.l : Int) + 1))).setCell ⟨w.heap.size, 3, none⟩ (.int .i64 1) = w3 at q0 q1 q2 ⊢
      clear k0 k1 k2 g0 g1 g2 g3 f1 f2 f3
      obtain ⟨q, hqq⟩ : ∃ q, behind p c = q := ⟨_, rfl⟩
      rw [hqq] at q0
      have HQ := Lib.hid hqq
      clear hqq
      have g0 : w3.cell? ⟨w.heap.size, 0, none⟩ = some (.int .i64 q.b) := q0.cell 0 _ rfl
      have g1 : w3.cell? ⟨w.heap.size, 1, none⟩ = some (.int .i64 q.g) := q0.cell 1 _ rfl
      have g2 : w3.cell? ⟨w.heap.size, 2, none⟩ = some (.int .i64 q.l) := q0.cell 2 _ rfl
      have g3 : w3.cell? ⟨w.heap.size, 3, none⟩ = some (.int .i64 q.c) := q0.cell 3 _ rfl
      have r0 : w3.cell? ⟨w.heap.size + 1, 0, none⟩ = some (.int .i64 0) := q1.cell 0 _ rfl
      have r1 : w3.cell? ⟨w.heap.size + 1, 1, none⟩ = some (.int .i64 0) := q1.cell 1 _ rfl
      have r2 : w3.cell? ⟨w.heap.size + 1, 2, none⟩ = some (.int .i64 0) := q1.cell 2 _ rfl
      have r3 : w3.cell? ⟨w.heap.size + 1, 3, none⟩ = some (.int .i64 0) := q1.cell 3 _ rfl
      have v0 := q1.free 0
      have v1 := q1.free 1
      have v2 := q1.free 2
      have v3 := q1.free 3
      go_wp2_with fail
      obtain ⟨e1, e2⟩ := pl_exit2 q1 q2 (by simp) q _ rfl
      rw [HQ.out]
      exact bodyPost_ret (results_c rfl _ _ _ _ rfl (load_pl e1 rfl)) rfl ⟨rfl, e2⟩
  · have hz : ((c : Int) == 10) = false := by simp; omega
    have H10 := Lib.hid h10
    clear h10
    go_enter Tryd.func45, Tryd.ntmps45
    go_wp2_with fail
    generalize ((w.alloc (.cells (plA p) 27 (0, 0))).alloc (.cells #[.int .i64 0, .int .i64 0, .int .i64 0, .int .i64 0] 27 (0, 0))) = w1 at hB0 hB1 hf ⊢
    have g0 : w1.cell? ⟨w.heap.size, 0, none⟩ = some (.int .i64 p.b) := hB0.cell 0 _ rfl
    have f0 := hB0.free 0
    have hx := IntWalk.i64_in ((p.b : Int) + (n : Int)) (by omega)
    go_region_with ((refine (hr _).mono ?_; rintro e w' ⟨rfl, rfl⟩))
    all_goals
      obtain ⟨k0, k1, k2⟩ := step w1 _ hB0 hB1 hf rfl
      generalize (w1.setCell ⟨w.heap.size, 0, none⟩ (.int .i64 ((p.b : Int) + (n : Int)))).drew = w2 at k0 k1 k2 ⊢
      clear hB0 hB1 hf g0 f0 hr step hx
      have g1 : w2.cell? ⟨w.heap.size, 1, none⟩ = some (.int .i64 p.g) := k0.cell 1 _ rfl
      have g2 : w2.cell? ⟨w.heap.size, 2, none⟩ = some (.int .i64 p.l) := k0.cell 2 _ rfl
      have g3 : w2.cell? ⟨w.heap.size, 3, none⟩ = some (.int .i64 p.c) := k0.cell 3 _ rfl
      have g0 : w2.cell? ⟨w.heap.size, 0, none⟩ = some (.int .i64 ((p.b : Int) + (n : Int))) := k0.cell 0 _ (by simp)
      have f1 := k0.free 1
      have f2 := k0.free 2
      have f3 := k0.free 3
      go_upto_region 7 with (fail)
      have q0 : Blk _ w.heap.size (plO (behind p c)) := ((k0.setOff 1 (.int .i64 ((p.g : Int) + 1))).setOff 3 (.int .i64 ((p.c : Int) + 1))).cast (by have h1 := H10.out; have h2 := HN.out; subst h2; simp [plO, behind, h1])
      have q1 := (k1.set_ne ⟨w.heap.size, 1, none⟩ (.int .i64 ((p.g : Int) + 1)) (by simp)).set_ne ⟨w.heap.size, 3, none⟩ (.int .i64 ((p.c : Int) + 1)) (by simp)
      have q2 := (k2.setCell (a := ⟨w.heap.size, 1, none⟩) (.int .i64 ((p.g : Int) + 1)) (by simp)).setCell (a := ⟨w.heap.size, 3, none⟩) (.int .i64 ((p.c : Int) + 1)) (by simp)
      generalize (w2.setCell ⟨w.heap.size, 1, none⟩ (.int .i64 ((p.g : Int) + 1))).setCell ⟨w.heap.size, 3, none⟩ (.int .i64 ((p.c : Int) + 1)) = w3 at q0 q1 q2 ⊢
      clear k0 k1 k2 g0 g1 g2 g3 f1 f2 f3
      obtain ⟨q, hqq⟩ : ∃ q, behind p c = q := ⟨_, rfl⟩
      rw [hqq] at q0
      have HQ := Lib.hid hqq
      clear hqq
      have g0 : w3.cell? ⟨w.heap.size, 0, none⟩ = some (.int .i64 q.b) := q0.cell 0 _ rfl
      have g1 : w3.cell? ⟨w.heap.size, 1, none⟩ = some (.int .i64 q.g) := q0.cell 1 _ rfl
      have g2 : w3.cell? ⟨w.heap.size, 2, none⟩ = some (.int .i64 q.l) := q0.cell 2 _ rfl
      have g3 : w3.cell? ⟨w.heap.size, 3, none⟩ = some (.int .i64 q.c) := q0.cell 3 _ rfl
      have r0 : w3.cell? ⟨w.heap.size + 1, 0, none⟩ = some (.int .i64 0) := q1.cell 0 _ rfl
      have r1 : w3.cell? ⟨w.heap.size + 1, 1, none⟩ = some (.int .i64 0) := q1.cell 1 _ rfl
      have r2 : w3.cell? ⟨w.heap.size + 1, 2, none⟩ = some (.int .i64 0) := q1.cell 2 _ rfl
      have r3 : w3.cell? ⟨w.heap.size + 1, 3, none⟩ = some (.int .i64 0) := q1.cell 3 _ rfl
      have v0 := q1.free 0
      have v1 := q1.free 1
      have v2 := q1.free 2
      have v3 := q1.free 3
      go_wp2_with fail
      obtain ⟨e1, e2⟩ := pl_exit2 q1 q2 (by simp) q _ rfl
      rw [HQ.out]
      exact bodyPost_ret (results_c rfl _ _ _ _ rfl (load_pl e1 rfl)) rfl ⟨rfl, e2⟩

end Go.Proofs.YtklhfbgmadblcaaDoor
