/- The reference's token: signs, and what is none. -/
import Derived.Test.YtklhfbgmadblcaaDoorB3
namespace Go.Proofs.YtklhfbgmadblcaaDoor
open Go.RowKit
set_option linter.unusedVariables false
set_option linter.unusedSimpArgs false

theorem fold_byte {c : Nat} (hc : cls c = 5) (h1 : c ≠ 8788 ∧ c ≠ 8800 ∧ c ≠ 58 ∧ c ≠ 33) : 0 ≤ fold (c : Int) ∧ fold (c : Int) ≤ 127 := by
  unfold cls at hc
  unfold fold
  have : isSign (c : Int) = true := by
    cases hd : isSign (c : Int) with
    | true => rfl
    | false =>
      repeat' split at hc
      all_goals simp_all
  unfold isSign at this
  simp at this
  repeat' split
  all_goals omega
theorem head_ne {brk : Bool} {r : List Nat} {v : Int} (h : lk brk r = v) (hv : v ≠ 61) : ¬ r.head? = some 61 := by
  intro hc
  cases r with
  | nil => cases hc
  | cons x r => simp at hc; subst hc; exact hv h.symm

set_option maxRecDepth 100000 in
set_option maxHeartbeats 4000000 in
theorem rtoken_gets {S : ByteArray} {pre0 r : List Nat} {c : Nat} {t : List UInt8} (T : Txt S.data.toList (pre0 ++ (c :: r)) t) (hS : S.size ≤ 4096) {w : World} {b : Nat} (hb : Rd w b S pre0) (hc : cls c = 5) (h1 : c = 8788) :
    Calls Tryd.prog 37 #[ptrV b] w (TokOut w b S pre0 (c :: r)) := by
  have HC := Lib.hid hc
  have hcm : ((c : Int) == -1) = false := by simp
  have k8788 : ((c : Int) == 8788) = true := by simp; omega
  have H1 := Lib.hid h1
  clear hc h1
  have hbb : Blk w b _ := hb
  have h1 := hbb.cell 1 _ rfl
  have h2 := hbb.cell 2 _ rfl
  have h3 := hbb.cell 3 _ rfl
  have h4 := hbb.cell 4 _ rfl
  have hlt := hbb.lt
  have F0 := TkF.init (along start pre0) hb
  go_enter Tryd.func37, Tryd.ntmps37
  go_wp2_with fail
  refine (Look_is (v := (c : Int)) T hS (b := b) F0.rd rfl).mono ?_
  rintro e w1 ⟨rfl, hq1⟩
  have F1 := F0.qd hq1
  clear F0 hq1 h1 h2 h3 h4
  go_wp2_with fail
  refine (rClass_calls _ _).mono ?_
  rintro e w' ⟨rfl, rfl⟩
  rw [HC.out]
  have q6_0 : w1.cell? ⟨w.heap.size + 1 + 1 + 1, 0, none⟩ = some (.int .i64 0) := F1.t6.cell 0 _ rfl
  have qf6_0 := F1.t6.free 0
  go_wp2_with fail
  have F2 := F1.setK hlt 3
  refine (Next_at T hS F2.rd).mono ?_
  rintro e w3 ⟨rfl, hrd3, hfr3⟩
  have F3 := F2.next hlt hrd3 hfr3
  clear q6_0 qf6_0 F1 F2 hfr3 hrd3
  have q6_1 : w3.cell? ⟨w.heap.size + 1 + 1 + 1, 1, none⟩ = some (.string ⟨#[]⟩) := F3.t6.cell 1 _ rfl
  have qf6_1 := F3.t6.free 1
  go_wp2_with fail
  have F4 := F3.setS hlt { data := #[58, 61] }
  generalize (w3.setCell ⟨w.heap.size + 1 + 1 + 1, 1, none⟩ (Value.string { data := #[58, 61] })) = w4 at F4 ⊢
  clear q6_1 qf6_1
  have g6_0 : w4.cell? ⟨w.heap.size + 1 + 1 + 1, 0, none⟩ = some (.int .i64 (3)) := F4.t6.cell 0 _ rfl
  have g6_1 : w4.cell? ⟨w.heap.size + 1 + 1 + 1, 1, none⟩ = some (.string { data := #[58, 61] }) := F4.t6.cell 1 _ rfl
  have g6_2 : w4.cell? ⟨w.heap.size + 1 + 1 + 1, 2, none⟩ = some (.int .i64 (along start pre0).b) := F4.t6.cell 2 _ rfl
  have g6_3 : w4.cell? ⟨w.heap.size + 1 + 1 + 1, 3, none⟩ = some (.int .i64 (along start pre0).g) := F4.t6.cell 3 _ rfl
  have g6_4 : w4.cell? ⟨w.heap.size + 1 + 1 + 1, 4, none⟩ = some (.int .i64 (along start pre0).l) := F4.t6.cell 4 _ rfl
  have g6_5 : w4.cell? ⟨w.heap.size + 1 + 1 + 1, 5, none⟩ = some (.int .i64 (along start pre0).c) := F4.t6.cell 5 _ rfl
  have f6_0 := F4.t6.free 0
  have f6_1 := F4.t6.free 1
  have g5_0 : w4.cell? ⟨w.heap.size + 1 + 1, 0, none⟩ = some (.int .i64 (along start pre0).b) := F4.t5.cell 0 _ rfl
  have g5_1 : w4.cell? ⟨w.heap.size + 1 + 1, 1, none⟩ = some (.int .i64 (along start pre0).g) := F4.t5.cell 1 _ rfl
  have g5_2 : w4.cell? ⟨w.heap.size + 1 + 1, 2, none⟩ = some (.int .i64 (along start pre0).l) := F4.t5.cell 2 _ rfl
  have g5_3 : w4.cell? ⟨w.heap.size + 1 + 1, 3, none⟩ = some (.int .i64 (along start pre0).c) := F4.t5.cell 3 _ rfl
  have g2_0 : w4.cell? ⟨w.heap.size, 0, none⟩ = some (.int .i64 0) := F4.t2.cell 0 _ rfl
  have f2_0 := F4.t2.free 0
  have g2_1 : w4.cell? ⟨w.heap.size, 1, none⟩ = some (.string ⟨#[]⟩) := F4.t2.cell 1 _ rfl
  have f2_1 := F4.t2.free 1
  have g2_2 : w4.cell? ⟨w.heap.size, 2, none⟩ = some (.int .i64 0) := F4.t2.cell 2 _ rfl
  have f2_2 := F4.t2.free 2
  have g2_3 : w4.cell? ⟨w.heap.size, 3, none⟩ = some (.int .i64 0) := F4.t2.cell 3 _ rfl
  have f2_3 := F4.t2.free 3
  have g2_4 : w4.cell? ⟨w.heap.size, 4, none⟩ = some (.int .i64 0) := F4.t2.cell 4 _ rfl
  have f2_4 := F4.t2.free 4
  have g2_5 : w4.cell? ⟨w.heap.size, 5, none⟩ = some (.int .i64 0) := F4.t2.cell 5 _ rfl
  have f2_5 := F4.t2.free 5
  have g4_0 : w4.cell? ⟨w.heap.size + 1, 0, none⟩ = some (.int .i64 0) := F4.t4.cell 0 _ rfl
  have f4_0 := F4.t4.free 0
  have g4_1 : w4.cell? ⟨w.heap.size + 1, 1, none⟩ = some (.int .i64 0) := F4.t4.cell 1 _ rfl
  have f4_1 := F4.t4.free 1
  have g4_2 : w4.cell? ⟨w.heap.size + 1, 2, none⟩ = some (.int .i64 0) := F4.t4.cell 2 _ rfl
  have f4_2 := F4.t4.free 2
  have g4_3 : w4.cell? ⟨w.heap.size + 1, 3, none⟩ = some (.int .i64 0) := F4.t4.cell 3 _ rfl
  have f4_3 := F4.t4.free 3
  go_wp2_with fail
  go_region
  go_wp2_with fail
  obtain ⟨e1, e2, e3, e4⟩ := F4.exit hlt _ rfl
  refine bodyPost_ret (results_ctc rfl _ _ _ _ _ _ rfl rfl (load_tok e1 rfl) (load_pl e2 rfl)) rfl ?_
  have htk : tk (c :: r) = .ok 3 [58, 61] 1 := by (rw [tk5 HC.out, if_pos H1.out])
  unfold TokOut
  rw [htk]
  exact ⟨rfl, by rw [show pre0 ++ (c :: r).take 1 = pre0 ++ [c] from by simp]; exact e3, e4⟩

set_option maxRecDepth 100000 in
set_option maxHeartbeats 4000000 in
theorem rtoken_unlike {S : ByteArray} {pre0 r : List Nat} {c : Nat} {t : List UInt8} (T : Txt S.data.toList (pre0 ++ (c :: r)) t) (hS : S.size ≤ 4096) {w : World} {b : Nat} (hb : Rd w b S pre0) (hc : cls c = 5) (h1 : c = 8800) :
    Calls Tryd.prog 37 #[ptrV b] w (TokOut w b S pre0 (c :: r)) := by
  have HC := Lib.hid hc
  have hcm : ((c : Int) == -1) = false := by simp
  have k8788 : ((c : Int) == 8788) = false := by simp; omega
  have k8800 : ((c : Int) == 8800) = true := by simp; omega
  have H1 := Lib.hid h1
  clear hc h1
  have hbb : Blk w b _ := hb
  have h1 := hbb.cell 1 _ rfl
  have h2 := hbb.cell 2 _ rfl
  have h3 := hbb.cell 3 _ rfl
  have h4 := hbb.cell 4 _ rfl
  have hlt := hbb.lt
  have F0 := TkF.init (along start pre0) hb
  go_enter Tryd.func37, Tryd.ntmps37
  go_wp2_with fail
  refine (Look_is (v := (c : Int)) T hS (b := b) F0.rd rfl).mono ?_
  rintro e w1 ⟨rfl, hq1⟩
  have F1 := F0.qd hq1
  clear F0 hq1 h1 h2 h3 h4
  go_wp2_with fail
  refine (rClass_calls _ _).mono ?_
  rintro e w' ⟨rfl, rfl⟩
  rw [HC.out]
  have q6_0 : w1.cell? ⟨w.heap.size + 1 + 1 + 1, 0, none⟩ = some (.int .i64 0) := F1.t6.cell 0 _ rfl
  have qf6_0 := F1.t6.free 0
  go_wp2_with fail
  have F2 := F1.setK hlt 3
  refine (Next_at T hS F2.rd).mono ?_
  rintro e w3 ⟨rfl, hrd3, hfr3⟩
  have F3 := F2.next hlt hrd3 hfr3
  clear q6_0 qf6_0 F1 F2 hfr3 hrd3
  have q6_1 : w3.cell? ⟨w.heap.size + 1 + 1 + 1, 1, none⟩ = some (.string ⟨#[]⟩) := F3.t6.cell 1 _ rfl
  have qf6_1 := F3.t6.free 1
  go_wp2_with fail
  have F4 := F3.setS hlt { data := #[33, 61] }
  generalize (w3.setCell ⟨w.heap.size + 1 + 1 + 1, 1, none⟩ (Value.string { data := #[33, 61] })) = w4 at F4 ⊢
  clear q6_1 qf6_1
  have g6_0 : w4.cell? ⟨w.heap.size + 1 + 1 + 1, 0, none⟩ = some (.int .i64 (3)) := F4.t6.cell 0 _ rfl
  have g6_1 : w4.cell? ⟨w.heap.size + 1 + 1 + 1, 1, none⟩ = some (.string { data := #[33, 61] }) := F4.t6.cell 1 _ rfl
  have g6_2 : w4.cell? ⟨w.heap.size + 1 + 1 + 1, 2, none⟩ = some (.int .i64 (along start pre0).b) := F4.t6.cell 2 _ rfl
  have g6_3 : w4.cell? ⟨w.heap.size + 1 + 1 + 1, 3, none⟩ = some (.int .i64 (along start pre0).g) := F4.t6.cell 3 _ rfl
  have g6_4 : w4.cell? ⟨w.heap.size + 1 + 1 + 1, 4, none⟩ = some (.int .i64 (along start pre0).l) := F4.t6.cell 4 _ rfl
  have g6_5 : w4.cell? ⟨w.heap.size + 1 + 1 + 1, 5, none⟩ = some (.int .i64 (along start pre0).c) := F4.t6.cell 5 _ rfl
  have f6_0 := F4.t6.free 0
  have f6_1 := F4.t6.free 1
  have g5_0 : w4.cell? ⟨w.heap.size + 1 + 1, 0, none⟩ = some (.int .i64 (along start pre0).b) := F4.t5.cell 0 _ rfl
  have g5_1 : w4.cell? ⟨w.heap.size + 1 + 1, 1, none⟩ = some (.int .i64 (along start pre0).g) := F4.t5.cell 1 _ rfl
  have g5_2 : w4.cell? ⟨w.heap.size + 1 + 1, 2, none⟩ = some (.int .i64 (along start pre0).l) := F4.t5.cell 2 _ rfl
  have g5_3 : w4.cell? ⟨w.heap.size + 1 + 1, 3, none⟩ = some (.int .i64 (along start pre0).c) := F4.t5.cell 3 _ rfl
  have g2_0 : w4.cell? ⟨w.heap.size, 0, none⟩ = some (.int .i64 0) := F4.t2.cell 0 _ rfl
  have f2_0 := F4.t2.free 0
  have g2_1 : w4.cell? ⟨w.heap.size, 1, none⟩ = some (.string ⟨#[]⟩) := F4.t2.cell 1 _ rfl
  have f2_1 := F4.t2.free 1
  have g2_2 : w4.cell? ⟨w.heap.size, 2, none⟩ = some (.int .i64 0) := F4.t2.cell 2 _ rfl
  have f2_2 := F4.t2.free 2
  have g2_3 : w4.cell? ⟨w.heap.size, 3, none⟩ = some (.int .i64 0) := F4.t2.cell 3 _ rfl
  have f2_3 := F4.t2.free 3
  have g2_4 : w4.cell? ⟨w.heap.size, 4, none⟩ = some (.int .i64 0) := F4.t2.cell 4 _ rfl
  have f2_4 := F4.t2.free 4
  have g2_5 : w4.cell? ⟨w.heap.size, 5, none⟩ = some (.int .i64 0) := F4.t2.cell 5 _ rfl
  have f2_5 := F4.t2.free 5
  have g4_0 : w4.cell? ⟨w.heap.size + 1, 0, none⟩ = some (.int .i64 0) := F4.t4.cell 0 _ rfl
  have f4_0 := F4.t4.free 0
  have g4_1 : w4.cell? ⟨w.heap.size + 1, 1, none⟩ = some (.int .i64 0) := F4.t4.cell 1 _ rfl
  have f4_1 := F4.t4.free 1
  have g4_2 : w4.cell? ⟨w.heap.size + 1, 2, none⟩ = some (.int .i64 0) := F4.t4.cell 2 _ rfl
  have f4_2 := F4.t4.free 2
  have g4_3 : w4.cell? ⟨w.heap.size + 1, 3, none⟩ = some (.int .i64 0) := F4.t4.cell 3 _ rfl
  have f4_3 := F4.t4.free 3
  go_wp2_with fail
  go_region
  go_wp2_with fail
  obtain ⟨e1, e2, e3, e4⟩ := F4.exit hlt _ rfl
  refine bodyPost_ret (results_ctc rfl _ _ _ _ _ _ rfl rfl (load_tok e1 rfl) (load_pl e2 rfl)) rfl ?_
  have htk : tk (c :: r) = .ok 3 [33, 61] 1 := by (have h9 := H1.out; rw [tk5 HC.out, if_neg (by omega), if_pos H1.out])
  unfold TokOut
  rw [htk]
  exact ⟨rfl, by rw [show pre0 ++ (c :: r).take 1 = pre0 ++ [c] from by simp]; exact e3, e4⟩

set_option maxRecDepth 100000 in
set_option maxHeartbeats 4000000 in
theorem rtoken_colon {S : ByteArray} {pre0 r : List Nat} {c : Nat} {t : List UInt8} (T : Txt S.data.toList (pre0 ++ (c :: r)) t) (hS : S.size ≤ 4096) {w : World} {b : Nat} (hb : Rd w b S pre0) (hc : cls c = 5) (h1 : c = 58) :
    Calls Tryd.prog 37 #[ptrV b] w (TokOut w b S pre0 (c :: r)) := by
  have HC := Lib.hid hc
  have hcm : ((c : Int) == -1) = false := by simp
  have k8788 : ((c : Int) == 8788) = false := by simp; omega
  have k8800 : ((c : Int) == 8800) = false := by simp; omega
  have k58 : ((c : Int) == 58) = true := by simp; omega
  have k33 : ((c : Int) == 33) = false := by simp; omega
  have H1 := Lib.hid h1
  clear hc h1
  have hbb : Blk w b _ := hb
  have h1 := hbb.cell 1 _ rfl
  have h2 := hbb.cell 2 _ rfl
  have h3 := hbb.cell 3 _ rfl
  have h4 := hbb.cell 4 _ rfl
  have hlt := hbb.lt
  have F0 := TkF.init (along start pre0) hb
  go_enter Tryd.func37, Tryd.ntmps37
  go_wp2_with fail
  refine (Look_is (v := (c : Int)) T hS (b := b) F0.rd rfl).mono ?_
  rintro e w1 ⟨rfl, hq1⟩
  have F1 := F0.qd hq1
  clear F0 hq1 h1 h2 h3 h4
  go_wp2_with fail
  refine (rClass_calls _ _).mono ?_
  rintro e w' ⟨rfl, rfl⟩
  rw [HC.out]
  have q6_0 : w1.cell? ⟨w.heap.size + 1 + 1 + 1, 0, none⟩ = some (.int .i64 0) := F1.t6.cell 0 _ rfl
  have qf6_0 := F1.t6.free 0
  go_wp2_with fail
  have F2 := F1.setK hlt 3
  refine (Next_at T hS F2.rd).mono ?_
  rintro e w3 ⟨rfl, hrd3, hfr3⟩
  have F3 := F2.next hlt hrd3 hfr3
  clear q6_0 qf6_0 F1 F2 hfr3 hrd3
  have T1 : Txt S.data.toList ((pre0 ++ [c]) ++ r) t := by rw [List.append_assoc]; exact T
  obtain ⟨v, hv⟩ : ∃ v, lk (!t.isEmpty) r = v := ⟨_, rfl⟩
  have HV := Lib.hid hv
  clear hv
  by_cases h61 : v = 61
  · have k61 : (v != 61) = false := by simp [h61]
    have H61 := Lib.hid h61
    clear h61
    go_wp2_with fail
    refine (Look_is T1 hS F3.rd HV.out).mono ?_
    rintro e w4 ⟨rfl, hq4⟩
    have F4 := F3.qd hq4
    go_wp2_with fail
    cases r with
    | nil =>
      have := HV.out
      have h9 := H61.out
      simp only [lk] at this
      split at this <;> omega
    | cons x r =>
      have hx : (x : Int) = v := HV.out
      have hx2 : x = 61 := by have := H61.out; omega
      have HX := Lib.hid hx2
      clear hx hx2
      refine (Next_at T1 hS F4.rd).mono ?_
      rintro e w5 ⟨rfl, hrd5, hfr5⟩
      have F5 := F4.next hlt hrd5 hfr5
      clear hrd5 hfr5 F3 F4 hq4
      have q6_1 : w5.cell? ⟨w.heap.size + 1 + 1 + 1, 1, none⟩ = some (.string ⟨#[]⟩) := F5.t6.cell 1 _ rfl
      have qf6_1 := F5.t6.free 1
      go_wp2_with fail
      have F6 := F5.setS hlt { data := #[58, 61] }
      generalize (w5.setCell ⟨w.heap.size + 1 + 1 + 1, 1, none⟩ (Value.string { data := #[58, 61] })) = w6 at F6 ⊢
      clear q6_1 qf6_1
      have g6_0 : w6.cell? ⟨w.heap.size + 1 + 1 + 1, 0, none⟩ = some (.int .i64 (3)) := F6.t6.cell 0 _ rfl
      have g6_1 : w6.cell? ⟨w.heap.size + 1 + 1 + 1, 1, none⟩ = some (.string { data := #[58, 61] }) := F6.t6.cell 1 _ rfl
      have g6_2 : w6.cell? ⟨w.heap.size + 1 + 1 + 1, 2, none⟩ = some (.int .i64 (along start pre0).b) := F6.t6.cell 2 _ rfl
      have g6_3 : w6.cell? ⟨w.heap.size + 1 + 1 + 1, 3, none⟩ = some (.int .i64 (along start pre0).g) := F6.t6.cell 3 _ rfl
      have g6_4 : w6.cell? ⟨w.heap.size + 1 + 1 + 1, 4, none⟩ = some (.int .i64 (along start pre0).l) := F6.t6.cell 4 _ rfl
      have g6_5 : w6.cell? ⟨w.heap.size + 1 + 1 + 1, 5, none⟩ = some (.int .i64 (along start pre0).c) := F6.t6.cell 5 _ rfl
      have f6_0 := F6.t6.free 0
      have f6_1 := F6.t6.free 1
      have g5_0 : w6.cell? ⟨w.heap.size + 1 + 1, 0, none⟩ = some (.int .i64 (along start pre0).b) := F6.t5.cell 0 _ rfl
      have g5_1 : w6.cell? ⟨w.heap.size + 1 + 1, 1, none⟩ = some (.int .i64 (along start pre0).g) := F6.t5.cell 1 _ rfl
      have g5_2 : w6.cell? ⟨w.heap.size + 1 + 1, 2, none⟩ = some (.int .i64 (along start pre0).l) := F6.t5.cell 2 _ rfl
      have g5_3 : w6.cell? ⟨w.heap.size + 1 + 1, 3, none⟩ = some (.int .i64 (along start pre0).c) := F6.t5.cell 3 _ rfl
      have g2_0 : w6.cell? ⟨w.heap.size, 0, none⟩ = some (.int .i64 0) := F6.t2.cell 0 _ rfl
      have f2_0 := F6.t2.free 0
      have g2_1 : w6.cell? ⟨w.heap.size, 1, none⟩ = some (.string ⟨#[]⟩) := F6.t2.cell 1 _ rfl
      have f2_1 := F6.t2.free 1
      have g2_2 : w6.cell? ⟨w.heap.size, 2, none⟩ = some (.int .i64 0) := F6.t2.cell 2 _ rfl
      have f2_2 := F6.t2.free 2
      have g2_3 : w6.cell? ⟨w.heap.size, 3, none⟩ = some (.int .i64 0) := F6.t2.cell 3 _ rfl
      have f2_3 := F6.t2.free 3
      have g2_4 : w6.cell? ⟨w.heap.size, 4, none⟩ = some (.int .i64 0) := F6.t2.cell 4 _ rfl
      have f2_4 := F6.t2.free 4
      have g2_5 : w6.cell? ⟨w.heap.size, 5, none⟩ = some (.int .i64 0) := F6.t2.cell 5 _ rfl
      have f2_5 := F6.t2.free 5
      have g4_0 : w6.cell? ⟨w.heap.size + 1, 0, none⟩ = some (.int .i64 0) := F6.t4.cell 0 _ rfl
      have f4_0 := F6.t4.free 0
      have g4_1 : w6.cell? ⟨w.heap.size + 1, 1, none⟩ = some (.int .i64 0) := F6.t4.cell 1 _ rfl
      have f4_1 := F6.t4.free 1
      have g4_2 : w6.cell? ⟨w.heap.size + 1, 2, none⟩ = some (.int .i64 0) := F6.t4.cell 2 _ rfl
      have f4_2 := F6.t4.free 2
      have g4_3 : w6.cell? ⟨w.heap.size + 1, 3, none⟩ = some (.int .i64 0) := F6.t4.cell 3 _ rfl
      have f4_3 := F6.t4.free 3
      go_wp2_with fail
      go_region
      go_wp2_with fail
      obtain ⟨e1, e2, e3, e4⟩ := F6.exit hlt _ rfl
      refine bodyPost_ret (results_ctc rfl _ _ _ _ _ _ rfl rfl (load_tok e1 rfl) (load_pl e2 rfl)) rfl ?_
      have htk : tk (c :: x :: r) = .ok 3 [UInt8.ofNat c, 61] 2 := by (have h9 := H1.out; rw [tk5 HC.out, if_neg (by omega), if_neg (by omega), if_pos (by omega), if_pos (by rw [HX.out]; rfl)])
      unfold TokOut
      rw [htk]
      exact ⟨by rw [H1.out]; rfl, by rw [show pre0 ++ (c :: x :: r).take 2 = pre0 ++ [c] ++ [x] from by simp]; exact e3, e4⟩
  · have k61 : (v != 61) = true := by simp [h61]
    have H61 := Lib.hid h61
    clear h61
    go_wp2_with fail
    refine (Look_is T1 hS F3.rd HV.out).mono ?_
    rintro e w4 ⟨rfl, hq4⟩
    have F4 := F3.qd hq4
    have g6_0 : w4.cell? ⟨w.heap.size + 1 + 1 + 1, 0, none⟩ = some (.int .i64 (3)) := F4.t6.cell 0 _ rfl
    have g6_1 : w4.cell? ⟨w.heap.size + 1 + 1 + 1, 1, none⟩ = some (.string ⟨#[]⟩) := F4.t6.cell 1 _ rfl
    have g6_2 : w4.cell? ⟨w.heap.size + 1 + 1 + 1, 2, none⟩ = some (.int .i64 (along start pre0).b) := F4.t6.cell 2 _ rfl
    have g6_3 : w4.cell? ⟨w.heap.size + 1 + 1 + 1, 3, none⟩ = some (.int .i64 (along start pre0).g) := F4.t6.cell 3 _ rfl
    have g6_4 : w4.cell? ⟨w.heap.size + 1 + 1 + 1, 4, none⟩ = some (.int .i64 (along start pre0).l) := F4.t6.cell 4 _ rfl
    have g6_5 : w4.cell? ⟨w.heap.size + 1 + 1 + 1, 5, none⟩ = some (.int .i64 (along start pre0).c) := F4.t6.cell 5 _ rfl
    have f6_0 := F4.t6.free 0
    have f6_1 := F4.t6.free 1
    have g5_0 : w4.cell? ⟨w.heap.size + 1 + 1, 0, none⟩ = some (.int .i64 (along start pre0).b) := F4.t5.cell 0 _ rfl
    have g5_1 : w4.cell? ⟨w.heap.size + 1 + 1, 1, none⟩ = some (.int .i64 (along start pre0).g) := F4.t5.cell 1 _ rfl
    have g5_2 : w4.cell? ⟨w.heap.size + 1 + 1, 2, none⟩ = some (.int .i64 (along start pre0).l) := F4.t5.cell 2 _ rfl
    have g5_3 : w4.cell? ⟨w.heap.size + 1 + 1, 3, none⟩ = some (.int .i64 (along start pre0).c) := F4.t5.cell 3 _ rfl
    have g2_0 : w4.cell? ⟨w.heap.size, 0, none⟩ = some (.int .i64 0) := F4.t2.cell 0 _ rfl
    have f2_0 := F4.t2.free 0
    have g2_1 : w4.cell? ⟨w.heap.size, 1, none⟩ = some (.string ⟨#[]⟩) := F4.t2.cell 1 _ rfl
    have f2_1 := F4.t2.free 1
    have g2_2 : w4.cell? ⟨w.heap.size, 2, none⟩ = some (.int .i64 0) := F4.t2.cell 2 _ rfl
    have f2_2 := F4.t2.free 2
    have g2_3 : w4.cell? ⟨w.heap.size, 3, none⟩ = some (.int .i64 0) := F4.t2.cell 3 _ rfl
    have f2_3 := F4.t2.free 3
    have g2_4 : w4.cell? ⟨w.heap.size, 4, none⟩ = some (.int .i64 0) := F4.t2.cell 4 _ rfl
    have f2_4 := F4.t2.free 4
    have g2_5 : w4.cell? ⟨w.heap.size, 5, none⟩ = some (.int .i64 0) := F4.t2.cell 5 _ rfl
    have f2_5 := F4.t2.free 5
    have g4_0 : w4.cell? ⟨w.heap.size + 1, 0, none⟩ = some (.int .i64 0) := F4.t4.cell 0 _ rfl
    have f4_0 := F4.t4.free 0
    have g4_1 : w4.cell? ⟨w.heap.size + 1, 1, none⟩ = some (.int .i64 0) := F4.t4.cell 1 _ rfl
    have f4_1 := F4.t4.free 1
    have g4_2 : w4.cell? ⟨w.heap.size + 1, 2, none⟩ = some (.int .i64 0) := F4.t4.cell 2 _ rfl
    have f4_2 := F4.t4.free 2
    have g4_3 : w4.cell? ⟨w.heap.size + 1, 3, none⟩ = some (.int .i64 0) := F4.t4.cell 3 _ rfl
    have f4_3 := F4.t4.free 3
    go_wp2_with fail
    go_region
    go_wp2_with fail
    obtain ⟨e1, e2, e3, e4⟩ := F4.exit hlt _ rfl
    refine bodyPost_ret (results_ctc rfl _ _ _ _ _ _ rfl rfl (load_tok e1 rfl) (load_pl e2 rfl)) rfl ?_
    have htk : tk (c :: r) = .bad 41 := by (have h9 := H1.out; rw [tk5 HC.out, if_neg (by omega), if_neg (by omega), if_pos (by omega), if_neg (head_ne HV.out H61.out)])
    unfold TokOut
    rw [htk]
    exact ⟨_, _, rfl, e4⟩

set_option maxRecDepth 100000 in
set_option maxHeartbeats 4000000 in
theorem rtoken_bang {S : ByteArray} {pre0 r : List Nat} {c : Nat} {t : List UInt8} (T : Txt S.data.toList (pre0 ++ (c :: r)) t) (hS : S.size ≤ 4096) {w : World} {b : Nat} (hb : Rd w b S pre0) (hc : cls c = 5) (h1 : c = 33) :
    Calls Tryd.prog 37 #[ptrV b] w (TokOut w b S pre0 (c :: r)) := by
  have HC := Lib.hid hc
  have hcm : ((c : Int) == -1) = false := by simp
  have k8788 : ((c : Int) == 8788) = false := by simp; omega
  have k8800 : ((c : Int) == 8800) = false := by simp; omega
  have k58 : ((c : Int) == 58) = false := by simp; omega
  have k33 : ((c : Int) == 33) = true := by simp; omega
  have H1 := Lib.hid h1
  clear hc h1
  have hbb : Blk w b _ := hb
  have h1 := hbb.cell 1 _ rfl
  have h2 := hbb.cell 2 _ rfl
  have h3 := hbb.cell 3 _ rfl
  have h4 := hbb.cell 4 _ rfl
  have hlt := hbb.lt
  have F0 := TkF.init (along start pre0) hb
  go_enter Tryd.func37, Tryd.ntmps37
  go_wp2_with fail
  refine (Look_is (v := (c : Int)) T hS (b := b) F0.rd rfl).mono ?_
  rintro e w1 ⟨rfl, hq1⟩
  have F1 := F0.qd hq1
  clear F0 hq1 h1 h2 h3 h4
  go_wp2_with fail
  refine (rClass_calls _ _).mono ?_
  rintro e w' ⟨rfl, rfl⟩
  rw [HC.out]
  have q6_0 : w1.cell? ⟨w.heap.size + 1 + 1 + 1, 0, none⟩ = some (.int .i64 0) := F1.t6.cell 0 _ rfl
  have qf6_0 := F1.t6.free 0
  go_wp2_with fail
  have F2 := F1.setK hlt 3
  refine (Next_at T hS F2.rd).mono ?_
  rintro e w3 ⟨rfl, hrd3, hfr3⟩
  have F3 := F2.next hlt hrd3 hfr3
  clear q6_0 qf6_0 F1 F2 hfr3 hrd3
  have T1 : Txt S.data.toList ((pre0 ++ [c]) ++ r) t := by rw [List.append_assoc]; exact T
  obtain ⟨v, hv⟩ : ∃ v, lk (!t.isEmpty) r = v := ⟨_, rfl⟩
  have HV := Lib.hid hv
  clear hv
  by_cases h61 : v = 61
  · have k61 : (v != 61) = false := by simp [h61]
    have H61 := Lib.hid h61
    clear h61
    go_wp2_with fail
    refine (Look_is T1 hS F3.rd HV.out).mono ?_
    rintro e w4 ⟨rfl, hq4⟩
    have F4 := F3.qd hq4
    go_wp2_with fail
    cases r with
    | nil =>
      have := HV.out
      have h9 := H61.out
      simp only [lk] at this
      split at this <;> omega
    | cons x r =>
      have hx : (x : Int) = v := HV.out
      have hx2 : x = 61 := by have := H61.out; omega
      have HX := Lib.hid hx2
      clear hx hx2
      refine (Next_at T1 hS F4.rd).mono ?_
      rintro e w5 ⟨rfl, hrd5, hfr5⟩
      have F5 := F4.next hlt hrd5 hfr5
      clear hrd5 hfr5 F3 F4 hq4
      have q6_1 : w5.cell? ⟨w.heap.size + 1 + 1 + 1, 1, none⟩ = some (.string ⟨#[]⟩) := F5.t6.cell 1 _ rfl
      have qf6_1 := F5.t6.free 1
      go_wp2_with fail
      have F55 := F5.setS hlt { data := #[58, 61] }
      have F6 := F55.setS hlt { data := #[33, 61] }
      generalize ((w5.setCell ⟨w.heap.size + 1 + 1 + 1, 1, none⟩ (Value.string { data := #[58, 61] })).setCell ⟨w.heap.size + 1 + 1 + 1, 1, none⟩ (Value.string { data := #[33, 61] })) = w6 at F6 ⊢
      clear q6_1 qf6_1 F55
      have g6_0 : w6.cell? ⟨w.heap.size + 1 + 1 + 1, 0, none⟩ = some (.int .i64 (3)) := F6.t6.cell 0 _ rfl
      have g6_1 : w6.cell? ⟨w.heap.size + 1 + 1 + 1, 1, none⟩ = some (.string { data := #[33, 61] }) := F6.t6.cell 1 _ rfl
      have g6_2 : w6.cell? ⟨w.heap.size + 1 + 1 + 1, 2, none⟩ = some (.int .i64 (along start pre0).b) := F6.t6.cell 2 _ rfl
      have g6_3 : w6.cell? ⟨w.heap.size + 1 + 1 + 1, 3, none⟩ = some (.int .i64 (along start pre0).g) := F6.t6.cell 3 _ rfl
      have g6_4 : w6.cell? ⟨w.heap.size + 1 + 1 + 1, 4, none⟩ = some (.int .i64 (along start pre0).l) := F6.t6.cell 4 _ rfl
      have g6_5 : w6.cell? ⟨w.heap.size + 1 + 1 + 1, 5, none⟩ = some (.int .i64 (along start pre0).c) := F6.t6.cell 5 _ rfl
      have f6_0 := F6.t6.free 0
      have f6_1 := F6.t6.free 1
      have g5_0 : w6.cell? ⟨w.heap.size + 1 + 1, 0, none⟩ = some (.int .i64 (along start pre0).b) := F6.t5.cell 0 _ rfl
      have g5_1 : w6.cell? ⟨w.heap.size + 1 + 1, 1, none⟩ = some (.int .i64 (along start pre0).g) := F6.t5.cell 1 _ rfl
      have g5_2 : w6.cell? ⟨w.heap.size + 1 + 1, 2, none⟩ = some (.int .i64 (along start pre0).l) := F6.t5.cell 2 _ rfl
      have g5_3 : w6.cell? ⟨w.heap.size + 1 + 1, 3, none⟩ = some (.int .i64 (along start pre0).c) := F6.t5.cell 3 _ rfl
      have g2_0 : w6.cell? ⟨w.heap.size, 0, none⟩ = some (.int .i64 0) := F6.t2.cell 0 _ rfl
      have f2_0 := F6.t2.free 0
      have g2_1 : w6.cell? ⟨w.heap.size, 1, none⟩ = some (.string ⟨#[]⟩) := F6.t2.cell 1 _ rfl
      have f2_1 := F6.t2.free 1
      have g2_2 : w6.cell? ⟨w.heap.size, 2, none⟩ = some (.int .i64 0) := F6.t2.cell 2 _ rfl
      have f2_2 := F6.t2.free 2
      have g2_3 : w6.cell? ⟨w.heap.size, 3, none⟩ = some (.int .i64 0) := F6.t2.cell 3 _ rfl
      have f2_3 := F6.t2.free 3
      have g2_4 : w6.cell? ⟨w.heap.size, 4, none⟩ = some (.int .i64 0) := F6.t2.cell 4 _ rfl
      have f2_4 := F6.t2.free 4
      have g2_5 : w6.cell? ⟨w.heap.size, 5, none⟩ = some (.int .i64 0) := F6.t2.cell 5 _ rfl
      have f2_5 := F6.t2.free 5
      have g4_0 : w6.cell? ⟨w.heap.size + 1, 0, none⟩ = some (.int .i64 0) := F6.t4.cell 0 _ rfl
      have f4_0 := F6.t4.free 0
      have g4_1 : w6.cell? ⟨w.heap.size + 1, 1, none⟩ = some (.int .i64 0) := F6.t4.cell 1 _ rfl
      have f4_1 := F6.t4.free 1
      have g4_2 : w6.cell? ⟨w.heap.size + 1, 2, none⟩ = some (.int .i64 0) := F6.t4.cell 2 _ rfl
      have f4_2 := F6.t4.free 2
      have g4_3 : w6.cell? ⟨w.heap.size + 1, 3, none⟩ = some (.int .i64 0) := F6.t4.cell 3 _ rfl
      have f4_3 := F6.t4.free 3
      go_wp2_with fail
      go_region
      go_wp2_with fail
      obtain ⟨e1, e2, e3, e4⟩ := F6.exit hlt _ rfl
      refine bodyPost_ret (results_ctc rfl _ _ _ _ _ _ rfl rfl (load_tok e1 rfl) (load_pl e2 rfl)) rfl ?_
      have htk : tk (c :: x :: r) = .ok 3 [UInt8.ofNat c, 61] 2 := by (have h9 := H1.out; rw [tk5 HC.out, if_neg (by omega), if_neg (by omega), if_pos (by omega), if_pos (by rw [HX.out]; rfl)])
      unfold TokOut
      rw [htk]
      exact ⟨by rw [H1.out]; rfl, by rw [show pre0 ++ (c :: x :: r).take 2 = pre0 ++ [c] ++ [x] from by simp]; exact e3, e4⟩
  · have k61 : (v != 61) = true := by simp [h61]
    have H61 := Lib.hid h61
    clear h61
    go_wp2_with fail
    refine (Look_is T1 hS F3.rd HV.out).mono ?_
    rintro e w4 ⟨rfl, hq4⟩
    have F4 := F3.qd hq4
    have g6_0 : w4.cell? ⟨w.heap.size + 1 + 1 + 1, 0, none⟩ = some (.int .i64 (3)) := F4.t6.cell 0 _ rfl
    have g6_1 : w4.cell? ⟨w.heap.size + 1 + 1 + 1, 1, none⟩ = some (.string ⟨#[]⟩) := F4.t6.cell 1 _ rfl
    have g6_2 : w4.cell? ⟨w.heap.size + 1 + 1 + 1, 2, none⟩ = some (.int .i64 (along start pre0).b) := F4.t6.cell 2 _ rfl
    have g6_3 : w4.cell? ⟨w.heap.size + 1 + 1 + 1, 3, none⟩ = some (.int .i64 (along start pre0).g) := F4.t6.cell 3 _ rfl
    have g6_4 : w4.cell? ⟨w.heap.size + 1 + 1 + 1, 4, none⟩ = some (.int .i64 (along start pre0).l) := F4.t6.cell 4 _ rfl
    have g6_5 : w4.cell? ⟨w.heap.size + 1 + 1 + 1, 5, none⟩ = some (.int .i64 (along start pre0).c) := F4.t6.cell 5 _ rfl
    have f6_0 := F4.t6.free 0
    have f6_1 := F4.t6.free 1
    have g5_0 : w4.cell? ⟨w.heap.size + 1 + 1, 0, none⟩ = some (.int .i64 (along start pre0).b) := F4.t5.cell 0 _ rfl
    have g5_1 : w4.cell? ⟨w.heap.size + 1 + 1, 1, none⟩ = some (.int .i64 (along start pre0).g) := F4.t5.cell 1 _ rfl
    have g5_2 : w4.cell? ⟨w.heap.size + 1 + 1, 2, none⟩ = some (.int .i64 (along start pre0).l) := F4.t5.cell 2 _ rfl
    have g5_3 : w4.cell? ⟨w.heap.size + 1 + 1, 3, none⟩ = some (.int .i64 (along start pre0).c) := F4.t5.cell 3 _ rfl
    have g2_0 : w4.cell? ⟨w.heap.size, 0, none⟩ = some (.int .i64 0) := F4.t2.cell 0 _ rfl
    have f2_0 := F4.t2.free 0
    have g2_1 : w4.cell? ⟨w.heap.size, 1, none⟩ = some (.string ⟨#[]⟩) := F4.t2.cell 1 _ rfl
    have f2_1 := F4.t2.free 1
    have g2_2 : w4.cell? ⟨w.heap.size, 2, none⟩ = some (.int .i64 0) := F4.t2.cell 2 _ rfl
    have f2_2 := F4.t2.free 2
    have g2_3 : w4.cell? ⟨w.heap.size, 3, none⟩ = some (.int .i64 0) := F4.t2.cell 3 _ rfl
    have f2_3 := F4.t2.free 3
    have g2_4 : w4.cell? ⟨w.heap.size, 4, none⟩ = some (.int .i64 0) := F4.t2.cell 4 _ rfl
    have f2_4 := F4.t2.free 4
    have g2_5 : w4.cell? ⟨w.heap.size, 5, none⟩ = some (.int .i64 0) := F4.t2.cell 5 _ rfl
    have f2_5 := F4.t2.free 5
    have g4_0 : w4.cell? ⟨w.heap.size + 1, 0, none⟩ = some (.int .i64 0) := F4.t4.cell 0 _ rfl
    have f4_0 := F4.t4.free 0
    have g4_1 : w4.cell? ⟨w.heap.size + 1, 1, none⟩ = some (.int .i64 0) := F4.t4.cell 1 _ rfl
    have f4_1 := F4.t4.free 1
    have g4_2 : w4.cell? ⟨w.heap.size + 1, 2, none⟩ = some (.int .i64 0) := F4.t4.cell 2 _ rfl
    have f4_2 := F4.t4.free 2
    have g4_3 : w4.cell? ⟨w.heap.size + 1, 3, none⟩ = some (.int .i64 0) := F4.t4.cell 3 _ rfl
    have f4_3 := F4.t4.free 3
    go_wp2_with fail
    go_region
    go_wp2_with fail
    obtain ⟨e1, e2, e3, e4⟩ := F4.exit hlt _ rfl
    refine bodyPost_ret (results_ctc rfl _ _ _ _ _ _ rfl rfl (load_tok e1 rfl) (load_pl e2 rfl)) rfl ?_
    have htk : tk (c :: r) = .bad 41 := by (have h9 := H1.out; rw [tk5 HC.out, if_neg (by omega), if_neg (by omega), if_pos (by omega), if_neg (head_ne HV.out H61.out)])
    unfold TokOut
    rw [htk]
    exact ⟨_, _, rfl, e4⟩

set_option maxRecDepth 100000 in
set_option maxHeartbeats 4000000 in
theorem rtoken_sign {S : ByteArray} {pre0 r : List Nat} {c : Nat} {t : List UInt8} (T : Txt S.data.toList (pre0 ++ (c :: r)) t) (hS : S.size ≤ 4096) {w : World} {b : Nat} (hb : Rd w b S pre0) (hc : cls c = 5) (h1 : c ≠ 8788 ∧ c ≠ 8800 ∧ c ≠ 58 ∧ c ≠ 33) :
    Calls Tryd.prog 37 #[ptrV b] w (TokOut w b S pre0 (c :: r)) := by
  have HC := Lib.hid hc
  have hcm : ((c : Int) == -1) = false := by simp
  have k8788 : ((c : Int) == 8788) = false := by simp; omega
  have k8800 : ((c : Int) == 8800) = false := by simp; omega
  have k58 : ((c : Int) == 58) = false := by simp; omega
  have k33 : ((c : Int) == 33) = false := by simp; omega
  have hf := fold_byte hc h1
  have H1 := Lib.hid h1
  clear hc h1
  have hbb : Blk w b _ := hb
  have h1 := hbb.cell 1 _ rfl
  have h2 := hbb.cell 2 _ rfl
  have h3 := hbb.cell 3 _ rfl
  have h4 := hbb.cell 4 _ rfl
  have hlt := hbb.lt
  have F0 := TkF.init (along start pre0) hb
  go_enter Tryd.func37, Tryd.ntmps37
  go_wp2_with fail
  refine (Look_is (v := (c : Int)) T hS (b := b) F0.rd rfl).mono ?_
  rintro e w1 ⟨rfl, hq1⟩
  have F1 := F0.qd hq1
  clear F0 hq1 h1 h2 h3 h4
  go_wp2_with fail
  refine (rClass_calls _ _).mono ?_
  rintro e w' ⟨rfl, rfl⟩
  rw [HC.out]
  have q6_0 : w1.cell? ⟨w.heap.size + 1 + 1 + 1, 0, none⟩ = some (.int .i64 0) := F1.t6.cell 0 _ rfl
  have qf6_0 := F1.t6.free 0
  go_wp2_with fail
  have F2 := F1.setK hlt 3
  refine (Next_at T hS F2.rd).mono ?_
  rintro e w3 ⟨rfl, hrd3, hfr3⟩
  have F3 := F2.next hlt hrd3 hfr3
  clear q6_0 qf6_0 F1 F2 hfr3 hrd3
  have q6_1 : w3.cell? ⟨w.heap.size + 1 + 1 + 1, 1, none⟩ = some (.string ⟨#[]⟩) := F3.t6.cell 1 _ rfl
  have qf6_1 := F3.t6.free 1
  go_wp2_with fail
  refine (rFold_calls _ _).mono ?_
  rintro e w' ⟨rfl, rfl⟩
  obtain ⟨fb, hfb⟩ : ∃ fb, fold (c : Int) = fb := ⟨_, rfl⟩
  rw [hfb] at hf ⊢
  have HFB := Lib.hid hfb
  clear hfb
  have hcv : ((convert 73 9 (.slice (some ⟨w3.heap.size, 0, none⟩) 1 1)).run Tryd.prog (w3.alloc (.cells #[.int .u8 fb] 5))) = .ok (.string ⟨#[UInt8.ofNat fb.toNat]⟩) (w3.alloc (.cells #[.int .u8 fb] 5)) := by
    rw [run_convert_bytes_arg (w3.alloc (.cells #[.int .u8 fb] 5)) 73 5 Tryd.underlying73 Tryd.underlying5 w3.heap.size 0 1 1 [fb] rfl ?_ _ Tryd.underlying9]
    · rfl
    · intro j hj
      obtain rfl : j = 0 := by omega
      exact (Blk.new w3 (.cells #[.int .u8 fb] 5)).cell 0 _ rfl
  clear q6_1 qf6_1
  have F4 := F3.al (.cells #[.int .u8 fb] 5)
  have q6_1 : (w3.alloc (Obj.cells #[Value.int IntKind.u8 fb] 5)).cell? ⟨w.heap.size + 1 + 1 + 1, 1, none⟩ = some (.string ⟨#[]⟩) := F4.t6.cell 1 _ rfl
  have qf6_1 := F4.t6.free 1
  go_wp2_with fail
  have F5 := F4.setS hlt { data := #[UInt8.ofNat fb.toNat] }
  generalize ((w3.alloc (Obj.cells #[Value.int IntKind.u8 fb] 5)).setCell ⟨w.heap.size + 1 + 1 + 1, 1, none⟩ (Value.string { data := #[UInt8.ofNat fb.toNat] })) = w5 at F5 ⊢
  clear q6_1 qf6_1
  have g6_0 : w5.cell? ⟨w.heap.size + 1 + 1 + 1, 0, none⟩ = some (.int .i64 (3)) := F5.t6.cell 0 _ rfl
  have g6_1 : w5.cell? ⟨w.heap.size + 1 + 1 + 1, 1, none⟩ = some (.string { data := #[UInt8.ofNat fb.toNat] }) := F5.t6.cell 1 _ rfl
  have g6_2 : w5.cell? ⟨w.heap.size + 1 + 1 + 1, 2, none⟩ = some (.int .i64 (along start pre0).b) := F5.t6.cell 2 _ rfl
  have g6_3 : w5.cell? ⟨w.heap.size + 1 + 1 + 1, 3, none⟩ = some (.int .i64 (along start pre0).g) := F5.t6.cell 3 _ rfl
  have g6_4 : w5.cell? ⟨w.heap.size + 1 + 1 + 1, 4, none⟩ = some (.int .i64 (along start pre0).l) := F5.t6.cell 4 _ rfl
  have g6_5 : w5.cell? ⟨w.heap.size + 1 + 1 + 1, 5, none⟩ = some (.int .i64 (along start pre0).c) := F5.t6.cell 5 _ rfl
  have f6_0 := F5.t6.free 0
  have f6_1 := F5.t6.free 1
  have g5_0 : w5.cell? ⟨w.heap.size + 1 + 1, 0, none⟩ = some (.int .i64 (along start pre0).b) := F5.t5.cell 0 _ rfl
  have g5_1 : w5.cell? ⟨w.heap.size + 1 + 1, 1, none⟩ = some (.int .i64 (along start pre0).g) := F5.t5.cell 1 _ rfl
  have g5_2 : w5.cell? ⟨w.heap.size + 1 + 1, 2, none⟩ = some (.int .i64 (along start pre0).l) := F5.t5.cell 2 _ rfl
  have g5_3 : w5.cell? ⟨w.heap.size + 1 + 1, 3, none⟩ = some (.int .i64 (along start pre0).c) := F5.t5.cell 3 _ rfl
  have g2_0 : w5.cell? ⟨w.heap.size, 0, none⟩ = some (.int .i64 0) := F5.t2.cell 0 _ rfl
  have f2_0 := F5.t2.free 0
  have g2_1 : w5.cell? ⟨w.heap.size, 1, none⟩ = some (.string ⟨#[]⟩) := F5.t2.cell 1 _ rfl
  have f2_1 := F5.t2.free 1
  have g2_2 : w5.cell? ⟨w.heap.size, 2, none⟩ = some (.int .i64 0) := F5.t2.cell 2 _ rfl
  have f2_2 := F5.t2.free 2
  have g2_3 : w5.cell? ⟨w.heap.size, 3, none⟩ = some (.int .i64 0) := F5.t2.cell 3 _ rfl
  have f2_3 := F5.t2.free 3
  have g2_4 : w5.cell? ⟨w.heap.size, 4, none⟩ = some (.int .i64 0) := F5.t2.cell 4 _ rfl
  have f2_4 := F5.t2.free 4
  have g2_5 : w5.cell? ⟨w.heap.size, 5, none⟩ = some (.int .i64 0) := F5.t2.cell 5 _ rfl
  have f2_5 := F5.t2.free 5
  have g4_0 : w5.cell? ⟨w.heap.size + 1, 0, none⟩ = some (.int .i64 0) := F5.t4.cell 0 _ rfl
  have f4_0 := F5.t4.free 0
  have g4_1 : w5.cell? ⟨w.heap.size + 1, 1, none⟩ = some (.int .i64 0) := F5.t4.cell 1 _ rfl
  have f4_1 := F5.t4.free 1
  have g4_2 : w5.cell? ⟨w.heap.size + 1, 2, none⟩ = some (.int .i64 0) := F5.t4.cell 2 _ rfl
  have f4_2 := F5.t4.free 2
  have g4_3 : w5.cell? ⟨w.heap.size + 1, 3, none⟩ = some (.int .i64 0) := F5.t4.cell 3 _ rfl
  have f4_3 := F5.t4.free 3
  go_wp2_with fail
  go_region
  go_wp2_with fail
  obtain ⟨e1, e2, e3, e4⟩ := F5.exit hlt _ rfl
  refine bodyPost_ret (results_ctc rfl _ _ _ _ _ _ rfl rfl (load_tok e1 rfl) (load_pl e2 rfl)) rfl ?_
  have htk : tk (c :: r) = .ok 3 [UInt8.ofNat (fold c).toNat] 1 := by (have h9 := H1.out; rw [tk5 HC.out, if_neg (by omega), if_neg (by omega), if_neg (by omega)])
  unfold TokOut
  rw [htk]
  exact ⟨by rw [HFB.out]; rfl, by rw [show pre0 ++ (c :: r).take 1 = pre0 ++ [c] from by simp]; exact e3, e4⟩

set_option maxRecDepth 100000 in
set_option maxHeartbeats 4000000 in
theorem rtoken_other {S : ByteArray} {pre0 r : List Nat} {c : Nat} {t : List UInt8} (T : Txt S.data.toList (pre0 ++ (c :: r)) t) (hS : S.size ≤ 4096) {w : World} {b : Nat} (hb : Rd w b S pre0) (hc : cls c ≠ 2 ∧ cls c ≠ 3 ∧ cls c ≠ 5) :
    Calls Tryd.prog 37 #[ptrV b] w (TokOut w b S pre0 (c :: r)) := by
  have hcm : ((c : Int) == -1) = false := by simp
  have n2 : (cls c == 2) = false := by simp [hc.1]
  have n3 : (cls c == 3) = false := by simp [hc.2.1]
  have n5 : (cls c == 5) = false := by simp [hc.2.2]
  have HC := Lib.hid hc
  clear hc
  have hbb : Blk w b _ := hb
  have h1 := hbb.cell 1 _ rfl
  have h2 := hbb.cell 2 _ rfl
  have h3 := hbb.cell 3 _ rfl
  have h4 := hbb.cell 4 _ rfl
  have hlt := hbb.lt
  have F0 := TkF.init (along start pre0) hb
  go_enter Tryd.func37, Tryd.ntmps37
  go_wp2_with fail
  refine (Look_is (v := (c : Int)) T hS (b := b) F0.rd rfl).mono ?_
  rintro e w1 ⟨rfl, hq1⟩
  have F1 := F0.qd hq1
  clear F0 hq1 h1 h2 h3 h4
  go_wp2_with fail
  refine (rClass_calls _ _).mono ?_
  rintro e w' ⟨rfl, rfl⟩
  have g6_0 : w1.cell? ⟨w.heap.size + 1 + 1 + 1, 0, none⟩ = some (.int .i64 (0)) := F1.t6.cell 0 _ rfl
  have g6_1 : w1.cell? ⟨w.heap.size + 1 + 1 + 1, 1, none⟩ = some (.string ⟨#[]⟩) := F1.t6.cell 1 _ rfl
  have g6_2 : w1.cell? ⟨w.heap.size + 1 + 1 + 1, 2, none⟩ = some (.int .i64 (along start pre0).b) := F1.t6.cell 2 _ rfl
  have g6_3 : w1.cell? ⟨w.heap.size + 1 + 1 + 1, 3, none⟩ = some (.int .i64 (along start pre0).g) := F1.t6.cell 3 _ rfl
  have g6_4 : w1.cell? ⟨w.heap.size + 1 + 1 + 1, 4, none⟩ = some (.int .i64 (along start pre0).l) := F1.t6.cell 4 _ rfl
  have g6_5 : w1.cell? ⟨w.heap.size + 1 + 1 + 1, 5, none⟩ = some (.int .i64 (along start pre0).c) := F1.t6.cell 5 _ rfl
  have f6_0 := F1.t6.free 0
  have f6_1 := F1.t6.free 1
  have g5_0 : w1.cell? ⟨w.heap.size + 1 + 1, 0, none⟩ = some (.int .i64 (along start pre0).b) := F1.t5.cell 0 _ rfl
  have g5_1 : w1.cell? ⟨w.heap.size + 1 + 1, 1, none⟩ = some (.int .i64 (along start pre0).g) := F1.t5.cell 1 _ rfl
  have g5_2 : w1.cell? ⟨w.heap.size + 1 + 1, 2, none⟩ = some (.int .i64 (along start pre0).l) := F1.t5.cell 2 _ rfl
  have g5_3 : w1.cell? ⟨w.heap.size + 1 + 1, 3, none⟩ = some (.int .i64 (along start pre0).c) := F1.t5.cell 3 _ rfl
  have g2_0 : w1.cell? ⟨w.heap.size, 0, none⟩ = some (.int .i64 0) := F1.t2.cell 0 _ rfl
  have f2_0 := F1.t2.free 0
  have g2_1 : w1.cell? ⟨w.heap.size, 1, none⟩ = some (.string ⟨#[]⟩) := F1.t2.cell 1 _ rfl
  have f2_1 := F1.t2.free 1
  have g2_2 : w1.cell? ⟨w.heap.size, 2, none⟩ = some (.int .i64 0) := F1.t2.cell 2 _ rfl
  have f2_2 := F1.t2.free 2
  have g2_3 : w1.cell? ⟨w.heap.size, 3, none⟩ = some (.int .i64 0) := F1.t2.cell 3 _ rfl
  have f2_3 := F1.t2.free 3
  have g2_4 : w1.cell? ⟨w.heap.size, 4, none⟩ = some (.int .i64 0) := F1.t2.cell 4 _ rfl
  have f2_4 := F1.t2.free 4
  have g2_5 : w1.cell? ⟨w.heap.size, 5, none⟩ = some (.int .i64 0) := F1.t2.cell 5 _ rfl
  have f2_5 := F1.t2.free 5
  have g4_0 : w1.cell? ⟨w.heap.size + 1, 0, none⟩ = some (.int .i64 0) := F1.t4.cell 0 _ rfl
  have f4_0 := F1.t4.free 0
  have g4_1 : w1.cell? ⟨w.heap.size + 1, 1, none⟩ = some (.int .i64 0) := F1.t4.cell 1 _ rfl
  have f4_1 := F1.t4.free 1
  have g4_2 : w1.cell? ⟨w.heap.size + 1, 2, none⟩ = some (.int .i64 0) := F1.t4.cell 2 _ rfl
  have f4_2 := F1.t4.free 2
  have g4_3 : w1.cell? ⟨w.heap.size + 1, 3, none⟩ = some (.int .i64 0) := F1.t4.cell 3 _ rfl
  have f4_3 := F1.t4.free 3
  go_wp2_with fail
  go_region
  go_wp2_with fail
  obtain ⟨e1, e2, e3, e4⟩ := F1.exit hlt _ rfl
  refine bodyPost_ret (results_ctc rfl _ _ _ _ _ _ rfl rfl (load_tok e1 rfl) (load_pl e2 rfl)) rfl ?_
  have htk : tk (c :: r) = .bad 41 := tkE HC.out.1 HC.out.2.1 HC.out.2.2
  unfold TokOut
  rw [htk]
  exact ⟨_, _, rfl, e4⟩

/-- every token -/
theorem rtoken_calls {S : ByteArray} {pre0 cs : List Nat} {t : List UInt8} (T : Txt S.data.toList (pre0 ++ cs) t) (hS : S.size ≤ 4096) {w : World} {b : Nat} (hb : Rd w b S pre0) (hend : cs = [] → t = []) :
    Calls Tryd.prog 37 #[ptrV b] w (TokOut w b S pre0 cs) := by
  cases cs with
  | nil =>
    obtain rfl := hend rfl
    refine (rtoken_end T hS hb).mono ?_
    rintro e w' ⟨h1, h2, h3⟩
    unfold TokOut
    simp only [tk]
    exact ⟨h1, by simpa using h2, h3⟩
  | cons c r =>
    by_cases h2 : cls c = 2
    · exact rtoken_name T hS hb h2
    by_cases h3 : cls c = 3
    · exact rtoken_num T hS hb h3
    by_cases h5 : cls c = 5
    · by_cases e1 : c = 8788
      · exact rtoken_gets T hS hb h5 e1
      by_cases e2 : c = 8800
      · exact rtoken_unlike T hS hb h5 e2
      by_cases e3 : c = 58
      · exact rtoken_colon T hS hb h5 e3
      by_cases e4 : c = 33
      · exact rtoken_bang T hS hb h5 e4
      exact rtoken_sign T hS hb h5 ⟨e1, e2, e3, e4⟩
    · exact rtoken_other T hS hb ⟨h2, h3, h5⟩
end Go.Proofs.YtklhfbgmadblcaaDoor
