/- The program's scanner: token, signs, others; all. -/
import Derived.Test.YtklhfbgmadblcaaDoorC8
namespace Go.Proofs.YtklhfbgmadblcaaDoor
open Go.RowKit
set_option linter.unusedVariables false
set_option linter.unusedSimpArgs false

theorem tk_sign_ok {c : Nat} {r : List Nat} (h : cls c = 5) {k : Int} {x : List UInt8} {m : Nat} (htk : tk (c :: r) = .ok k x m) : k = 3 := by
  simp only [tk] at htk
  rw [if_neg (by rw [h]; decide), if_neg (by rw [h]; decide), if_pos h] at htk
  repeat' split at htk
  all_goals first
    | (cases htk; rfl)
    | cases htk

set_option maxRecDepth 100000 in
set_option maxHeartbeats 4000000 in
theorem ptoken_sign {S : ByteArray} {pre r : List Nat} {c : Nat} {t : List UInt8} (T : Txt S.data.toList (pre ++ c :: r) t) (hS : S.size ≤ 4096) {w : World} {b : Nat} (hb : Sc w b (c :: r) t (along start pre) 0 zeroPl) (hT : Tb w) (hc : cls c = 5) :
    Calls Tryd.prog 40 #[ptrV b] w (PTok w b pre (c :: r) t) := by
  have hc2 : (cls c == 2) = false := by rw [hc]; rfl
  have hc3 : (cls c == 3) = false := by rw [hc]; rfl
  have hc5 : (cls c == 5) = true := by rw [hc]; rfl
  have HC := Lib.hid hc
  clear hc
  have hT0 := hT
  have F0 := PtF.init hb hT
  have hs0 : Sc ((w.alloc (tokO 0 ⟨#[]⟩ zeroPl)).alloc (tokO 0 ⟨#[]⟩ (along start pre))) b (c :: r) t (along start pre) 0 zeroPl := (Blk.alloc hb _).alloc _
  have h1 : w.cell? ⟨b, 1, none⟩ = some (.int .i64 (along start pre).b) := hb.blk.cell 1 _ rfl
  have h2 : w.cell? ⟨b, 2, none⟩ = some (.int .i64 (along start pre).g) := hb.blk.cell 2 _ rfl
  have h3 : w.cell? ⟨b, 3, none⟩ = some (.int .i64 (along start pre).l) := hb.blk.cell 3 _ rfl
  have h4 : w.cell? ⟨b, 4, none⟩ = some (.int .i64 (along start pre).c) := hb.blk.cell 4 _ rfl
  have hlt := hb.blk.lt
  simp only [tokO, zeroPl] at F0 hs0
  go_enter Tryd.func40, Tryd.ntmps40
  go_upto_region 2 with (fail)
  generalize hW1 : World.alloc (World.alloc w _) _ = w1 at F0 hs0 ⊢
  clear hW1 h1 h2 h3 h4
  go_wp2_with fail
  refine (class_some (T.ok c (by simp)) hs0 F0.tb).mono ?_
  rintro e w2 ⟨rfl, hf2⟩
  have hs2 := hs0.no hf2
  have F2 := F0.no hf2
  clear hs0 F0 hf2
  have z0 : w2.cell? ⟨w.heap.size + 1, 0, none⟩ = some (.int .i64 0) := F2.t3.cell 0 _ rfl
  have fz0 := F2.t3.free 0
  have z1 : w2.cell? ⟨w.heap.size + 1, 1, none⟩ = some (.string ⟨#[]⟩) := F2.t3.cell 1 _ rfl
  have fz1 := F2.t3.free 1
  have z2 : w2.cell? ⟨w.heap.size + 1, 2, none⟩ = some (.int .i64 (along start pre).b) := F2.t3.cell 2 _ rfl
  have fz2 := F2.t3.free 2
  have z3 : w2.cell? ⟨w.heap.size + 1, 3, none⟩ = some (.int .i64 (along start pre).g) := F2.t3.cell 3 _ rfl
  have fz3 := F2.t3.free 3
  have z4 : w2.cell? ⟨w.heap.size + 1, 4, none⟩ = some (.int .i64 (along start pre).l) := F2.t3.cell 4 _ rfl
  have fz4 := F2.t3.free 4
  have z5 : w2.cell? ⟨w.heap.size + 1, 5, none⟩ = some (.int .i64 (along start pre).c) := F2.t3.cell 5 _ rfl
  have fz5 := F2.t3.free 5
  go_upto_region 18 with (fail)
  have F3 := F2.setK hT0 3
  have hs3 : Sc _ b (c :: r) t (along start pre) 0 zeroPl := F2.blk hs2 (j := 0) (.int .i64 3)
  generalize w2.setCell ⟨w.heap.size + 1, 0, none⟩ (.int .i64 3) = w3 at F3 hs3 ⊢
  clear F2 hs2 z0 z1 z2 z3 z4 z5 fz0 fz1 fz2 fz3 fz4 fz5
  go_wp2_with fail
  refine (scsign_calls T hS hs3 F3.tb HC.out).mono ?_
  rintro e w4 hsg
  unfold SgOut at hsg
  cases htk : tk (c :: r) with
  | bad n =>
    rw [htk] at hsg
    obtain ⟨s, rest, q, rfl, hb4, hf4⟩ := hsg
    have F4 := F3.call hf4
    have HK := Lib.hid htk
    clear F3 hs3 hf4 htk
    have z0 : w4.cell? ⟨w.heap.size + 1, 0, none⟩ = some (.int .i64 3) := F4.t3.cell 0 _ rfl
    have fz0 := F4.t3.free 0
    have z1 : w4.cell? ⟨w.heap.size + 1, 1, none⟩ = some (.string ⟨#[]⟩) := F4.t3.cell 1 _ rfl
    have fz1 := F4.t3.free 1
    have z2 : w4.cell? ⟨w.heap.size + 1, 2, none⟩ = some (.int .i64 (along start pre).b) := F4.t3.cell 2 _ rfl
    have fz2 := F4.t3.free 2
    have z3 : w4.cell? ⟨w.heap.size + 1, 3, none⟩ = some (.int .i64 (along start pre).g) := F4.t3.cell 3 _ rfl
    have fz3 := F4.t3.free 3
    have z4 : w4.cell? ⟨w.heap.size + 1, 4, none⟩ = some (.int .i64 (along start pre).l) := F4.t3.cell 4 _ rfl
    have fz4 := F4.t3.free 4
    have z5 : w4.cell? ⟨w.heap.size + 1, 5, none⟩ = some (.int .i64 (along start pre).c) := F4.t3.cell 5 _ rfl
    have fz5 := F4.t3.free 5
    go_upto_region 20 with (fail)
    have F5 := F4.setS hT0 s
    have hb5 := F4.blk hb4 (j := 1) (.string s)
    generalize w4.setCell ⟨w.heap.size + 1, 1, none⟩ (.string s) = w5 at F5 hb5 ⊢
    clear F4 hb4 z0 z1 z2 z3 z4 z5 fz0 fz1 fz2 fz3 fz4 fz5
    have q2 := F5.t2
    have q3 := F5.t3
    have y0 : w5.cell? ⟨w.heap.size, 0, none⟩ = some (.int .i64 0) := q2.cell 0 _ rfl
    have fy0 := q2.free 0
    have y1 : w5.cell? ⟨w.heap.size, 1, none⟩ = some (.string ⟨#[]⟩) := q2.cell 1 _ rfl
    have fy1 := q2.free 1
    have y2 : w5.cell? ⟨w.heap.size, 2, none⟩ = some (.int .i64 0) := q2.cell 2 _ rfl
    have fy2 := q2.free 2
    have y3 : w5.cell? ⟨w.heap.size, 3, none⟩ = some (.int .i64 0) := q2.cell 3 _ rfl
    have fy3 := q2.free 3
    have y4 : w5.cell? ⟨w.heap.size, 4, none⟩ = some (.int .i64 0) := q2.cell 4 _ rfl
    have fy4 := q2.free 4
    have y5 : w5.cell? ⟨w.heap.size, 5, none⟩ = some (.int .i64 0) := q2.cell 5 _ rfl
    have fy5 := q2.free 5
    have z0 : w5.cell? ⟨w.heap.size + 1, 0, none⟩ = some (.int .i64 3) := q3.cell 0 _ rfl
    have z1 : w5.cell? ⟨w.heap.size + 1, 1, none⟩ = some (.string s) := q3.cell 1 _ rfl
    have z2 : w5.cell? ⟨w.heap.size + 1, 2, none⟩ = some (.int .i64 (along start pre).b) := q3.cell 2 _ rfl
    have z3 : w5.cell? ⟨w.heap.size + 1, 3, none⟩ = some (.int .i64 (along start pre).g) := q3.cell 3 _ rfl
    have z4 : w5.cell? ⟨w.heap.size + 1, 4, none⟩ = some (.int .i64 (along start pre).l) := q3.cell 4 _ rfl
    have z5 : w5.cell? ⟨w.heap.size + 1, 5, none⟩ = some (.int .i64 (along start pre).c) := q3.cell 5 _ rfl
    go_wp2_with fail
    obtain ⟨e1, e2, e3⟩ := F5.exit _ rfl
    refine bodyPost_ret (results_c rfl _ _ _ _ rfl (load_tok e1 rfl)) rfl ?_
    unfold PTok
    simp only
    rw [HK.out]
    exact ⟨_, _, _, _, rfl, e3 _ hb5, e2⟩
  | ok k x m =>
    rw [htk] at hsg
    obtain ⟨rfl, hs4, hf4⟩ := hsg
    have F4 := F3.call hf4
    have HK := Lib.hid htk
    clear F3 hs3 hf4 htk
    obtain ⟨s, hse⟩ : ∃ s : ByteArray, s = ⟨x.toArray⟩ := ⟨_, rfl⟩
    rw [← hse]
    have HSE := Lib.hid hse
    clear hse
    have z0 : w4.cell? ⟨w.heap.size + 1, 0, none⟩ = some (.int .i64 3) := F4.t3.cell 0 _ rfl
    have fz0 := F4.t3.free 0
    have z1 : w4.cell? ⟨w.heap.size + 1, 1, none⟩ = some (.string ⟨#[]⟩) := F4.t3.cell 1 _ rfl
    have fz1 := F4.t3.free 1
    have z2 : w4.cell? ⟨w.heap.size + 1, 2, none⟩ = some (.int .i64 (along start pre).b) := F4.t3.cell 2 _ rfl
    have fz2 := F4.t3.free 2
    have z3 : w4.cell? ⟨w.heap.size + 1, 3, none⟩ = some (.int .i64 (along start pre).g) := F4.t3.cell 3 _ rfl
    have fz3 := F4.t3.free 3
    have z4 : w4.cell? ⟨w.heap.size + 1, 4, none⟩ = some (.int .i64 (along start pre).l) := F4.t3.cell 4 _ rfl
    have fz4 := F4.t3.free 4
    have z5 : w4.cell? ⟨w.heap.size + 1, 5, none⟩ = some (.int .i64 (along start pre).c) := F4.t3.cell 5 _ rfl
    have fz5 := F4.t3.free 5
    go_upto_region 20 with (fail)
    have F5 := F4.setS hT0 s
    have hs5 : Sc _ b _ t _ _ _ := F4.blk hs4 (j := 1) (.string s)
    generalize w4.setCell ⟨w.heap.size + 1, 1, none⟩ (.string s) = w5 at F5 hs5 ⊢
    clear F4 hs4 z0 z1 z2 z3 z4 z5 fz0 fz1 fz2 fz3 fz4 fz5
    have q2 := F5.t2
    have q3 := F5.t3
    have y0 : w5.cell? ⟨w.heap.size, 0, none⟩ = some (.int .i64 0) := q2.cell 0 _ rfl
    have fy0 := q2.free 0
    have y1 : w5.cell? ⟨w.heap.size, 1, none⟩ = some (.string ⟨#[]⟩) := q2.cell 1 _ rfl
    have fy1 := q2.free 1
    have y2 : w5.cell? ⟨w.heap.size, 2, none⟩ = some (.int .i64 0) := q2.cell 2 _ rfl
    have fy2 := q2.free 2
    have y3 : w5.cell? ⟨w.heap.size, 3, none⟩ = some (.int .i64 0) := q2.cell 3 _ rfl
    have fy3 := q2.free 3
    have y4 : w5.cell? ⟨w.heap.size, 4, none⟩ = some (.int .i64 0) := q2.cell 4 _ rfl
    have fy4 := q2.free 4
    have y5 : w5.cell? ⟨w.heap.size, 5, none⟩ = some (.int .i64 0) := q2.cell 5 _ rfl
    have fy5 := q2.free 5
    have z0 : w5.cell? ⟨w.heap.size + 1, 0, none⟩ = some (.int .i64 3) := q3.cell 0 _ rfl
    have z1 : w5.cell? ⟨w.heap.size + 1, 1, none⟩ = some (.string s) := q3.cell 1 _ rfl
    have z2 : w5.cell? ⟨w.heap.size + 1, 2, none⟩ = some (.int .i64 (along start pre).b) := q3.cell 2 _ rfl
    have z3 : w5.cell? ⟨w.heap.size + 1, 3, none⟩ = some (.int .i64 (along start pre).g) := q3.cell 3 _ rfl
    have z4 : w5.cell? ⟨w.heap.size + 1, 4, none⟩ = some (.int .i64 (along start pre).l) := q3.cell 4 _ rfl
    have z5 : w5.cell? ⟨w.heap.size + 1, 5, none⟩ = some (.int .i64 (along start pre).c) := q3.cell 5 _ rfl
    go_wp2_with fail
    obtain ⟨e1, e2, e3⟩ := F5.exit _ rfl
    refine bodyPost_ret (results_c rfl _ _ _ _ rfl (load_tok e1 rfl)) rfl ?_
    unfold PTok
    simp only
    rw [HK.out]
    have hk := tk_sign_ok HC.out HK.out
    subst hk
    exact ⟨_, _, by rw [HSE.out]; rfl, e3 _ hs5, e2, Or.inl ⟨rfl, rfl⟩⟩

set_option maxRecDepth 100000 in
set_option maxHeartbeats 4000000 in
theorem ptoken_other {S : ByteArray} {pre r : List Nat} {c : Nat} {t : List UInt8} (T : Txt S.data.toList (pre ++ c :: r) t) (hS : S.size ≤ 4096) {w : World} {b : Nat} (hb : Sc w b (c :: r) t (along start pre) 0 zeroPl) (hT : Tb w) (hn2 : cls c ≠ 2) (hn3 : cls c ≠ 3) (hn5 : cls c ≠ 5) :
    Calls Tryd.prog 40 #[ptrV b] w (PTok w b pre (c :: r) t) := by
  have hc2 : (cls c == 2) = false := by simpa using hn2
  have hc3 : (cls c == 3) = false := by simpa using hn3
  have hc5 : (cls c == 5) = false := by simpa using hn5
  have hcm : (cls c == -1) = false := by have := cls_range c; rw [beq_eq_false_iff_ne]; omega
  have htk : tk (c :: r) = .bad 41 := by
    simp only [tk]
    rw [if_neg hn2, if_neg hn3, if_neg hn5]
  have HK := Lib.hid htk
  clear hn2 hn3 hn5 htk
  have hT0 := hT
  have F0 := PtF.init hb hT
  have hs0 : Sc ((w.alloc (tokO 0 ⟨#[]⟩ zeroPl)).alloc (tokO 0 ⟨#[]⟩ (along start pre))) b (c :: r) t (along start pre) 0 zeroPl := (Blk.alloc hb _).alloc _
  have h1 : w.cell? ⟨b, 1, none⟩ = some (.int .i64 (along start pre).b) := hb.blk.cell 1 _ rfl
  have h2 : w.cell? ⟨b, 2, none⟩ = some (.int .i64 (along start pre).g) := hb.blk.cell 2 _ rfl
  have h3 : w.cell? ⟨b, 3, none⟩ = some (.int .i64 (along start pre).l) := hb.blk.cell 3 _ rfl
  have h4 : w.cell? ⟨b, 4, none⟩ = some (.int .i64 (along start pre).c) := hb.blk.cell 4 _ rfl
  have hlt := hb.blk.lt
  simp only [tokO, zeroPl] at F0 hs0
  go_enter Tryd.func40, Tryd.ntmps40
  go_upto_region 2 with (fail)
  generalize hW1 : World.alloc (World.alloc w _) _ = w1 at F0 hs0 ⊢
  clear hW1 h1 h2 h3 h4
  go_wp2_with fail
  refine (class_some (T.ok c (by simp)) hs0 F0.tb).mono ?_
  rintro e w2 ⟨rfl, hf2⟩
  have hs2 := hs0.no hf2
  have F2 := F0.no hf2
  clear hs0 F0 hf2

  have r1 : w2.cell? ⟨b, 1, none⟩ = some (.int .i64 (along start pre).b) := hs2.blk.cell 1 _ rfl
  have r2 : w2.cell? ⟨b, 2, none⟩ = some (.int .i64 (along start pre).g) := hs2.blk.cell 2 _ rfl
  have r3 : w2.cell? ⟨b, 3, none⟩ = some (.int .i64 (along start pre).l) := hs2.blk.cell 3 _ rfl
  have r4 : w2.cell? ⟨b, 4, none⟩ = some (.int .i64 (along start pre).c) := hs2.blk.cell 4 _ rfl
  go_wp2_with fail
  refine (fail_first b _ (along start pre) zeroPl w2 hs2 41 (along start pre)).mono ?_
  rintro e w3 ⟨rfl, hb3, hf3⟩
  have F3 := F2.call hf3
  clear F2 hs2 r1 r2 r3 r4 hf3
  go_upto_region 20 with (fail)
  have q2 := F3.t2
  have q3 := F3.t3
  have y0 : w3.cell? ⟨w.heap.size, 0, none⟩ = some (.int .i64 0) := q2.cell 0 _ rfl
  have fy0 := q2.free 0
  have y1 : w3.cell? ⟨w.heap.size, 1, none⟩ = some (.string ⟨#[]⟩) := q2.cell 1 _ rfl
  have fy1 := q2.free 1
  have y2 : w3.cell? ⟨w.heap.size, 2, none⟩ = some (.int .i64 0) := q2.cell 2 _ rfl
  have fy2 := q2.free 2
  have y3 : w3.cell? ⟨w.heap.size, 3, none⟩ = some (.int .i64 0) := q2.cell 3 _ rfl
  have fy3 := q2.free 3
  have y4 : w3.cell? ⟨w.heap.size, 4, none⟩ = some (.int .i64 0) := q2.cell 4 _ rfl
  have fy4 := q2.free 4
  have y5 : w3.cell? ⟨w.heap.size, 5, none⟩ = some (.int .i64 0) := q2.cell 5 _ rfl
  have fy5 := q2.free 5
  have z0 : w3.cell? ⟨w.heap.size + 1, 0, none⟩ = some (.int .i64 0) := q3.cell 0 _ rfl
  have z1 : w3.cell? ⟨w.heap.size + 1, 1, none⟩ = some (.string ⟨#[]⟩) := q3.cell 1 _ rfl
  have z2 : w3.cell? ⟨w.heap.size + 1, 2, none⟩ = some (.int .i64 (along start pre).b) := q3.cell 2 _ rfl
  have z3 : w3.cell? ⟨w.heap.size + 1, 3, none⟩ = some (.int .i64 (along start pre).g) := q3.cell 3 _ rfl
  have z4 : w3.cell? ⟨w.heap.size + 1, 4, none⟩ = some (.int .i64 (along start pre).l) := q3.cell 4 _ rfl
  have z5 : w3.cell? ⟨w.heap.size + 1, 5, none⟩ = some (.int .i64 (along start pre).c) := q3.cell 5 _ rfl
  go_wp2_with fail
  obtain ⟨e1, e2, e3⟩ := F3.exit _ rfl
  refine bodyPost_ret (results_c rfl _ _ _ _ rfl (load_tok e1 rfl)) rfl ?_
  unfold PTok
  simp only
  rw [HK.out]
  exact ⟨_, _, _, _, rfl, e3 _ hb3, e2⟩

theorem ptoken_calls {S : ByteArray} {pre cs : List Nat} {t : List UInt8} (T : Txt S.data.toList (pre ++ cs) t) (hS : S.size ≤ 4096) {w : World} {b : Nat} (hb : Sc w b cs t (along start pre) (bk cs t (along start pre)).1 (bk cs t (along start pre)).2) (hT : Tb w) :
    Calls Tryd.prog 40 #[ptrV b] w (PTok w b pre cs t) := by
  cases cs with
  | nil => exact ptoken_end T hS hb hT
  | cons c r =>
    by_cases h2 : cls c = 2
    · exact ptoken_name T hS hb hT h2
    · by_cases h3 : cls c = 3
      · exact ptoken_num T hS hb hT h3
      · by_cases h5 : cls c = 5
        · exact ptoken_sign T hS hb hT h5
        · exact ptoken_other T hS hb hT h2 h3 h5
end Go.Proofs.YtklhfbgmadblcaaDoor
