/- The program's scanner: token, names. -/
import Derived.Test.YtklhfbgmadblcaaDoorC6
namespace Go.Proofs.YtklhfbgmadblcaaDoor
open Go.RowKit
set_option linter.unusedVariables false
set_option linter.unusedSimpArgs false

theorem takeWhile_of {p : Nat → Bool} {cs mid rest : List Nat} (h : cs = mid ++ rest) (h1 : ∀ c ∈ mid, p c = true) (h2 : ∀ c r, rest = c :: r → p c = false) : cs.takeWhile p = mid ∧ cs.drop mid.length = rest ∧ cs.take mid.length = mid := by
  subst h
  refine ⟨?_, by simp, by simp⟩
  induction mid with
  | nil =>
    cases rest with
    | nil => rfl
    | cons c r => simp [List.takeWhile, h2 c r rfl]
  | cons x mid ih =>
    rw [List.cons_append, List.takeWhile_cons_of_pos (h1 x (by simp)), ih (fun c hc => h1 c (by simp [hc]))]
theorem nameQ_part (c : Nat) : nameQ (cls c) = part c := by
  unfold nameQ part
  by_cases h2 : cls c = 2
  · simp [h2]
  · by_cases h3 : cls c = 3
    · simp [h3]
    · by_cases h4 : cls c = 4
      · simp [h4]
      · have e2 : (cls c == 2) = false := by simpa using h2
        have e3 : (cls c == 3) = false := by simpa using h3
        have e4 : (cls c == 4) = false := by simpa using h4
        simp [h2, h3, h4, e2, e3, e4]
theorem digQ_digit (c : Nat) : digQ (cls c) = digit c := by
  unfold digQ digit
  by_cases h3 : cls c = 3 <;> simp [h3]

set_option maxRecDepth 100000 in
set_option maxHeartbeats 4000000 in
theorem ptoken_name {S : ByteArray} {pre r : List Nat} {c : Nat} {t : List UInt8} (T : Txt S.data.toList (pre ++ c :: r) t) (hS : S.size ≤ 4096) {w : World} {b : Nat} (hb : Sc w b (c :: r) t (along start pre) 0 zeroPl) (hT : Tb w) (hc : cls c = 2) :
    Calls Tryd.prog 40 #[ptrV b] w (PTok w b pre (c :: r) t) := by
  have hc2 : (cls c == 2) = true := by simpa using hc
  have HC := Lib.hid hc
  clear hc
  have hT0 := hT
  have F0 := PtF.init hb hT
  have hs0 : Sc ((w.alloc (tokO 0 ⟨#[]⟩ zeroPl)).alloc (tokO 0 ⟨#[]⟩ (along start pre))) b (c :: r) t (along start pre) 0 zeroPl := (Blk.alloc hb _).alloc _
  have h1 : w.cell? ⟨b, 1, none⟩ = some (.int .i64 (along start pre).b) := hb.blk.cell 1 _ rfl
  have h2 : w.cell? ⟨b, 2, none⟩ = some (.int .i64 (along start pre).g) := hb.blk.cell 2 _ rfl
  have h3 : w.cell? ⟨b, 3, none⟩ = some (.int .i64 (along start pre).l) := hb.blk.cell 3 _ rfl
  have h4 : w.cell? ⟨b, 4, none⟩ = some (.int .i64 (along start pre).c) := hb.blk.cell 4 _ rfl
  have hlt := hb.blk.lt
  simp only [tokO, zeroPl] at F0 hs0
  go_enter Tryd.func40, Tryd.ntmps40
  go_upto_region 2 with (fail)
  generalize hW1 : World.alloc (World.alloc w _) _ = w1 at F0 hs0 ⊢
  clear hW1 h1 h2 h3 h4
  go_wp2_with fail
  refine (class_some (T.ok c (by simp)) hs0 F0.tb).mono ?_
  rintro e w2 ⟨rfl, hf2⟩
  have hs2 := hs0.no hf2
  have F2 := F0.no hf2
  clear hs0 F0 hf2
  have z0 : w2.cell? ⟨w.heap.size + 1, 0, none⟩ = some (.int .i64 0) := F2.t3.cell 0 _ rfl
  have fz0 := F2.t3.free 0
  have z1 : w2.cell? ⟨w.heap.size + 1, 1, none⟩ = some (.string ⟨#[]⟩) := F2.t3.cell 1 _ rfl
  have fz1 := F2.t3.free 1
  have z2 : w2.cell? ⟨w.heap.size + 1, 2, none⟩ = some (.int .i64 (along start pre).b) := F2.t3.cell 2 _ rfl
  have fz2 := F2.t3.free 2
  have z3 : w2.cell? ⟨w.heap.size + 1, 3, none⟩ = some (.int .i64 (along start pre).g) := F2.t3.cell 3 _ rfl
  have fz3 := F2.t3.free 3
  have z4 : w2.cell? ⟨w.heap.size + 1, 4, none⟩ = some (.int .i64 (along start pre).l) := F2.t3.cell 4 _ rfl
  have fz4 := F2.t3.free 4
  have z5 : w2.cell? ⟨w.heap.size + 1, 5, none⟩ = some (.int .i64 (along start pre).c) := F2.t3.cell 5 _ rfl
  have fz5 := F2.t3.free 5
  go_upto_region 6 with (fail)
  have F3 := F2.setK hT0 1
  have hs3 : Sc _ b (c :: r) t (along start pre) 0 zeroPl := F2.blk hs2 (j := 0) (.int .i64 1)
  generalize w2.setCell ⟨w.heap.size + 1, 0, none⟩ (.int .i64 1) = w3 at F3 hs3 ⊢
  clear F2 hs2 z0 z1 z2 z3 z4 z5 fz0 fz1 fz2 fz3 fz4 fz5
  go_wp2_with fail
  refine (while_name T hS hs3 F3.tb).mono ?_
  rintro e w4 ⟨mid, rest, hmr, hm1, hm2, rfl, hs4, hf4⟩
  have F4 := F3.call hf4
  clear F3 hs3 hf4
  obtain ⟨k1, k2, k3⟩ := takeWhile_of (p := part) hmr (fun x hx => by rw [← nameQ_part]; exact hm1 x hx) (fun x y hx => by rw [← nameQ_part]; exact hm2 x y hx)
  have hok : ∀ x ∈ mid, okc x = true := fun x hx => T.ok x (by rw [hmr]; simp [hx])
  have hrc : Lib.runeCount (⟨(mid.flatMap enc).toArray⟩ : ByteArray) = mid.length := runeCount_of _ mid hok rfl
  have hms : (⟨(mid.flatMap enc).toArray⟩ : ByteArray).size < 9223372036854775807 := by
    have h1 := tx_size T hS
    rw [hmr, Lib.size_eq, tx_list] at h1
    rw [Lib.size_eq]
    simp only [List.flatMap_append, List.length_append] at h1
    show (mid.flatMap enc).length < _
    omega
  have hrcc := fun w => Tryd.utf8_RuneCountInString (⟨(mid.flatMap enc).toArray⟩ : ByteArray) w hms
  rw [hrc] at hrcc
  have htk : tk (c :: r) = if 16 < mid.length then .bad 42 else .ok 1 (mid.flatMap enc) mid.length := by
    simp only [tk]
    rw [if_pos HC.out, k1]
  have HK := Lib.hid (And.intro k2 (And.intro k3 htk))
  clear hmr hm1 hm2 k1 k2 k3 hrc hok htk
  obtain ⟨s, hse⟩ : ∃ s : ByteArray, s = ⟨(mid.flatMap enc).toArray⟩ := ⟨_, rfl⟩
  rw [← hse] at hrcc ⊢
  have HSE := Lib.hid hse
  clear hse
  have z0 : w4.cell? ⟨w.heap.size + 1, 0, none⟩ = some (.int .i64 1) := F4.t3.cell 0 _ rfl
  have fz0 := F4.t3.free 0
  have z1 : w4.cell? ⟨w.heap.size + 1, 1, none⟩ = some (.string ⟨#[]⟩) := F4.t3.cell 1 _ rfl
  have fz1 := F4.t3.free 1
  have z2 : w4.cell? ⟨w.heap.size + 1, 2, none⟩ = some (.int .i64 (along start pre).b) := F4.t3.cell 2 _ rfl
  have fz2 := F4.t3.free 2
  have z3 : w4.cell? ⟨w.heap.size + 1, 3, none⟩ = some (.int .i64 (along start pre).g) := F4.t3.cell 3 _ rfl
  have fz3 := F4.t3.free 3
  have z4 : w4.cell? ⟨w.heap.size + 1, 4, none⟩ = some (.int .i64 (along start pre).l) := F4.t3.cell 4 _ rfl
  have fz4 := F4.t3.free 4
  have z5 : w4.cell? ⟨w.heap.size + 1, 5, none⟩ = some (.int .i64 (along start pre).c) := F4.t3.cell 5 _ rfl
  have fz5 := F4.t3.free 5
  go_upto_region 7 with (fail)
  have F5 := F4.setS hT0 s
  have hs5 : Sc _ b rest t (along start (pre ++ mid)) _ _ := F4.blk hs4 (j := 1) (.string s)
  generalize w4.setCell ⟨w.heap.size + 1, 1, none⟩ (.string s) = w5 at F5 hs5 ⊢
  clear F4 hs4 z0 z1 z2 z3 z4 z5 fz0 fz1 fz2 fz3 fz4 fz5
  have z1 : w5.cell? ⟨w.heap.size + 1, 1, none⟩ = some (.string s) := F5.t3.cell 1 _ rfl
  go_wp2_with fail
  refine (hrcc _).mono ?_
  rintro e w6 ⟨rfl, pos, rfl⟩
  have F6 := F5.no ((Fr.refl No w5).alloc (.stringIter s pos))
  have hs6 : Sc _ b rest t (along start (pre ++ mid)) _ _ := Blk.alloc hs5 (.stringIter s pos)
  change PtF w (w5.iter s pos) b _ _ _ at F6
  change Sc (w5.iter s pos) b _ _ _ _ _ at hs6
  generalize w5.iter s pos = w6 at F6 hs6 ⊢
  clear F5 hs5 z1 hrcc
  by_cases hlen : 16 < mid.length
  · have hd : decide (((16 : Int) < (mid.length : Int))) = true := by simp; omega
    have HL := Lib.hid hlen
    clear hlen
    have z0 : w6.cell? ⟨w.heap.size + 1, 0, none⟩ = some (.int .i64 1) := F6.t3.cell 0 _ rfl
    have fz0 := F6.t3.free 0
    have z1 : w6.cell? ⟨w.heap.size + 1, 1, none⟩ = some (.string s) := F6.t3.cell 1 _ rfl
    have fz1 := F6.t3.free 1
    have z2 : w6.cell? ⟨w.heap.size + 1, 2, none⟩ = some (.int .i64 (along start pre).b) := F6.t3.cell 2 _ rfl
    have fz2 := F6.t3.free 2
    have z3 : w6.cell? ⟨w.heap.size + 1, 3, none⟩ = some (.int .i64 (along start pre).g) := F6.t3.cell 3 _ rfl
    have fz3 := F6.t3.free 3
    have z4 : w6.cell? ⟨w.heap.size + 1, 4, none⟩ = some (.int .i64 (along start pre).l) := F6.t3.cell 4 _ rfl
    have fz4 := F6.t3.free 4
    have z5 : w6.cell? ⟨w.heap.size + 1, 5, none⟩ = some (.int .i64 (along start pre).c) := F6.t3.cell 5 _ rfl
    have fz5 := F6.t3.free 5
    go_wp2_with fail
    refine (early_calls b _ _ _ _ w6 hs6 42 (along start pre)).mono ?_
    rintro e w7 ⟨rfl, hb7, hf7⟩
    have F7 := F6.call hf7
    clear F6 hs6 z0 z1 z2 z3 z4 z5 fz0 fz1 fz2 fz3 fz4 fz5
    go_upto_region 20 with (fail)
    have q2 := F7.t2
    have q3 := F7.t3
    have y0 : w7.cell? ⟨w.heap.size, 0, none⟩ = some (.int .i64 0) := q2.cell 0 _ rfl
    have fy0 := q2.free 0
    have y1 : w7.cell? ⟨w.heap.size, 1, none⟩ = some (.string ⟨#[]⟩) := q2.cell 1 _ rfl
    have fy1 := q2.free 1
    have y2 : w7.cell? ⟨w.heap.size, 2, none⟩ = some (.int .i64 0) := q2.cell 2 _ rfl
    have fy2 := q2.free 2
    have y3 : w7.cell? ⟨w.heap.size, 3, none⟩ = some (.int .i64 0) := q2.cell 3 _ rfl
    have fy3 := q2.free 3
    have y4 : w7.cell? ⟨w.heap.size, 4, none⟩ = some (.int .i64 0) := q2.cell 4 _ rfl
    have fy4 := q2.free 4
    have y5 : w7.cell? ⟨w.heap.size, 5, none⟩ = some (.int .i64 0) := q2.cell 5 _ rfl
    have fy5 := q2.free 5
    have z0 : w7.cell? ⟨w.heap.size + 1, 0, none⟩ = some (.int .i64 1) := q3.cell 0 _ rfl
    have z1 : w7.cell? ⟨w.heap.size + 1, 1, none⟩ = some (.string s) := q3.cell 1 _ rfl
    have z2 : w7.cell? ⟨w.heap.size + 1, 2, none⟩ = some (.int .i64 (along start pre).b) := q3.cell 2 _ rfl
    have z3 : w7.cell? ⟨w.heap.size + 1, 3, none⟩ = some (.int .i64 (along start pre).g) := q3.cell 3 _ rfl
    have z4 : w7.cell? ⟨w.heap.size + 1, 4, none⟩ = some (.int .i64 (along start pre).l) := q3.cell 4 _ rfl
    have z5 : w7.cell? ⟨w.heap.size + 1, 5, none⟩ = some (.int .i64 (along start pre).c) := q3.cell 5 _ rfl
    go_wp2_with fail
    obtain ⟨e1, e2, e3⟩ := F7.exit _ rfl
    refine bodyPost_ret (results_c rfl _ _ _ _ rfl (load_tok e1 rfl)) rfl ?_
    unfold PTok
    simp only
    rw [HK.out.2.2, if_pos HL.out]
    exact ⟨_, _, _, _, rfl, e3 _ hb7, e2⟩
  · have hd : decide (((16 : Int) < (mid.length : Int))) = false := by simp; omega
    have HL := Lib.hid hlen
    clear hlen
    go_upto_region 20 with (fail)
    have q2 := F6.t2
    have q3 := F6.t3
    have y0 : w6.cell? ⟨w.heap.size, 0, none⟩ = some (.int .i64 0) := q2.cell 0 _ rfl
    have fy0 := q2.free 0
    have y1 : w6.cell? ⟨w.heap.size, 1, none⟩ = some (.string ⟨#[]⟩) := q2.cell 1 _ rfl
    have fy1 := q2.free 1
    have y2 : w6.cell? ⟨w.heap.size, 2, none⟩ = some (.int .i64 0) := q2.cell 2 _ rfl
    have fy2 := q2.free 2
    have y3 : w6.cell? ⟨w.heap.size, 3, none⟩ = some (.int .i64 0) := q2.cell 3 _ rfl
    have fy3 := q2.free 3
    have y4 : w6.cell? ⟨w.heap.size, 4, none⟩ = some (.int .i64 0) := q2.cell 4 _ rfl
    have fy4 := q2.free 4
    have y5 : w6.cell? ⟨w.heap.size, 5, none⟩ = some (.int .i64 0) := q2.cell 5 _ rfl
    have fy5 := q2.free 5
    have z0 : w6.cell? ⟨w.heap.size + 1, 0, none⟩ = some (.int .i64 1) := q3.cell 0 _ rfl
    have z1 : w6.cell? ⟨w.heap.size + 1, 1, none⟩ = some (.string s) := q3.cell 1 _ rfl
    have z2 : w6.cell? ⟨w.heap.size + 1, 2, none⟩ = some (.int .i64 (along start pre).b) := q3.cell 2 _ rfl
    have z3 : w6.cell? ⟨w.heap.size + 1, 3, none⟩ = some (.int .i64 (along start pre).g) := q3.cell 3 _ rfl
    have z4 : w6.cell? ⟨w.heap.size + 1, 4, none⟩ = some (.int .i64 (along start pre).l) := q3.cell 4 _ rfl
    have z5 : w6.cell? ⟨w.heap.size + 1, 5, none⟩ = some (.int .i64 (along start pre).c) := q3.cell 5 _ rfl
    go_wp2_with fail
    obtain ⟨e1, e2, e3⟩ := F6.exit _ rfl
    refine bodyPost_ret (results_c rfl _ _ _ _ rfl (load_tok e1 rfl)) rfl ?_
    unfold PTok
    simp only
    obtain ⟨k2, k3, htk⟩ := HK.out
    rw [htk, if_neg HL.out]
    simp only
    rw [k2, k3]
    refine ⟨_, _, by rw [HSE.out]; rfl, e3 _ hs6, e2, ?_⟩
    cases rest with
    | nil => exact Or.inr ⟨rfl, rfl⟩
    | cons x y => exact Or.inl ⟨rfl, rfl⟩
end Go.Proofs.YtklhfbgmadblcaaDoor
