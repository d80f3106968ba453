/- The program's scanner: token, numbers. -/
import Derived.Test.YtklhfbgmadblcaaDoorC7
namespace Go.Proofs.YtklhfbgmadblcaaDoor
open Go.RowKit
set_option linter.unusedVariables false
set_option linter.unusedSimpArgs false

theorem enc_ascii {c : Nat} (h : c < 128) : enc c = [UInt8.ofNat c] := by unfold enc; rw [if_pos (by omega)]
theorem flat_ascii {cs : List Nat} (h : ∀ c ∈ cs, c < 128) : cs.flatMap enc = cs.map UInt8.ofNat := by
  induction cs with
  | nil => rfl
  | cons c cs ih => rw [List.flatMap_cons, enc_ascii (h c (by simp)), ih (fun x hx => h x (by simp [hx]))]; rfl
theorem cls3 {c : Nat} (h : cls c = 3) : 48 ≤ c ∧ c ≤ 57 := by
  have h2 : isDigit c = true := by
    unfold cls at h
    repeat' split at h
    all_goals first
      | assumption
      | (exfalso; omega)
  simp only [isDigit, decide_eq_true_eq] at h2
  omega

set_option maxRecDepth 100000 in
set_option maxHeartbeats 4000000 in
theorem ptoken_num {S : ByteArray} {pre r : List Nat} {c : Nat} {t : List UInt8} (T : Txt S.data.toList (pre ++ c :: r) t) (hS : S.size ≤ 4096) {w : World} {b : Nat} (hb : Sc w b (c :: r) t (along start pre) 0 zeroPl) (hT : Tb w) (hc : cls c = 3) :
    Calls Tryd.prog 40 #[ptrV b] w (PTok w b pre (c :: r) t) := by
  have hc2 : (cls c == 2) = false := by rw [hc]; rfl
  have hc3 : (cls c == 3) = true := by rw [hc]; rfl
  have HC := Lib.hid hc
  clear hc
  have hT0 := hT
  have F0 := PtF.init hb hT
  have hs0 : Sc ((w.alloc (tokO 0 ⟨#[]⟩ zeroPl)).alloc (tokO 0 ⟨#[]⟩ (along start pre))) b (c :: r) t (along start pre) 0 zeroPl := (Blk.alloc hb _).alloc _
  have h1 : w.cell? ⟨b, 1, none⟩ = some (.int .i64 (along start pre).b) := hb.blk.cell 1 _ rfl
  have h2 : w.cell? ⟨b, 2, none⟩ = some (.int .i64 (along start pre).g) := hb.blk.cell 2 _ rfl
  have h3 : w.cell? ⟨b, 3, none⟩ = some (.int .i64 (along start pre).l) := hb.blk.cell 3 _ rfl
  have h4 : w.cell? ⟨b, 4, none⟩ = some (.int .i64 (along start pre).c) := hb.blk.cell 4 _ rfl
  have hlt := hb.blk.lt
  simp only [tokO, zeroPl] at F0 hs0
  go_enter Tryd.func40, Tryd.ntmps40
  go_upto_region 2 with (fail)
  generalize hW1 : World.alloc (World.alloc w _) _ = w1 at F0 hs0 ⊢
  clear hW1 h1 h2 h3 h4
  go_wp2_with fail
  refine (class_some (T.ok c (by simp)) hs0 F0.tb).mono ?_
  rintro e w2 ⟨rfl, hf2⟩
  have hs2 := hs0.no hf2
  have F2 := F0.no hf2
  clear hs0 F0 hf2
  have z0 : w2.cell? ⟨w.heap.size + 1, 0, none⟩ = some (.int .i64 0) := F2.t3.cell 0 _ rfl
  have fz0 := F2.t3.free 0
  have z1 : w2.cell? ⟨w.heap.size + 1, 1, none⟩ = some (.string ⟨#[]⟩) := F2.t3.cell 1 _ rfl
  have fz1 := F2.t3.free 1
  have z2 : w2.cell? ⟨w.heap.size + 1, 2, none⟩ = some (.int .i64 (along start pre).b) := F2.t3.cell 2 _ rfl
  have fz2 := F2.t3.free 2
  have z3 : w2.cell? ⟨w.heap.size + 1, 3, none⟩ = some (.int .i64 (along start pre).g) := F2.t3.cell 3 _ rfl
  have fz3 := F2.t3.free 3
  have z4 : w2.cell? ⟨w.heap.size + 1, 4, none⟩ = some (.int .i64 (along start pre).l) := F2.t3.cell 4 _ rfl
  have fz4 := F2.t3.free 4
  have z5 : w2.cell? ⟨w.heap.size + 1, 5, none⟩ = some (.int .i64 (along start pre).c) := F2.t3.cell 5 _ rfl
  have fz5 := F2.t3.free 5
  go_upto_region 11 with (fail)
  have F3 := F2.setK hT0 2
  have hs3 : Sc _ b (c :: r) t (along start pre) 0 zeroPl := F2.blk hs2 (j := 0) (.int .i64 2)
  generalize w2.setCell ⟨w.heap.size + 1, 0, none⟩ (.int .i64 2) = w3 at F3 hs3 ⊢
  clear F2 hs2 z0 z1 z2 z3 z4 z5 fz0 fz1 fz2 fz3 fz4 fz5
  go_wp2_with fail
  refine (while_digit T hS hs3 F3.tb).mono ?_
  rintro e w4 ⟨mid, rest, hmr, hm1, hm2, rfl, hs4, hf4⟩
  have F4 := F3.call hf4
  clear F3 hs3 hf4
  obtain ⟨k1, k2, k3⟩ := takeWhile_of (p := digit) hmr (fun x hx => by rw [← digQ_digit]; exact hm1 x hx) (fun x y hx => by rw [← digQ_digit]; exact hm2 x y hx)
  have hdg : ∀ d ∈ mid, 48 ≤ d ∧ d ≤ 57 := fun d hd => cls3 (by have := hm1 d hd; simpa [digQ] using this)
  have hfl : mid.flatMap enc = mid.map UInt8.ofNat := flat_ascii (fun x hx => by have := hdg x hx; omega)
  have hm0 : mid ≠ [] := by
    rintro rfl
    have h1 : digQ (cls c) = false := hm2 c r hmr.symm
    rw [HC.out] at h1
    cases h1
  have hml : mid.length ≤ 4096 := by
    have h1 := T.len_le
    rw [← Lib.size_eq] at h1
    have h2 := congrArg List.length hmr
    simp only [List.length_append] at h1 h2
    omega
  have htk : tk (c :: r) = if 2 ^ 1024 ≤ digVal mid then .bad 2 else .ok 2 (decText (digVal mid)) mid.length := by
    simp only [tk]
    rw [if_neg (by rw [HC.out]; decide), if_pos HC.out, k1]
  have HK := Lib.hid (And.intro k2 (And.intro k3 htk))
  have hP := fun w => Parse_calls (⟨(mid.flatMap enc).toArray⟩ : ByteArray) mid hfl hdg hm0 hml w
  have HM := Lib.hid hdg
  clear hmr hm1 hm2 k1 k2 k3 hdg hfl hm0 htk
  obtain ⟨s, hse⟩ : ∃ s : ByteArray, s = ⟨(mid.flatMap enc).toArray⟩ := ⟨_, rfl⟩
  rw [← hse] at hP ⊢
  clear hse
  obtain ⟨n, hn⟩ : ∃ n, digVal mid = n := ⟨_, rfl⟩
  rw [hn] at hP
  have HN := Lib.hid hn
  clear hn
  go_wp2_with fail
  refine (hP _).mono ?_
  rintro e w5 ⟨a5, c5, rfl, ho5, hf5⟩
  have F5 := F4.no hf5
  have hs5 := hs4.no hf5
  have hlt5 := ho5.lt
  clear F4 hs4 hP
  have hdl : (dig L32 n).length ≤ 4096 := by
    have h1 := dig_len_mono (b := 10) (b' := L32) (n := n) (by omega) (by unfold L32; omega)
    have h2 : (dig 10 n).length ≤ mid.length := by
      refine (dig_len_le (by omega)).2 ?_
      rw [← HN.out, digVal_val]
      refine Nat.lt_of_lt_of_le (valB_lt (b := 10) (by omega) (fun x hx => ?_)) (Nat.le_of_eq (by simp))
      obtain ⟨d, hd, rfl⟩ := List.mem_map.1 hx
      have hd2 := HM.out d (List.mem_reverse.1 hd)
      omega
    omega
  go_wp2_with fail
  have hTx := Text_calls _ a5 c5 (dig L32 n) w5 (by omega) (dig_lt (by unfold L32; omega) n) ho5
  rw [valB_dig (by unfold L32; omega)] at hTx
  refine hTx.mono ?_
  rintro e w6 ⟨rfl, hf6⟩
  have F6 := F5.no hf6
  have hs6 := hs5.no hf6
  clear F5 hs5 hTx
  obtain ⟨x, hx⟩ : ∃ x : ByteArray, x = ⟨(decText n).toArray⟩ := ⟨_, rfl⟩
  rw [← hx]
  have HX := Lib.hid hx
  clear hx
  have z0 : w6.cell? ⟨w.heap.size + 1, 0, none⟩ = some (.int .i64 2) := F6.t3.cell 0 _ rfl
  have fz0 := F6.t3.free 0
  have z1 : w6.cell? ⟨w.heap.size + 1, 1, none⟩ = some (.string ⟨#[]⟩) := F6.t3.cell 1 _ rfl
  have fz1 := F6.t3.free 1
  have z2 : w6.cell? ⟨w.heap.size + 1, 2, none⟩ = some (.int .i64 (along start pre).b) := F6.t3.cell 2 _ rfl
  have fz2 := F6.t3.free 2
  have z3 : w6.cell? ⟨w.heap.size + 1, 3, none⟩ = some (.int .i64 (along start pre).g) := F6.t3.cell 3 _ rfl
  have fz3 := F6.t3.free 3
  have z4 : w6.cell? ⟨w.heap.size + 1, 4, none⟩ = some (.int .i64 (along start pre).l) := F6.t3.cell 4 _ rfl
  have fz4 := F6.t3.free 4
  have z5 : w6.cell? ⟨w.heap.size + 1, 5, none⟩ = some (.int .i64 (along start pre).c) := F6.t3.cell 5 _ rfl
  have fz5 := F6.t3.free 5
  go_upto_region 14 with (fail)
  have F7 := F6.setS hT0 x
  have hs7 : Sc _ b rest t (along start (pre ++ mid)) _ _ := F6.blk hs6 (j := 1) (.string x)
  generalize w6.setCell ⟨w.heap.size + 1, 1, none⟩ (.string x) = w7 at F7 hs7 ⊢
  clear F6 hs6 z0 z1 z2 z3 z4 z5 fz0 fz1 fz2 fz3 fz4 fz5
  by_cases hlen : 32 < (dig L32 n).length
  · have hd : decide (((32 : Int) < ((dig L32 n).length : Int))) = true := by simp; omega
    have hbig : 2 ^ 1024 ≤ n := by have := (big_iff n).2 hlen; unfold big at this; exact of_decide_eq_true this
    have HL := Lib.hid hbig
    clear hlen hbig
    have z0 : w7.cell? ⟨w.heap.size + 1, 0, none⟩ = some (.int .i64 2) := F7.t3.cell 0 _ rfl
    have fz0 := F7.t3.free 0
    have z1 : w7.cell? ⟨w.heap.size + 1, 1, none⟩ = some (.string x) := F7.t3.cell 1 _ rfl
    have fz1 := F7.t3.free 1
    have z2 : w7.cell? ⟨w.heap.size + 1, 2, none⟩ = some (.int .i64 (along start pre).b) := F7.t3.cell 2 _ rfl
    have fz2 := F7.t3.free 2
    have z3 : w7.cell? ⟨w.heap.size + 1, 3, none⟩ = some (.int .i64 (along start pre).g) := F7.t3.cell 3 _ rfl
    have fz3 := F7.t3.free 3
    have z4 : w7.cell? ⟨w.heap.size + 1, 4, none⟩ = some (.int .i64 (along start pre).l) := F7.t3.cell 4 _ rfl
    have fz4 := F7.t3.free 4
    have z5 : w7.cell? ⟨w.heap.size + 1, 5, none⟩ = some (.int .i64 (along start pre).c) := F7.t3.cell 5 _ rfl
    have fz5 := F7.t3.free 5
    go_wp2_with fail
    refine (early_calls b _ _ _ _ w7 hs7 2 (along start pre)).mono ?_
    rintro e w8 ⟨rfl, hb8, hf8⟩
    have F8 := F7.call hf8
    clear F7 hs7 z0 z1 z2 z3 z4 z5 fz0 fz1 fz2 fz3 fz4 fz5
    go_upto_region 20 with (fail)
    have q2 := F8.t2
    have q3 := F8.t3
    have y0 : w8.cell? ⟨w.heap.size, 0, none⟩ = some (.int .i64 0) := q2.cell 0 _ rfl
    have fy0 := q2.free 0
    have y1 : w8.cell? ⟨w.heap.size, 1, none⟩ = some (.string ⟨#[]⟩) := q2.cell 1 _ rfl
    have fy1 := q2.free 1
    have y2 : w8.cell? ⟨w.heap.size, 2, none⟩ = some (.int .i64 0) := q2.cell 2 _ rfl
    have fy2 := q2.free 2
    have y3 : w8.cell? ⟨w.heap.size, 3, none⟩ = some (.int .i64 0) := q2.cell 3 _ rfl
    have fy3 := q2.free 3
    have y4 : w8.cell? ⟨w.heap.size, 4, none⟩ = some (.int .i64 0) := q2.cell 4 _ rfl
    have fy4 := q2.free 4
    have y5 : w8.cell? ⟨w.heap.size, 5, none⟩ = some (.int .i64 0) := q2.cell 5 _ rfl
    have fy5 := q2.free 5
    have z0 : w8.cell? ⟨w.heap.size + 1, 0, none⟩ = some (.int .i64 2) := q3.cell 0 _ rfl
    have z1 : w8.cell? ⟨w.heap.size + 1, 1, none⟩ = some (.string x) := q3.cell 1 _ rfl
    have z2 : w8.cell? ⟨w.heap.size + 1, 2, none⟩ = some (.int .i64 (along start pre).b) := q3.cell 2 _ rfl
    have z3 : w8.cell? ⟨w.heap.size + 1, 3, none⟩ = some (.int .i64 (along start pre).g) := q3.cell 3 _ rfl
    have z4 : w8.cell? ⟨w.heap.size + 1, 4, none⟩ = some (.int .i64 (along start pre).l) := q3.cell 4 _ rfl
    have z5 : w8.cell? ⟨w.heap.size + 1, 5, none⟩ = some (.int .i64 (along start pre).c) := q3.cell 5 _ rfl
    go_wp2_with fail
    obtain ⟨e1, e2, e3⟩ := F8.exit _ rfl
    refine bodyPost_ret (results_c rfl _ _ _ _ rfl (load_tok e1 rfl)) rfl ?_
    unfold PTok
    simp only
    rw [HK.out.2.2, HN.out, if_pos HL.out]
    exact ⟨_, _, _, _, rfl, e3 _ hb8, e2⟩
  · have hd : decide (((32 : Int) < ((dig L32 n).length : Int))) = false := by simp; omega
    have hbig : ¬ 2 ^ 1024 ≤ n := fun h => hlen ((big_iff n).1 (by unfold big; exact decide_eq_true h))
    have HL := Lib.hid hbig
    clear hlen hbig
    go_upto_region 20 with (fail)
    have q2 := F7.t2
    have q3 := F7.t3
    have y0 : w7.cell? ⟨w.heap.size, 0, none⟩ = some (.int .i64 0) := q2.cell 0 _ rfl
    have fy0 := q2.free 0
    have y1 : w7.cell? ⟨w.heap.size, 1, none⟩ = some (.string ⟨#[]⟩) := q2.cell 1 _ rfl
    have fy1 := q2.free 1
    have y2 : w7.cell? ⟨w.heap.size, 2, none⟩ = some (.int .i64 0) := q2.cell 2 _ rfl
    have fy2 := q2.free 2
    have y3 : w7.cell? ⟨w.heap.size, 3, none⟩ = some (.int .i64 0) := q2.cell 3 _ rfl
    have fy3 := q2.free 3
    have y4 : w7.cell? ⟨w.heap.size, 4, none⟩ = some (.int .i64 0) := q2.cell 4 _ rfl
    have fy4 := q2.free 4
    have y5 : w7.cell? ⟨w.heap.size, 5, none⟩ = some (.int .i64 0) := q2.cell 5 _ rfl
    have fy5 := q2.free 5
    have z0 : w7.cell? ⟨w.heap.size + 1, 0, none⟩ = some (.int .i64 2) := q3.cell 0 _ rfl
    have z1 : w7.cell? ⟨w.heap.size + 1, 1, none⟩ = some (.string x) := q3.cell 1 _ rfl
    have z2 : w7.cell? ⟨w.heap.size + 1, 2, none⟩ = some (.int .i64 (along start pre).b) := q3.cell 2 _ rfl
    have z3 : w7.cell? ⟨w.heap.size + 1, 3, none⟩ = some (.int .i64 (along start pre).g) := q3.cell 3 _ rfl
    have z4 : w7.cell? ⟨w.heap.size + 1, 4, none⟩ = some (.int .i64 (along start pre).l) := q3.cell 4 _ rfl
    have z5 : w7.cell? ⟨w.heap.size + 1, 5, none⟩ = some (.int .i64 (along start pre).c) := q3.cell 5 _ rfl
    go_wp2_with fail
    obtain ⟨e1, e2, e3⟩ := F7.exit _ rfl
    refine bodyPost_ret (results_c rfl _ _ _ _ rfl (load_tok e1 rfl)) rfl ?_
    unfold PTok
    simp only
    obtain ⟨k2, k3, htk⟩ := HK.out
    rw [htk, HN.out, if_neg HL.out]
    simp only
    rw [k2, k3]
    refine ⟨_, _, by rw [HX.out]; rfl, e3 _ hs7, e2, ?_⟩
    cases rest with
    | nil => exact Or.inr ⟨rfl, rfl⟩
    | cons x y => exact Or.inl ⟨rfl, rfl⟩
end Go.Proofs.YtklhfbgmadblcaaDoor
