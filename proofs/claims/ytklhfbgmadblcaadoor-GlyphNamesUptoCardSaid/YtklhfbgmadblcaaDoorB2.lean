/- The reference's token, case by case. -/
import Derived.Test.YtklhfbgmadblcaaDoorB1
namespace Go.Proofs.YtklhfbgmadblcaaDoor
open Go.RowKit
set_option linter.unusedVariables false
set_option linter.unusedSimpArgs false

theorem partI_code (c : Nat) : partI (c : Int) = part c := by unfold partI part; simp
theorem partI_neg {c : Int} (h : c < 0) : partI c = false := by unfold partI; simp; omega
theorem takeWhile_at {p : Nat → Bool} {mid rest l : List Nat} (h : l = mid ++ rest) (h1 : ∀ x ∈ mid, p x = true) (h2 : ∀ x, rest.head? = some x → p x = false) : l.takeWhile p = mid := by
  subst h
  rw [List.takeWhile_append_of_pos h1]
  cases rest with
  | nil => simp
  | cons y r => rw [List.takeWhile_cons_of_neg (by rw [h2 y rfl]; simp)]; simp
theorem text_cut {S : ByteArray} {pre mid rest : List Nat} {t : List UInt8} (T : Txt S.data.toList (pre ++ mid ++ rest) t) : S.extract (along start pre).b (along start (pre ++ mid)).b = ⟨(mid.flatMap enc).toArray⟩ := by
  rw [Lib.extract_eq, along_b, along_b, T.eq]
  show (⟨((List.drop (0 + _) _).take _).toArray⟩ : ByteArray) = _
  simp only [List.flatMap_append, List.length_append, List.append_assoc, Nat.zero_add]
  rw [List.drop_left]
  congr 2
  rw [show start.b + ((List.flatMap enc pre).length + (List.flatMap enc mid).length) - (start.b + (List.flatMap enc pre).length) = (List.flatMap enc mid).length by omega]
  rw [List.take_left]

theorem tk2 {c : Nat} {r : List Nat} (h : cls c = 2) : tk (c :: r) = if 16 < ((c :: r).takeWhile part).length then .bad 42 else .ok 1 (((c :: r).takeWhile part).flatMap enc) ((c :: r).takeWhile part).length := by
  simp only [tk]; rw [if_pos h]
theorem tk3 {c : Nat} {r : List Nat} (h : cls c = 3) : tk (c :: r) = if 2 ^ 1024 ≤ digVal ((c :: r).takeWhile digit) then .bad 2 else .ok 2 (decText (digVal ((c :: r).takeWhile digit))) ((c :: r).takeWhile digit).length := by
  simp only [tk]; rw [if_neg (by omega), if_pos h]
theorem tk5 {c : Nat} {r : List Nat} (h : cls c = 5) : tk (c :: r) = if c = 8788 then .ok 3 [58, 61] 1 else if c = 8800 then .ok 3 [33, 61] 1 else if c = 58 ∨ c = 33 then (if r.head? = some 61 then .ok 3 [UInt8.ofNat c, 61] 2 else .bad 41) else .ok 3 [UInt8.ofNat (fold c).toNat] 1 := by
  simp only [tk]; rw [if_neg (by omega), if_neg (by omega), if_pos h]
theorem tkE {c : Nat} {r : List Nat} (h2 : cls c ≠ 2) (h3 : cls c ≠ 3) (h5 : cls c ≠ 5) : tk (c :: r) = .bad 41 := by
  simp only [tk]; rw [if_neg h2, if_neg h3, if_neg h5]

/-- how a token comes out -/
def TokOut (w : World) (b : Nat) (S : ByteArray) (pre cs : List Nat) (e : Ending) (w' : World) : Prop :=
  match tk cs with
  | .bad n => ∃ (k : Int) (x : ByteArray), e = .returned (.tuple #[.agg (tokA k x (along start pre)), .int .i64 n, .agg (plA (along start pre))]) ∧ Fr (· = b) w w'
  | .ok k x n => e = .returned (.tuple #[.agg (tokA k ⟨x.toArray⟩ (along start pre)), .int .i64 0, .agg (plA (along start pre))]) ∧ Rd w' b S (pre ++ cs.take n) ∧ Fr (· = b) w w'

set_option maxRecDepth 100000 in
set_option maxHeartbeats 4000000 in
theorem rtoken_name {S : ByteArray} {pre0 r : List Nat} {c : Nat} {t : List UInt8} (T : Txt S.data.toList (pre0 ++ (c :: r)) t) (hS : S.size ≤ 4096) {w : World} {b : Nat} (hb : Rd w b S pre0) (hc : cls c = 2) :
    Calls Tryd.prog 37 #[ptrV b] w (TokOut w b S pre0 (c :: r)) := by
  have hbb : Blk w b _ := hb
  have h1 := hbb.cell 1 _ rfl
  have h2 := hbb.cell 2 _ rfl
  have h3 := hbb.cell 3 _ rfl
  have h4 := hbb.cell 4 _ rfl
  have hlt := hbb.lt
  have F0 := TkF.init (along start pre0) hb
  go_enter Tryd.func37, Tryd.ntmps37
  go_wp2_with fail
  refine (Look_is (v := (c : Int)) T hS (b := b) F0.rd rfl).mono ?_
  rintro e w1 ⟨rfl, hq1⟩
  have F1 := F0.qd hq1
  clear F0 hq1 h1 h2 h3 h4
  go_wp2_with fail
  refine (rClass_calls _ _).mono ?_
  rintro e w' ⟨rfl, rfl⟩
  rw [hc]
  have hcm : ((c : Int) == -1) = false := by simp
  have HC := Lib.hid hc
  clear hc
  go_wp2_with fail
  go_loopg [] (c :: r).length (fun k wr => ∃ mid rest, c :: r = mid ++ rest ∧ rest.length = k ∧ (∀ x ∈ mid, part x = true) ∧ TkF w wr w.heap.size b S (pre0 ++ mid) (along start pre0) 0 ⟨#[]⟩)
  case atStart => exact ⟨[], c :: r, rfl, rfl, by simp, by rw [List.append_nil]; exact F1⟩
  case round =>
    obtain ⟨mid, rest, hsp, hk, hall, F⟩ := hrel
    have T1 : Txt S.data.toList ((pre0 ++ mid) ++ rest) t := by rw [List.append_assoc, ← hsp]; exact T
    have A := Lib.hid (And.intro hsp (And.intro hk hall))
    clear hsp hk hall
    obtain ⟨v, hv⟩ : ∃ v, lk (!t.isEmpty) rest = v := ⟨_, rfl⟩
    cases hp : partI v with
    | true =>
      have HV := Lib.hid hv
      clear hv
      go_wp2_with fail
      refine (Look_is T1 hS F.rd HV.out).mono ?_
      rintro e w2 ⟨rfl, hq2⟩
      have F2 := F.qd hq2
      go_wp2_with fail
      refine (part_calls _ _).mono ?_
      rintro e w' ⟨rfl, rfl⟩
      go_wp2_with fail
      have hpos : 0 ≤ v := by unfold partI at hp; simp at hp; exact hp.1
      cases rest with
      | nil =>
        have := HV.out
        simp only [lk] at this
        split at this <;> omega
      | cons x rest =>
        have hx : (x : Int) = v := HV.out
        refine (Next_at T1 hS F2.rd).mono ?_
        rintro e w3 ⟨rfl, hrd3, hfr3⟩
        go_wp2_with fail
        obtain ⟨a1, a2, a3⟩ := A.out
        go_roundg rest.length
        case measure => simp at a2; omega
        case rel =>
          refine ⟨mid ++ [x], rest, by rw [a1]; simp, rfl, ?_, ?_⟩
          · intro y hy
            simp only [List.mem_append, List.mem_singleton] at hy
            rcases hy with hy | rfl
            · exact a3 y hy
            · rw [← partI_code, hx]; exact hp
          · rw [← List.append_assoc]
            exact F2.next hlt hrd3 hfr3
    | false =>
      have HV := Lib.hid hv
      clear hv
      go_wp2_with fail
      refine (Look_is T1 hS F.rd HV.out).mono ?_
      rintro e w2 ⟨rfl, hq2⟩
      have F2 := F.qd hq2
      clear F hq2
      go_wp2_with fail
      refine (part_calls _ _).mono ?_
      rintro e w' ⟨rfl, rfl⟩
      obtain ⟨a1, a2, a3⟩ := A.out
      have htw := takeWhile_at (p := part) a1 a3 (fun x hx => by
        cases rest with
        | nil => cases hx
        | cons y rest =>
          simp at hx; subst hx
          rw [← partI_code, show ((y : Nat) : Int) = v from HV.out]; exact hp)
      have htx := text_cut T1
      have hqb := along_b (along start pre0) mid
      have hqg := along_g (along start pre0) mid
      rw [← along_append] at hqb hqg
      obtain ⟨l1, l2, l3, l4⟩ := along_fits T1
      rw [← Lib.size_eq] at l1 l2
      have hb1 : (along start pre0).b ≤ (along start (pre0 ++ mid)).b := by omega
      have hg1 : (along start pre0).g ≤ (along start (pre0 ++ mid)).g := by omega
      have hr0 : w2.cell? ⟨b, 0, none⟩ = some (.string S) := Blk.cell F2.rd 0 _ rfl
      have hr1 : w2.cell? ⟨b, 1, none⟩ = some (.int .i64 (along start (pre0 ++ mid)).b) := Blk.cell F2.rd 1 _ rfl
      have hr2 : w2.cell? ⟨b, 2, none⟩ = some (.int .i64 (along start (pre0 ++ mid)).g) := Blk.cell F2.rd 2 _ rfl
      have HTX := Lib.hid htx
      have HTW := Lib.hid htw
      have HQG := Lib.hid hqg
      clear htx htw hqb hqg a1 a2 a3
      have g6_0 : w2.cell? ⟨w.heap.size + 1 + 1 + 1, 0, none⟩ = some (.int .i64 (0)) := F2.t6.cell 0 _ rfl
      have g6_1 : w2.cell? ⟨w.heap.size + 1 + 1 + 1, 1, none⟩ = some (.string ⟨#[]⟩) := F2.t6.cell 1 _ rfl
      have g6_2 : w2.cell? ⟨w.heap.size + 1 + 1 + 1, 2, none⟩ = some (.int .i64 (along start pre0).b) := F2.t6.cell 2 _ rfl
      have g6_3 : w2.cell? ⟨w.heap.size + 1 + 1 + 1, 3, none⟩ = some (.int .i64 (along start pre0).g) := F2.t6.cell 3 _ rfl
      have g6_4 : w2.cell? ⟨w.heap.size + 1 + 1 + 1, 4, none⟩ = some (.int .i64 (along start pre0).l) := F2.t6.cell 4 _ rfl
      have g6_5 : w2.cell? ⟨w.heap.size + 1 + 1 + 1, 5, none⟩ = some (.int .i64 (along start pre0).c) := F2.t6.cell 5 _ rfl
      have f6_0 := F2.t6.free 0
      have f6_1 := F2.t6.free 1
      have g5_0 : w2.cell? ⟨w.heap.size + 1 + 1, 0, none⟩ = some (.int .i64 (along start pre0).b) := F2.t5.cell 0 _ rfl
      have g5_1 : w2.cell? ⟨w.heap.size + 1 + 1, 1, none⟩ = some (.int .i64 (along start pre0).g) := F2.t5.cell 1 _ rfl
      have g5_2 : w2.cell? ⟨w.heap.size + 1 + 1, 2, none⟩ = some (.int .i64 (along start pre0).l) := F2.t5.cell 2 _ rfl
      have g5_3 : w2.cell? ⟨w.heap.size + 1 + 1, 3, none⟩ = some (.int .i64 (along start pre0).c) := F2.t5.cell 3 _ rfl
      have g2_0 : w2.cell? ⟨w.heap.size, 0, none⟩ = some (.int .i64 0) := F2.t2.cell 0 _ rfl
      have f2_0 := F2.t2.free 0
      have g2_1 : w2.cell? ⟨w.heap.size, 1, none⟩ = some (.string ⟨#[]⟩) := F2.t2.cell 1 _ rfl
      have f2_1 := F2.t2.free 1
      have g2_2 : w2.cell? ⟨w.heap.size, 2, none⟩ = some (.int .i64 0) := F2.t2.cell 2 _ rfl
      have f2_2 := F2.t2.free 2
      have g2_3 : w2.cell? ⟨w.heap.size, 3, none⟩ = some (.int .i64 0) := F2.t2.cell 3 _ rfl
      have f2_3 := F2.t2.free 3
      have g2_4 : w2.cell? ⟨w.heap.size, 4, none⟩ = some (.int .i64 0) := F2.t2.cell 4 _ rfl
      have f2_4 := F2.t2.free 4
      have g2_5 : w2.cell? ⟨w.heap.size, 5, none⟩ = some (.int .i64 0) := F2.t2.cell 5 _ rfl
      have f2_5 := F2.t2.free 5
      have g4_0 : w2.cell? ⟨w.heap.size + 1, 0, none⟩ = some (.int .i64 0) := F2.t4.cell 0 _ rfl
      have f4_0 := F2.t4.free 0
      have g4_1 : w2.cell? ⟨w.heap.size + 1, 1, none⟩ = some (.int .i64 0) := F2.t4.cell 1 _ rfl
      have f4_1 := F2.t4.free 1
      have g4_2 : w2.cell? ⟨w.heap.size + 1, 2, none⟩ = some (.int .i64 0) := F2.t4.cell 2 _ rfl
      have f4_2 := F2.t4.free 2
      have g4_3 : w2.cell? ⟨w.heap.size + 1, 3, none⟩ = some (.int .i64 0) := F2.t4.cell 3 _ rfl
      have f4_3 := F2.t4.free 3
      have hbne : b ≠ w.heap.size + 1 + 1 + 1 := by omega
      have hbne2 : w.heap.size + 1 + 1 + 1 ≠ b := by omega
      by_cases h16 : (16 : Int) < ((along start (pre0 ++ mid)).g : Int) - ((along start pre0).g : Int)
      · go_wp2_with fail
        go_region
        go_wp2_with fail
        go_region
        go_wp2_with fail
        go_region
        go_wp2_with fail
        obtain ⟨e1, e2, e3, e4⟩ := ((F2.setK hlt 1).setS hlt _).exit hlt _ rfl
        refine bodyPost_ret (results_ctc rfl _ _ _ _ _ _ rfl rfl (load_tok e1.drew.drew rfl) (load_pl e2.drew.drew rfl)) rfl ?_
        have htk : tk (c :: r) = .bad 42 := by (have h9 := HQG.out; rw [tk2 HC.out, HTW.out, if_pos (by omega)])
        unfold TokOut
        rw [htk]
        exact ⟨_, _, rfl, e4.drew.drew⟩
      · go_wp2_with fail
        go_region
        go_wp2_with fail
        go_region
        go_wp2_with fail
        go_region
        go_wp2_with fail
        obtain ⟨e1, e2, e3, e4⟩ := ((F2.setK hlt 1).setS hlt _).exit hlt _ rfl
        refine bodyPost_ret (results_ctc rfl _ _ _ _ _ _ rfl rfl (load_tok e1.drew.drew rfl) (load_pl e2.drew.drew rfl)) rfl ?_
        have htk : tk (c :: r) = .ok 1 (mid.flatMap enc) mid.length := by (have h9 := HQG.out; rw [tk2 HC.out, HTW.out, if_neg (by omega)])
        unfold TokOut
        rw [htk]
        exact ⟨by rw [← HTX.out]; rfl, by rw [show pre0 ++ (c :: r).take mid.length = pre0 ++ mid from by have h8 := A.out.1; rw [h8]; simp]; exact e3.drew.drew, e4.drew.drew⟩
end Go.Proofs.YtklhfbgmadblcaaDoor
