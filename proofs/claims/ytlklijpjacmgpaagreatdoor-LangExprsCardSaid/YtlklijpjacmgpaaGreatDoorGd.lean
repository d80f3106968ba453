/- The program's Scan. -/
import Derived.Test.YtlklijpjacmgpaaGreatDoorGb
import Derived.Test.YtlklijpjacmgpaaGreatDoorGc
namespace Go.Proofs.YtlklijpjacmgpaaGreatDoor
open Go.RowKit
set_option linter.unusedVariables false
set_option linter.unusedSimpArgs false

/-- what token's frame holds -/
structure PtF (w wr : World) (b : Nat) (p : Pl) (k : Int) (s : ByteArray) : Prop where
  t2 : Blk wr w.heap.size (tokO 0 ⟨#[]⟩ zeroPl)
  t3 : Blk wr (w.heap.size + 1) (tokO k s p)
  fr : Fr (· = b) w wr
  tb : Tb wr
  lt : b < w.heap.size
  n0 : ¬ (0 = b)
  n1 : ¬ (1 = b)
theorem PtF.call {w wr wr' : World} {b : Nat} {p : Pl} {k : Int} {s : ByteArray} (F : PtF w wr b p k s) (f : Fr (· = b) wr wr') : PtF w wr' b p k s := by
  have hlt := F.lt
  exact ⟨F.t2.fr f (by omega), F.t3.fr f (by omega), F.fr.call f (fun _ _ x => x), F.tb.fr f F.n0 F.n1, F.lt, F.n0, F.n1⟩
theorem PtF.no {w wr wr' : World} {b : Nat} {p : Pl} {k : Int} {s : ByteArray} (F : PtF w wr b p k s) (f : Fr No wr wr') : PtF w wr' b p k s := F.call (f.mono (fun _ _ x => x.elim))
theorem Tb.lt {w : World} (h : Tb w) : 1 < w.heap.size := by
  have hc := (h.2 0 (by omega)).1
  by_cases hb : 1 < w.heap.size
  · exact hb
  · simp [World.cell?, Array.getElem?_eq_none (Nat.le_of_not_lt hb)] at hc
theorem Tb.set {w w0 : World} (h : Tb w) (h0 : Tb w0) {a : Addr} (ha : w0.heap.size ≤ a.block) (v : Value) : Tb (w.setCell a v) := by
  have := h0.lt
  exact h.fr (S := (· = a.block)) ((Fr.refl _ _).setCell _ (fun _ => rfl)) (by omega) (by omega)
theorem PtF.setK {w wr : World} {b : Nat} {p : Pl} {k : Int} {s : ByteArray} (F : PtF w wr b p k s) (h0 : Tb w) (k' : Int) : PtF w (wr.setCell ⟨w.heap.size + 1, 0, none⟩ (.int .i64 k')) b p k' s := by
  have hlt := F.lt
  exact ⟨F.t2.set_ne _ _ (by simp), F.t3.setOff 0 _, F.fr.setCell _ (fun h => by simp at h; omega), F.tb.set h0 (by simp) _, F.lt, F.n0, F.n1⟩
theorem PtF.setS {w wr : World} {b : Nat} {p : Pl} {k : Int} {s : ByteArray} (F : PtF w wr b p k s) (h0 : Tb w) (s' : ByteArray) : PtF w (wr.setCell ⟨w.heap.size + 1, 1, none⟩ (.string s')) b p k s' := by
  have hlt := F.lt
  exact ⟨F.t2.set_ne _ _ (by simp), F.t3.setOff 1 _, F.fr.setCell _ (fun h => by simp at h; omega), F.tb.set h0 (by simp) _, F.lt, F.n0, F.n1⟩
theorem PtF.blk {w wr : World} {b : Nat} {p : Pl} {k : Int} {s : ByteArray} (F : PtF w wr b p k s) {o : Obj} (h : Blk wr b o) {j : Nat} (v : Value) : Blk (wr.setCell ⟨w.heap.size + 1, j, none⟩ v) b o := by
  have hlt := F.lt
  exact h.set_ne _ _ (by simp; omega)
theorem PtF.exit {w wr : World} {b : Nat} {p : Pl} {k : Int} {s : ByteArray} (F : PtF w wr b p k s) (W : World)
    (hW : W = (((((wr.setCell ⟨w.heap.size, 0, none⟩ (.int .i64 k)).setCell ⟨w.heap.size, 1, none⟩ (.string s)).setCell ⟨w.heap.size, 2, none⟩ (.int .i64 p.b)).setCell ⟨w.heap.size, 3, none⟩ (.int .i64 p.g)).setCell ⟨w.heap.size, 4, none⟩ (.int .i64 p.l)).setCell ⟨w.heap.size, 5, none⟩ (.int .i64 p.c)) :
    Blk W w.heap.size (tokO k s p) ∧ Fr (· = b) w W ∧ (∀ o, Blk wr b o → Blk W b o) := by
  have hlt := F.lt
  subst hW
  refine ⟨?_, ?_, fun o h => ?_⟩
  · exact (((((F.t2.setOff 0 _).setOff 1 _).setOff 2 _).setOff 3 _).setOff 4 _).setOff 5 _
  · exact (((((F.fr.setCell _ (by simp)).setCell _ (by simp)).setCell _ (by simp)).setCell _ (by simp)).setCell _ (by simp)).setCell _ (by simp)
  · exact (((((h.set_ne _ _ (by simp; omega)).set_ne _ _ (by simp; omega)).set_ne _ _ (by simp; omega)).set_ne _ _ (by simp; omega)).set_ne _ _ (by simp; omega)).set_ne _ _ (by simp; omega)
/-- what token hands back -/
def PTok (w : World) (b : Nat) (pre : List Nat) (cs : List Nat) (t : List UInt8) (e : Ending) (w' : World) : Prop :=
  match cs with
  | [] => e = .returned (.agg (tokA 0 ⟨#[]⟩ (along start pre))) ∧ Sc w' b [] t (along start pre) (fz t (along start pre) 0 zeroPl).1 (fz t (along start pre) 0 zeroPl).2 ∧ Fr (· = b) w w'
  | c :: r => match tk (c :: r) with
    | .bad n => ∃ k x rest q, e = .returned (.agg (tokA k x (along start pre))) ∧ Blk w' b (scO rest q n (along start pre)) ∧ Fr (· = b) w w'
    | .ok k x m => ∃ C B, e = .returned (.agg (tokA k ⟨x.toArray⟩ (along start pre))) ∧ Sc w' b ((c :: r).drop m) t (along start (pre ++ (c :: r).take m)) C B ∧ Fr (· = b) w w' ∧
        ((C = 0 ∧ B = zeroPl) ∨ ((c :: r).drop m = [] ∧ (C, B) = fz t (along start (pre ++ (c :: r).take m)) 0 zeroPl))
theorem PtF.init {w : World} {b : Nat} {cs : List Nat} {t : List UInt8} {p : Pl} {C : Int} {B : Pl} (hb : Sc w b cs t p C B) (hT : Tb w) :
    PtF w ((w.alloc (tokO 0 ⟨#[]⟩ zeroPl)).alloc (tokO 0 ⟨#[]⟩ p)) b p 0 ⟨#[]⟩ := by
  have h := Blk.new (w.alloc (tokO 0 ⟨#[]⟩ zeroPl)) (tokO 0 ⟨#[]⟩ p)
  rw [show (w.alloc (tokO 0 ⟨#[]⟩ zeroPl)).heap.size = w.heap.size + 1 by simp] at h
  exact ⟨(Blk.new _ _).alloc _, h, ((Fr.refl _ _).alloc _).alloc _, hT.no (((Fr.refl _ _).alloc _).alloc _), hb.blk.lt, (hT.sc hb).1, (hT.sc hb).2⟩
set_option maxRecDepth 100000 in
set_option maxHeartbeats 2000000 in
theorem ptoken_end {S : ByteArray} {pre : List Nat} {t : List UInt8} (T : Txt S.data.toList (pre ++ []) t) (hS : S.size ≤ 4096) {w : World} {b : Nat} (hb : Sc w b [] t (along start pre) (fz t (along start pre) 0 zeroPl).1 (fz t (along start pre) 0 zeroPl).2) (hT : Tb w) :
    Calls Tryz.prog 104 #[ptrV b] w (PTok w b pre [] t) := by
  have hT0 := hT
  have F0 := PtF.init hb hT
  have hs0 : Sc ((w.alloc (tokO 0 ⟨#[]⟩ zeroPl)).alloc (tokO 0 ⟨#[]⟩ (along start pre))) b [] t (along start pre) (fz t (along start pre) 0 zeroPl).1 (fz t (along start pre) 0 zeroPl).2 := (Blk.alloc hb _).alloc _
  have h1 : w.cell? ⟨b, 1, none⟩ = some (.int .i64 (along start pre).b) := hb.blk.cell 1 _ rfl
  have h2 : w.cell? ⟨b, 2, none⟩ = some (.int .i64 (along start pre).g) := hb.blk.cell 2 _ rfl
  have h3 : w.cell? ⟨b, 3, none⟩ = some (.int .i64 (along start pre).l) := hb.blk.cell 3 _ rfl
  have h4 : w.cell? ⟨b, 4, none⟩ = some (.int .i64 (along start pre).c) := hb.blk.cell 4 _ rfl
  have hlt := hb.blk.lt
  simp only [tokO, zeroPl] at F0 hs0
  go_enter Tryz.func104, Tryz.ntmps104
  go_upto_region 2 with (fail)
  generalize hW1 : World.alloc (World.alloc w _) _ = w1 at F0 hs0 ⊢
  clear hW1 h1 h2 h3 h4
  go_wp2_with fail
  refine (class_none' T.stop (Stands.fz hs0) F0.tb).mono ?_
  rintro e w2 ⟨rfl, hs2, hf2⟩
  have F2 := F0.call hf2
  have q2 := F2.t2
  have q3 := F2.t3
  have y0 : w2.cell? ⟨w.heap.size, 0, none⟩ = some (.int .i64 0) := q2.cell 0 _ rfl
  have fy0 := q2.free 0
  have y1 : w2.cell? ⟨w.heap.size, 1, none⟩ = some (.string ⟨#[]⟩) := q2.cell 1 _ rfl
  have fy1 := q2.free 1
  have y2 : w2.cell? ⟨w.heap.size, 2, none⟩ = some (.int .i64 0) := q2.cell 2 _ rfl
  have fy2 := q2.free 2
  have y3 : w2.cell? ⟨w.heap.size, 3, none⟩ = some (.int .i64 0) := q2.cell 3 _ rfl
  have fy3 := q2.free 3
  have y4 : w2.cell? ⟨w.heap.size, 4, none⟩ = some (.int .i64 0) := q2.cell 4 _ rfl
  have fy4 := q2.free 4
  have y5 : w2.cell? ⟨w.heap.size, 5, none⟩ = some (.int .i64 0) := q2.cell 5 _ rfl
  have fy5 := q2.free 5
  have z0 : w2.cell? ⟨w.heap.size + 1, 0, none⟩ = some (.int .i64 0) := q3.cell 0 _ rfl
  have z1 : w2.cell? ⟨w.heap.size + 1, 1, none⟩ = some (.string ⟨#[]⟩) := q3.cell 1 _ rfl
  have z2 : w2.cell? ⟨w.heap.size + 1, 2, none⟩ = some (.int .i64 (along start pre).b) := q3.cell 2 _ rfl
  have z3 : w2.cell? ⟨w.heap.size + 1, 3, none⟩ = some (.int .i64 (along start pre).g) := q3.cell 3 _ rfl
  have z4 : w2.cell? ⟨w.heap.size + 1, 4, none⟩ = some (.int .i64 (along start pre).l) := q3.cell 4 _ rfl
  have z5 : w2.cell? ⟨w.heap.size + 1, 5, none⟩ = some (.int .i64 (along start pre).c) := q3.cell 5 _ rfl
  go_wp2_with fail
  obtain ⟨e1, e2, e3⟩ := F2.exit _ rfl
  refine bodyPost_ret (results_c rfl _ _ _ _ rfl (load_tok e1 rfl)) rfl ?_
  exact ⟨rfl, e3 _ hs2, e2⟩
end Go.Proofs.YtlklijpjacmgpaaGreatDoor

namespace Go.Proofs.YtlklijpjacmgpaaGreatDoor
open Go.RowKit
set_option linter.unusedVariables false
set_option linter.unusedSimpArgs false

theorem takeWhile_of {p : Nat → Bool} {cs mid rest : List Nat} (h : cs = mid ++ rest) (h1 : ∀ c ∈ mid, p c = true) (h2 : ∀ c r, rest = c :: r → p c = false) : cs.takeWhile p = mid ∧ cs.drop mid.length = rest ∧ cs.take mid.length = mid := by
  subst h
  refine ⟨?_, by simp, by simp⟩
  induction mid with
  | nil =>
    cases rest with
    | nil => rfl
    | cons c r => simp [List.takeWhile, h2 c r rfl]
  | cons x mid ih =>
    rw [List.cons_append, List.takeWhile_cons_of_pos (h1 x (by simp)), ih (fun c hc => h1 c (by simp [hc]))]
theorem nameQ_part (c : Nat) : nameQ (cls c) = part c := by
  unfold nameQ part
  by_cases h2 : cls c = 2
  · simp [h2]
  · by_cases h3 : cls c = 3
    · simp [h3]
    · by_cases h4 : cls c = 4
      · simp [h4]
      · have e2 : (cls c == 2) = false := by simpa using h2
        have e3 : (cls c == 3) = false := by simpa using h3
        have e4 : (cls c == 4) = false := by simpa using h4
        simp [h2, h3, h4, e2, e3, e4]
theorem digQ_digit (c : Nat) : digQ (cls c) = digit c := by
  unfold digQ digit
  by_cases h3 : cls c = 3 <;> simp [h3]
set_option maxRecDepth 100000 in
set_option maxHeartbeats 4000000 in
theorem ptoken_name {S : ByteArray} {pre r : List Nat} {c : Nat} {t : List UInt8} (T : Txt S.data.toList (pre ++ c :: r) t) (hS : S.size ≤ 4096) {w : World} {b : Nat} (hb : Sc w b (c :: r) t (along start pre) 0 zeroPl) (hT : Tb w) (hc : cls c = 2) :
    Calls Tryz.prog 104 #[ptrV b] w (PTok w b pre (c :: r) t) := by
  have hc2 : (cls c == 2) = true := by simpa using hc
  have HC := Lib.hid hc
  clear hc
  have hT0 := hT
  have F0 := PtF.init hb hT
  have hs0 : Sc ((w.alloc (tokO 0 ⟨#[]⟩ zeroPl)).alloc (tokO 0 ⟨#[]⟩ (along start pre))) b (c :: r) t (along start pre) 0 zeroPl := (Blk.alloc hb _).alloc _
  have h1 : w.cell? ⟨b, 1, none⟩ = some (.int .i64 (along start pre).b) := hb.blk.cell 1 _ rfl
  have h2 : w.cell? ⟨b, 2, none⟩ = some (.int .i64 (along start pre).g) := hb.blk.cell 2 _ rfl
  have h3 : w.cell? ⟨b, 3, none⟩ = some (.int .i64 (along start pre).l) := hb.blk.cell 3 _ rfl
  have h4 : w.cell? ⟨b, 4, none⟩ = some (.int .i64 (along start pre).c) := hb.blk.cell 4 _ rfl
  have hlt := hb.blk.lt
  simp only [tokO, zeroPl] at F0 hs0
  go_enter Tryz.func104, Tryz.ntmps104
  go_upto_region 2 with (fail)
  generalize hW1 : World.alloc (World.alloc w _) _ = w1 at F0 hs0 ⊢
  clear hW1 h1 h2 h3 h4
  go_wp2_with fail
  refine (class_some (T.ok c (by simp)) hs0 F0.tb).mono ?_
  rintro e w2 ⟨rfl, hf2⟩
  have hs2 := hs0.no hf2
  have F2 := F0.no hf2
  clear hs0 F0 hf2
  have z0 : w2.cell? ⟨w.heap.size + 1, 0, none⟩ = some (.int .i64 0) := F2.t3.cell 0 _ rfl
  have fz0 := F2.t3.free 0
  have z1 : w2.cell? ⟨w.heap.size + 1, 1, none⟩ = some (.string ⟨#[]⟩) := F2.t3.cell 1 _ rfl
  have fz1 := F2.t3.free 1
  have z2 : w2.cell? ⟨w.heap.size + 1, 2, none⟩ = some (.int .i64 (along start pre).b) := F2.t3.cell 2 _ rfl
  have fz2 := F2.t3.free 2
  have z3 : w2.cell? ⟨w.heap.size + 1, 3, none⟩ = some (.int .i64 (along start pre).g) := F2.t3.cell 3 _ rfl
  have fz3 := F2.t3.free 3
  have z4 : w2.cell? ⟨w.heap.size + 1, 4, none⟩ = some (.int .i64 (along start pre).l) := F2.t3.cell 4 _ rfl
  have fz4 := F2.t3.free 4
  have z5 : w2.cell? ⟨w.heap.size + 1, 5, none⟩ = some (.int .i64 (along start pre).c) := F2.t3.cell 5 _ rfl
  have fz5 := F2.t3.free 5
  go_upto_region 6 with (fail)
  have F3 := F2.setK hT0 1
  have hs3 : Sc _ b (c :: r) t (along start pre) 0 zeroPl := F2.blk hs2 (j := 0) (.int .i64 1)
  generalize w2.setCell ⟨w.heap.size + 1, 0, none⟩ (.int .i64 1) = w3 at F3 hs3 ⊢
  clear F2 hs2 z0 z1 z2 z3 z4 z5 fz0 fz1 fz2 fz3 fz4 fz5
  go_wp2_with fail
  refine (while_name T hS hs3 F3.tb).mono ?_
  rintro e w4 ⟨mid, rest, hmr, hm1, hm2, rfl, hs4, hf4⟩
  have F4 := F3.call hf4
  clear F3 hs3 hf4
  obtain ⟨k1, k2, k3⟩ := takeWhile_of (p := part) hmr (fun x hx => by rw [← nameQ_part]; exact hm1 x hx) (fun x y hx => by rw [← nameQ_part]; exact hm2 x y hx)
  have hok : ∀ x ∈ mid, okc x = true := fun x hx => T.ok x (by rw [hmr]; simp [hx])
  have hrc : Lib.runeCount (⟨(mid.flatMap enc).toArray⟩ : ByteArray) = mid.length := runeCount_of _ mid hok rfl
  have hms : (⟨(mid.flatMap enc).toArray⟩ : ByteArray).size < 9223372036854775807 := by
    have h1 := tx_size T hS
    rw [hmr, Lib.size_eq, tx_list] at h1
    rw [Lib.size_eq]
    simp only [List.flatMap_append, List.length_append] at h1
    show (mid.flatMap enc).length < _
    omega
  have hrcc := fun w => Tryz.utf8_RuneCountInString (⟨(mid.flatMap enc).toArray⟩ : ByteArray) w hms
  rw [hrc] at hrcc
  have htk : tk (c :: r) = if 16 < mid.length then .bad 42 else .ok 1 (mid.flatMap enc) mid.length := by
    simp only [tk]
    rw [if_pos HC.out, k1]
  have HK := Lib.hid (And.intro k2 (And.intro k3 htk))
  clear hmr hm1 hm2 k1 k2 k3 hrc hok htk
  obtain ⟨s, hse⟩ : ∃ s : ByteArray, s = ⟨(mid.flatMap enc).toArray⟩ := ⟨_, rfl⟩
  rw [← hse] at hrcc ⊢
  have HSE := Lib.hid hse
  clear hse
  have z0 : w4.cell? ⟨w.heap.size + 1, 0, none⟩ = some (.int .i64 1) := F4.t3.cell 0 _ rfl
  have fz0 := F4.t3.free 0
  have z1 : w4.cell? ⟨w.heap.size + 1, 1, none⟩ = some (.string ⟨#[]⟩) := F4.t3.cell 1 _ rfl
  have fz1 := F4.t3.free 1
  have z2 : w4.cell? ⟨w.heap.size + 1, 2, none⟩ = some (.int .i64 (along start pre).b) := F4.t3.cell 2 _ rfl
  have fz2 := F4.t3.free 2
  have z3 : w4.cell? ⟨w.heap.size + 1, 3, none⟩ = some (.int .i64 (along start pre).g) := F4.t3.cell 3 _ rfl
  have fz3 := F4.t3.free 3
  have z4 : w4.cell? ⟨w.heap.size + 1, 4, none⟩ = some (.int .i64 (along start pre).l) := F4.t3.cell 4 _ rfl
  have fz4 := F4.t3.free 4
  have z5 : w4.cell? ⟨w.heap.size + 1, 5, none⟩ = some (.int .i64 (along start pre).c) := F4.t3.cell 5 _ rfl
  have fz5 := F4.t3.free 5
  go_upto_region 7 with (fail)
  have F5 := F4.setS hT0 s
  have hs5 : Sc _ b rest t (along start (pre ++ mid)) _ _ := F4.blk hs4 (j := 1) (.string s)
  generalize w4.setCell ⟨w.heap.size + 1, 1, none⟩ (.string s) = w5 at F5 hs5 ⊢
  clear F4 hs4 z0 z1 z2 z3 z4 z5 fz0 fz1 fz2 fz3 fz4 fz5
  have z1 : w5.cell? ⟨w.heap.size + 1, 1, none⟩ = some (.string s) := F5.t3.cell 1 _ rfl
  go_wp2_with fail
  refine (hrcc _).mono ?_
  rintro e w6 ⟨rfl, pos, rfl⟩
  have F6 := F5.no ((Fr.refl No w5).alloc (.stringIter s pos))
  have hs6 : Sc _ b rest t (along start (pre ++ mid)) _ _ := Blk.alloc hs5 (.stringIter s pos)
  change PtF w (w5.iter s pos) b _ _ _ at F6
  change Sc (w5.iter s pos) b _ _ _ _ _ at hs6
  generalize w5.iter s pos = w6 at F6 hs6 ⊢
  clear F5 hs5 z1 hrcc
  by_cases hlen : 16 < mid.length
  · have hd : decide (((16 : Int) < (mid.length : Int))) = true := by simp; omega
    have HL := Lib.hid hlen
    clear hlen
    have z0 : w6.cell? ⟨w.heap.size + 1, 0, none⟩ = some (.int .i64 1) := F6.t3.cell 0 _ rfl
    have fz0 := F6.t3.free 0
    have z1 : w6.cell? ⟨w.heap.size + 1, 1, none⟩ = some (.string s) := F6.t3.cell 1 _ rfl
    have fz1 := F6.t3.free 1
    have z2 : w6.cell? ⟨w.heap.size + 1, 2, none⟩ = some (.int .i64 (along start pre).b) := F6.t3.cell 2 _ rfl
    have fz2 := F6.t3.free 2
    have z3 : w6.cell? ⟨w.heap.size + 1, 3, none⟩ = some (.int .i64 (along start pre).g) := F6.t3.cell 3 _ rfl
    have fz3 := F6.t3.free 3
    have z4 : w6.cell? ⟨w.heap.size + 1, 4, none⟩ = some (.int .i64 (along start pre).l) := F6.t3.cell 4 _ rfl
    have fz4 := F6.t3.free 4
    have z5 : w6.cell? ⟨w.heap.size + 1, 5, none⟩ = some (.int .i64 (along start pre).c) := F6.t3.cell 5 _ rfl
    have fz5 := F6.t3.free 5
    go_wp2_with fail
    refine (early_calls b _ _ _ _ w6 hs6 42 (along start pre)).mono ?_
    rintro e w7 ⟨rfl, hb7, hf7⟩
    have F7 := F6.call hf7
    clear F6 hs6 z0 z1 z2 z3 z4 z5 fz0 fz1 fz2 fz3 fz4 fz5
    go_upto_region 20 with (fail)
    have q2 := F7.t2
    have q3 := F7.t3
    have y0 : w7.cell? ⟨w.heap.size, 0, none⟩ = some (.int .i64 0) := q2.cell 0 _ rfl
    have fy0 := q2.free 0
    have y1 : w7.cell? ⟨w.heap.size, 1, none⟩ = some (.string ⟨#[]⟩) := q2.cell 1 _ rfl
    have fy1 := q2.free 1
    have y2 : w7.cell? ⟨w.heap.size, 2, none⟩ = some (.int .i64 0) := q2.cell 2 _ rfl
    have fy2 := q2.free 2
    have y3 : w7.cell? ⟨w.heap.size, 3, none⟩ = some (.int .i64 0) := q2.cell 3 _ rfl
    have fy3 := q2.free 3
    have y4 : w7.cell? ⟨w.heap.size, 4, none⟩ = some (.int .i64 0) := q2.cell 4 _ rfl
    have fy4 := q2.free 4
    have y5 : w7.cell? ⟨w.heap.size, 5, none⟩ = some (.int .i64 0) := q2.cell 5 _ rfl
    have fy5 := q2.free 5
    have z0 : w7.cell? ⟨w.heap.size + 1, 0, none⟩ = some (.int .i64 1) := q3.cell 0 _ rfl
    have z1 : w7.cell? ⟨w.heap.size + 1, 1, none⟩ = some (.string s) := q3.cell 1 _ rfl
    have z2 : w7.cell? ⟨w.heap.size + 1, 2, none⟩ = some (.int .i64 (along start pre).b) := q3.cell 2 _ rfl
    have z3 : w7.cell? ⟨w.heap.size + 1, 3, none⟩ = some (.int .i64 (along start pre).g) := q3.cell 3 _ rfl
    have z4 : w7.cell? ⟨w.heap.size + 1, 4, none⟩ = some (.int .i64 (along start pre).l) := q3.cell 4 _ rfl
    have z5 : w7.cell? ⟨w.heap.size + 1, 5, none⟩ = some (.int .i64 (along start pre).c) := q3.cell 5 _ rfl
    go_wp2_with fail
    obtain ⟨e1, e2, e3⟩ := F7.exit _ rfl
    refine bodyPost_ret (results_c rfl _ _ _ _ rfl (load_tok e1 rfl)) rfl ?_
    unfold PTok
    simp only
    rw [HK.out.2.2, if_pos HL.out]
    exact ⟨_, _, _, _, rfl, e3 _ hb7, e2⟩
  · have hd : decide (((16 : Int) < (mid.length : Int))) = false := by simp; omega
    have HL := Lib.hid hlen
    clear hlen
    go_upto_region 20 with (fail)
    have q2 := F6.t2
    have q3 := F6.t3
    have y0 : w6.cell? ⟨w.heap.size, 0, none⟩ = some (.int .i64 0) := q2.cell 0 _ rfl
    have fy0 := q2.free 0
    have y1 : w6.cell? ⟨w.heap.size, 1, none⟩ = some (.string ⟨#[]⟩) := q2.cell 1 _ rfl
    have fy1 := q2.free 1
    have y2 : w6.cell? ⟨w.heap.size, 2, none⟩ = some (.int .i64 0) := q2.cell 2 _ rfl
    have fy2 := q2.free 2
    have y3 : w6.cell? ⟨w.heap.size, 3, none⟩ = some (.int .i64 0) := q2.cell 3 _ rfl
    have fy3 := q2.free 3
    have y4 : w6.cell? ⟨w.heap.size, 4, none⟩ = some (.int .i64 0) := q2.cell 4 _ rfl
    have fy4 := q2.free 4
    have y5 : w6.cell? ⟨w.heap.size, 5, none⟩ = some (.int .i64 0) := q2.cell 5 _ rfl
    have fy5 := q2.free 5
    have z0 : w6.cell? ⟨w.heap.size + 1, 0, none⟩ = some (.int .i64 1) := q3.cell 0 _ rfl
    have z1 : w6.cell? ⟨w.heap.size + 1, 1, none⟩ = some (.string s) := q3.cell 1 _ rfl
    have z2 : w6.cell? ⟨w.heap.size + 1, 2, none⟩ = some (.int .i64 (along start pre).b) := q3.cell 2 _ rfl
    have z3 : w6.cell? ⟨w.heap.size + 1, 3, none⟩ = some (.int .i64 (along start pre).g) := q3.cell 3 _ rfl
    have z4 : w6.cell? ⟨w.heap.size + 1, 4, none⟩ = some (.int .i64 (along start pre).l) := q3.cell 4 _ rfl
    have z5 : w6.cell? ⟨w.heap.size + 1, 5, none⟩ = some (.int .i64 (along start pre).c) := q3.cell 5 _ rfl
    go_wp2_with fail
    obtain ⟨e1, e2, e3⟩ := F6.exit _ rfl
    refine bodyPost_ret (results_c rfl _ _ _ _ rfl (load_tok e1 rfl)) rfl ?_
    unfold PTok
    simp only
    obtain ⟨k2, k3, htk⟩ := HK.out
    rw [htk, if_neg HL.out]
    simp only
    rw [k2, k3]
    refine ⟨_, _, by rw [HSE.out]; rfl, e3 _ hs6, e2, ?_⟩
    cases rest with
    | nil => exact Or.inr ⟨rfl, rfl⟩
    | cons x y => exact Or.inl ⟨rfl, rfl⟩
end Go.Proofs.YtlklijpjacmgpaaGreatDoor

namespace Go.Proofs.YtlklijpjacmgpaaGreatDoor
open Go.RowKit
set_option linter.unusedVariables false
set_option linter.unusedSimpArgs false

theorem enc_ascii {c : Nat} (h : c < 128) : enc c = [UInt8.ofNat c] := by unfold enc; rw [if_pos (by omega)]
theorem flat_ascii {cs : List Nat} (h : ∀ c ∈ cs, c < 128) : cs.flatMap enc = cs.map UInt8.ofNat := by
  induction cs with
  | nil => rfl
  | cons c cs ih => rw [List.flatMap_cons, enc_ascii (h c (by simp)), ih (fun x hx => h x (by simp [hx]))]; rfl
theorem cls3 {c : Nat} (h : cls c = 3) : 48 ≤ c ∧ c ≤ 57 := by
  have h2 : isDigit c = true := by
    unfold cls at h
    repeat' split at h
    all_goals first
      | assumption
      | (exfalso; omega)
  simp only [isDigit, decide_eq_true_eq] at h2
  omega
set_option maxRecDepth 100000 in
set_option maxHeartbeats 4000000 in
theorem ptoken_num {S : ByteArray} {pre r : List Nat} {c : Nat} {t : List UInt8} (T : Txt S.data.toList (pre ++ c :: r) t) (hS : S.size ≤ 4096) {w : World} {b : Nat} (hb : Sc w b (c :: r) t (along start pre) 0 zeroPl) (hT : Tb w) (hc : cls c = 3) :
    Calls Tryz.prog 104 #[ptrV b] w (PTok w b pre (c :: r) t) := by
  have hc2 : (cls c == 2) = false := by rw [hc]; rfl
  have hc3 : (cls c == 3) = true := by rw [hc]; rfl
  have HC := Lib.hid hc
  clear hc
  have hT0 := hT
  have F0 := PtF.init hb hT
  have hs0 : Sc ((w.alloc (tokO 0 ⟨#[]⟩ zeroPl)).alloc (tokO 0 ⟨#[]⟩ (along start pre))) b (c :: r) t (along start pre) 0 zeroPl := (Blk.alloc hb _).alloc _
  have h1 : w.cell? ⟨b, 1, none⟩ = some (.int .i64 (along start pre).b) := hb.blk.cell 1 _ rfl
  have h2 : w.cell? ⟨b, 2, none⟩ = some (.int .i64 (along start pre).g) := hb.blk.cell 2 _ rfl
  have h3 : w.cell? ⟨b, 3, none⟩ = some (.int .i64 (along start pre).l) := hb.blk.cell 3 _ rfl
  have h4 : w.cell? ⟨b, 4, none⟩ = some (.int .i64 (along start pre).c) := hb.blk.cell 4 _ rfl
  have hlt := hb.blk.lt
  simp only [tokO, zeroPl] at F0 hs0
  go_enter Tryz.func104, Tryz.ntmps104
  go_upto_region 2 with (fail)
  generalize hW1 : World.alloc (World.alloc w _) _ = w1 at F0 hs0 ⊢
  clear hW1 h1 h2 h3 h4
  go_wp2_with fail
  refine (class_some (T.ok c (by simp)) hs0 F0.tb).mono ?_
  rintro e w2 ⟨rfl, hf2⟩
  have hs2 := hs0.no hf2
  have F2 := F0.no hf2
  clear hs0 F0 hf2
  have z0 : w2.cell? ⟨w.heap.size + 1, 0, none⟩ = some (.int .i64 0) := F2.t3.cell 0 _ rfl
  have fz0 := F2.t3.free 0
  have z1 : w2.cell? ⟨w.heap.size + 1, 1, none⟩ = some (.string ⟨#[]⟩) := F2.t3.cell 1 _ rfl
  have fz1 := F2.t3.free 1
  have z2 : w2.cell? ⟨w.heap.size + 1, 2, none⟩ = some (.int .i64 (along start pre).b) := F2.t3.cell 2 _ rfl
  have fz2 := F2.t3.free 2
  have z3 : w2.cell? ⟨w.heap.size + 1, 3, none⟩ = some (.int .i64 (along start pre).g) := F2.t3.cell 3 _ rfl
  have fz3 := F2.t3.free 3
  have z4 : w2.cell? ⟨w.heap.size + 1, 4, none⟩ = some (.int .i64 (along start pre).l) := F2.t3.cell 4 _ rfl
  have fz4 := F2.t3.free 4
  have z5 : w2.cell? ⟨w.heap.size + 1, 5, none⟩ = some (.int .i64 (along start pre).c) := F2.t3.cell 5 _ rfl
  have fz5 := F2.t3.free 5
  go_upto_region 11 with (fail)
  have F3 := F2.setK hT0 2
  have hs3 : Sc _ b (c :: r) t (along start pre) 0 zeroPl := F2.blk hs2 (j := 0) (.int .i64 2)
  generalize w2.setCell ⟨w.heap.size + 1, 0, none⟩ (.int .i64 2) = w3 at F3 hs3 ⊢
  clear F2 hs2 z0 z1 z2 z3 z4 z5 fz0 fz1 fz2 fz3 fz4 fz5
  go_wp2_with fail
  refine (while_digit T hS hs3 F3.tb).mono ?_
  rintro e w4 ⟨mid, rest, hmr, hm1, hm2, rfl, hs4, hf4⟩
  have F4 := F3.call hf4
  clear F3 hs3 hf4
  obtain ⟨k1, k2, k3⟩ := takeWhile_of (p := digit) hmr (fun x hx => by rw [← digQ_digit]; exact hm1 x hx) (fun x y hx => by rw [← digQ_digit]; exact hm2 x y hx)
  have hdg : ∀ d ∈ mid, 48 ≤ d ∧ d ≤ 57 := fun d hd => cls3 (by have := hm1 d hd; simpa [digQ] using this)
  have hfl : mid.flatMap enc = mid.map UInt8.ofNat := flat_ascii (fun x hx => by have := hdg x hx; omega)
  have hm0 : mid ≠ [] := by
    rintro rfl
    have h1 : digQ (cls c) = false := hm2 c r hmr.symm
    rw [HC.out] at h1
    cases h1
  have hml : mid.length ≤ 4096 := by
    have h1 := T.len_le
    rw [← Lib.size_eq] at h1
    have h2 := congrArg List.length hmr
    simp only [List.length_append] at h1 h2
    omega
  have htk : tk (c :: r) = if 2 ^ 1024 ≤ digVal mid then .bad 2 else .ok 2 (decText (digVal mid)) mid.length := by
    simp only [tk]
    rw [if_neg (by rw [HC.out]; decide), if_pos HC.out, k1]
  have HK := Lib.hid (And.intro k2 (And.intro k3 htk))
  have hP := fun w => Parse_calls (⟨(mid.flatMap enc).toArray⟩ : ByteArray) mid hfl hdg hm0 hml w
  have HM := Lib.hid hdg
  clear hmr hm1 hm2 k1 k2 k3 hdg hfl hm0 htk
  obtain ⟨s, hse⟩ : ∃ s : ByteArray, s = ⟨(mid.flatMap enc).toArray⟩ := ⟨_, rfl⟩
  rw [← hse] at hP ⊢
  clear hse
  obtain ⟨n, hn⟩ : ∃ n, digVal mid = n := ⟨_, rfl⟩
  rw [hn] at hP
  have HN := Lib.hid hn
  clear hn
  go_wp2_with fail
  refine (hP _).mono ?_
  rintro e w5 ⟨a5, c5, rfl, ho5, hf5⟩
  have F5 := F4.no hf5
  have hs5 := hs4.no hf5
  have hlt5 := ho5.lt
  clear F4 hs4 hP
  have hdl : (dig L32 n).length ≤ 4096 := by
    have h1 := dig_len_mono (b := 10) (b' := L32) (n := n) (by omega) (by unfold L32; omega)
    have h2 : (dig 10 n).length ≤ mid.length := by
      refine (dig_len_le (by omega)).2 ?_
      rw [← HN.out, digVal_val]
      refine Nat.lt_of_lt_of_le (valB_lt (b := 10) (by omega) (fun x hx => ?_)) (Nat.le_of_eq (by simp))
      obtain ⟨d, hd, rfl⟩ := List.mem_map.1 hx
      have hd2 := HM.out d (List.mem_reverse.1 hd)
      omega
    omega
  go_wp2_with fail
  have hTx := Text_calls _ a5 c5 (dig L32 n) w5 (by omega) (dig_lt (by unfold L32; omega) n) ho5
  rw [valB_dig (by unfold L32; omega)] at hTx
  refine hTx.mono ?_
  rintro e w6 ⟨rfl, hf6⟩
  have F6 := F5.no hf6
  have hs6 := hs5.no hf6
  clear F5 hs5 hTx
  obtain ⟨x, hx⟩ : ∃ x : ByteArray, x = ⟨(decText n).toArray⟩ := ⟨_, rfl⟩
  rw [← hx]
  have HX := Lib.hid hx
  clear hx
  have z0 : w6.cell? ⟨w.heap.size + 1, 0, none⟩ = some (.int .i64 2) := F6.t3.cell 0 _ rfl
  have fz0 := F6.t3.free 0
  have z1 : w6.cell? ⟨w.heap.size + 1, 1, none⟩ = some (.string ⟨#[]⟩) := F6.t3.cell 1 _ rfl
  have fz1 := F6.t3.free 1
  have z2 : w6.cell? ⟨w.heap.size + 1, 2, none⟩ = some (.int .i64 (along start pre).b) := F6.t3.cell 2 _ rfl
  have fz2 := F6.t3.free 2
  have z3 : w6.cell? ⟨w.heap.size + 1, 3, none⟩ = some (.int .i64 (along start pre).g) := F6.t3.cell 3 _ rfl
  have fz3 := F6.t3.free 3
  have z4 : w6.cell? ⟨w.heap.size + 1, 4, none⟩ = some (.int .i64 (along start pre).l) := F6.t3.cell 4 _ rfl
  have fz4 := F6.t3.free 4
  have z5 : w6.cell? ⟨w.heap.size + 1, 5, none⟩ = some (.int .i64 (along start pre).c) := F6.t3.cell 5 _ rfl
  have fz5 := F6.t3.free 5
  go_upto_region 14 with (fail)
  have F7 := F6.setS hT0 x
  have hs7 : Sc _ b rest t (along start (pre ++ mid)) _ _ := F6.blk hs6 (j := 1) (.string x)
  generalize w6.setCell ⟨w.heap.size + 1, 1, none⟩ (.string x) = w7 at F7 hs7 ⊢
  clear F6 hs6 z0 z1 z2 z3 z4 z5 fz0 fz1 fz2 fz3 fz4 fz5
  by_cases hlen : 32 < (dig L32 n).length
  · have hd : decide (((32 : Int) < ((dig L32 n).length : Int))) = true := by simp; omega
    have hbig : 2 ^ 1024 ≤ n := by have := (big_iff n).2 hlen; unfold big at this; exact of_decide_eq_true this
    have HL := Lib.hid hbig
    clear hlen hbig
    have z0 : w7.cell? ⟨w.heap.size + 1, 0, none⟩ = some (.int .i64 2) := F7.t3.cell 0 _ rfl
    have fz0 := F7.t3.free 0
    have z1 : w7.cell? ⟨w.heap.size + 1, 1, none⟩ = some (.string x) := F7.t3.cell 1 _ rfl
    have fz1 := F7.t3.free 1
    have z2 : w7.cell? ⟨w.heap.size + 1, 2, none⟩ = some (.int .i64 (along start pre).b) := F7.t3.cell 2 _ rfl
    have fz2 := F7.t3.free 2
    have z3 : w7.cell? ⟨w.heap.size + 1, 3, none⟩ = some (.int .i64 (along start pre).g) := F7.t3.cell 3 _ rfl
    have fz3 := F7.t3.free 3
    have z4 : w7.cell? ⟨w.heap.size + 1, 4, none⟩ = some (.int .i64 (along start pre).l) := F7.t3.cell 4 _ rfl
    have fz4 := F7.t3.free 4
    have z5 : w7.cell? ⟨w.heap.size + 1, 5, none⟩ = some (.int .i64 (along start pre).c) := F7.t3.cell 5 _ rfl
    have fz5 := F7.t3.free 5
    go_wp2_with fail
    refine (early_calls b _ _ _ _ w7 hs7 2 (along start pre)).mono ?_
    rintro e w8 ⟨rfl, hb8, hf8⟩
    have F8 := F7.call hf8
    clear F7 hs7 z0 z1 z2 z3 z4 z5 fz0 fz1 fz2 fz3 fz4 fz5
    go_upto_region 20 with (fail)
    have q2 := F8.t2
    have q3 := F8.t3
    have y0 : w8.cell? ⟨w.heap.size, 0, none⟩ = some (.int .i64 0) := q2.cell 0 _ rfl
    have fy0 := q2.free 0
    have y1 : w8.cell? ⟨w.heap.size, 1, none⟩ = some (.string ⟨#[]⟩) := q2.cell 1 _ rfl
    have fy1 := q2.free 1
    have y2 : w8.cell? ⟨w.heap.size, 2, none⟩ = some (.int .i64 0) := q2.cell 2 _ rfl
    have fy2 := q2.free 2
    have y3 : w8.cell? ⟨w.heap.size, 3, none⟩ = some (.int .i64 0) := q2.cell 3 _ rfl
    have fy3 := q2.free 3
    have y4 : w8.cell? ⟨w.heap.size, 4, none⟩ = some (.int .i64 0) := q2.cell 4 _ rfl
    have fy4 := q2.free 4
    have y5 : w8.cell? ⟨w.heap.size, 5, none⟩ = some (.int .i64 0) := q2.cell 5 _ rfl
    have fy5 := q2.free 5
    have z0 : w8.cell? ⟨w.heap.size + 1, 0, none⟩ = some (.int .i64 2) := q3.cell 0 _ rfl
    have z1 : w8.cell? ⟨w.heap.size + 1, 1, none⟩ = some (.string x) := q3.cell 1 _ rfl
    have z2 : w8.cell? ⟨w.heap.size + 1, 2, none⟩ = some (.int .i64 (along start pre).b) := q3.cell 2 _ rfl
    have z3 : w8.cell? ⟨w.heap.size + 1, 3, none⟩ = some (.int .i64 (along start pre).g) := q3.cell 3 _ rfl
    have z4 : w8.cell? ⟨w.heap.size + 1, 4, none⟩ = some (.int .i64 (along start pre).l) := q3.cell 4 _ rfl
    have z5 : w8.cell? ⟨w.heap.size + 1, 5, none⟩ = some (.int .i64 (along start pre).c) := q3.cell 5 _ rfl
    go_wp2_with fail
    obtain ⟨e1, e2, e3⟩ := F8.exit _ rfl
    refine bodyPost_ret (results_c rfl _ _ _ _ rfl (load_tok e1 rfl)) rfl ?_
    unfold PTok
    simp only
    rw [HK.out.2.2, HN.out, if_pos HL.out]
    exact ⟨_, _, _, _, rfl, e3 _ hb8, e2⟩
  · have hd : decide (((32 : Int) < ((dig L32 n).length : Int))) = false := by simp; omega
    have hbig : ¬ 2 ^ 1024 ≤ n := fun h => hlen ((big_iff n).1 (by unfold big; exact decide_eq_true h))
    have HL := Lib.hid hbig
    clear hlen hbig
    go_upto_region 20 with (fail)
    have q2 := F7.t2
    have q3 := F7.t3
    have y0 : w7.cell? ⟨w.heap.size, 0, none⟩ = some (.int .i64 0) := q2.cell 0 _ rfl
    have fy0 := q2.free 0
    have y1 : w7.cell? ⟨w.heap.size, 1, none⟩ = some (.string ⟨#[]⟩) := q2.cell 1 _ rfl
    have fy1 := q2.free 1
    have y2 : w7.cell? ⟨w.heap.size, 2, none⟩ = some (.int .i64 0) := q2.cell 2 _ rfl
    have fy2 := q2.free 2
    have y3 : w7.cell? ⟨w.heap.size, 3, none⟩ = some (.int .i64 0) := q2.cell 3 _ rfl
    have fy3 := q2.free 3
    have y4 : w7.cell? ⟨w.heap.size, 4, none⟩ = some (.int .i64 0) := q2.cell 4 _ rfl
    have fy4 := q2.free 4
    have y5 : w7.cell? ⟨w.heap.size, 5, none⟩ = some (.int .i64 0) := q2.cell 5 _ rfl
    have fy5 := q2.free 5
    have z0 : w7.cell? ⟨w.heap.size + 1, 0, none⟩ = some (.int .i64 2) := q3.cell 0 _ rfl
    have z1 : w7.cell? ⟨w.heap.size + 1, 1, none⟩ = some (.string x) := q3.cell 1 _ rfl
    have z2 : w7.cell? ⟨w.heap.size + 1, 2, none⟩ = some (.int .i64 (along start pre).b) := q3.cell 2 _ rfl
    have z3 : w7.cell? ⟨w.heap.size + 1, 3, none⟩ = some (.int .i64 (along start pre).g) := q3.cell 3 _ rfl
    have z4 : w7.cell? ⟨w.heap.size + 1, 4, none⟩ = some (.int .i64 (along start pre).l) := q3.cell 4 _ rfl
    have z5 : w7.cell? ⟨w.heap.size + 1, 5, none⟩ = some (.int .i64 (along start pre).c) := q3.cell 5 _ rfl
    go_wp2_with fail
    obtain ⟨e1, e2, e3⟩ := F7.exit _ rfl
    refine bodyPost_ret (results_c rfl _ _ _ _ rfl (load_tok e1 rfl)) rfl ?_
    unfold PTok
    simp only
    obtain ⟨k2, k3, htk⟩ := HK.out
    rw [htk, HN.out, if_neg HL.out]
    simp only
    rw [k2, k3]
    refine ⟨_, _, by rw [HX.out]; rfl, e3 _ hs7, e2, ?_⟩
    cases rest with
    | nil => exact Or.inr ⟨rfl, rfl⟩
    | cons x y => exact Or.inl ⟨rfl, rfl⟩
end Go.Proofs.YtlklijpjacmgpaaGreatDoor

namespace Go.Proofs.YtlklijpjacmgpaaGreatDoor
open Go.RowKit
set_option linter.unusedVariables false
set_option linter.unusedSimpArgs false

theorem tk_sign_ok {c : Nat} {r : List Nat} (h : cls c = 5) {k : Int} {x : List UInt8} {m : Nat} (htk : tk (c :: r) = .ok k x m) : k = 3 := by
  simp only [tk] at htk
  rw [if_neg (by rw [h]; decide), if_neg (by rw [h]; decide), if_pos h] at htk
  repeat' split at htk
  all_goals first
    | (cases htk; rfl)
    | cases htk
set_option maxRecDepth 100000 in
set_option maxHeartbeats 4000000 in
theorem ptoken_sign {S : ByteArray} {pre r : List Nat} {c : Nat} {t : List UInt8} (T : Txt S.data.toList (pre ++ c :: r) t) (hS : S.size ≤ 4096) {w : World} {b : Nat} (hb : Sc w b (c :: r) t (along start pre) 0 zeroPl) (hT : Tb w) (hc : cls c = 5) :
    Calls Tryz.prog 104 #[ptrV b] w (PTok w b pre (c :: r) t) := by
  have hc2 : (cls c == 2) = false := by rw [hc]; rfl
  have hc3 : (cls c == 3) = false := by rw [hc]; rfl
  have hc5 : (cls c == 5) = true := by rw [hc]; rfl
  have HC := Lib.hid hc
  clear hc
  have hT0 := hT
  have F0 := PtF.init hb hT
  have hs0 : Sc ((w.alloc (tokO 0 ⟨#[]⟩ zeroPl)).alloc (tokO 0 ⟨#[]⟩ (along start pre))) b (c :: r) t (along start pre) 0 zeroPl := (Blk.alloc hb _).alloc _
  have h1 : w.cell? ⟨b, 1, none⟩ = some (.int .i64 (along start pre).b) := hb.blk.cell 1 _ rfl
  have h2 : w.cell? ⟨b, 2, none⟩ = some (.int .i64 (along start pre).g) := hb.blk.cell 2 _ rfl
  have h3 : w.cell? ⟨b, 3, none⟩ = some (.int .i64 (along start pre).l) := hb.blk.cell 3 _ rfl
  have h4 : w.cell? ⟨b, 4, none⟩ = some (.int .i64 (along start pre).c) := hb.blk.cell 4 _ rfl
  have hlt := hb.blk.lt
  simp only [tokO, zeroPl] at F0 hs0
  go_enter Tryz.func104, Tryz.ntmps104
  go_upto_region 2 with (fail)
  generalize hW1 : World.alloc (World.alloc w _) _ = w1 at F0 hs0 ⊢
  clear hW1 h1 h2 h3 h4
  go_wp2_with fail
  refine (class_some (T.ok c (by simp)) hs0 F0.tb).mono ?_
  rintro e w2 ⟨rfl, hf2⟩
  have hs2 := hs0.no hf2
  have F2 := F0.no hf2
  clear hs0 F0 hf2
  have z0 : w2.cell? ⟨w.heap.size + 1, 0, none⟩ = some (.int .i64 0) := F2.t3.cell 0 _ rfl
  have fz0 := F2.t3.free 0
  have z1 : w2.cell? ⟨w.heap.size + 1, 1, none⟩ = some (.string ⟨#[]⟩) := F2.t3.cell 1 _ rfl
  have fz1 := F2.t3.free 1
  have z2 : w2.cell? ⟨w.heap.size + 1, 2, none⟩ = some (.int .i64 (along start pre).b) := F2.t3.cell 2 _ rfl
  have fz2 := F2.t3.free 2
  have z3 : w2.cell? ⟨w.heap.size + 1, 3, none⟩ = some (.int .i64 (along start pre).g) := F2.t3.cell 3 _ rfl
  have fz3 := F2.t3.free 3
  have z4 : w2.cell? ⟨w.heap.size + 1, 4, none⟩ = some (.int .i64 (along start pre).l) := F2.t3.cell 4 _ rfl
  have fz4 := F2.t3.free 4
  have z5 : w2.cell? ⟨w.heap.size + 1, 5, none⟩ = some (.int .i64 (along start pre).c) := F2.t3.cell 5 _ rfl
  have fz5 := F2.t3.free 5
  go_upto_region 18 with (fail)
  have F3 := F2.setK hT0 3
  have hs3 : Sc _ b (c :: r) t (along start pre) 0 zeroPl := F2.blk hs2 (j := 0) (.int .i64 3)
  generalize w2.setCell ⟨w.heap.size + 1, 0, none⟩ (.int .i64 3) = w3 at F3 hs3 ⊢
  clear F2 hs2 z0 z1 z2 z3 z4 z5 fz0 fz1 fz2 fz3 fz4 fz5
  go_wp2_with fail
  refine (scsign_calls T hS hs3 F3.tb HC.out).mono ?_
  rintro e w4 hsg
  unfold SgOut at hsg
  cases htk : tk (c :: r) with
  | bad n =>
    rw [htk] at hsg
    obtain ⟨s, rest, q, rfl, hb4, hf4⟩ := hsg
    have F4 := F3.call hf4
    have HK := Lib.hid htk
    clear F3 hs3 hf4 htk
    have z0 : w4.cell? ⟨w.heap.size + 1, 0, none⟩ = some (.int .i64 3) := F4.t3.cell 0 _ rfl
    have fz0 := F4.t3.free 0
    have z1 : w4.cell? ⟨w.heap.size + 1, 1, none⟩ = some (.string ⟨#[]⟩) := F4.t3.cell 1 _ rfl
    have fz1 := F4.t3.free 1
    have z2 : w4.cell? ⟨w.heap.size + 1, 2, none⟩ = some (.int .i64 (along start pre).b) := F4.t3.cell 2 _ rfl
    have fz2 := F4.t3.free 2
    have z3 : w4.cell? ⟨w.heap.size + 1, 3, none⟩ = some (.int .i64 (along start pre).g) := F4.t3.cell 3 _ rfl
    have fz3 := F4.t3.free 3
    have z4 : w4.cell? ⟨w.heap.size + 1, 4, none⟩ = some (.int .i64 (along start pre).l) := F4.t3.cell 4 _ rfl
    have fz4 := F4.t3.free 4
    have z5 : w4.cell? ⟨w.heap.size + 1, 5, none⟩ = some (.int .i64 (along start pre).c) := F4.t3.cell 5 _ rfl
    have fz5 := F4.t3.free 5
    go_upto_region 20 with (fail)
    have F5 := F4.setS hT0 s
    have hb5 := F4.blk hb4 (j := 1) (.string s)
    generalize w4.setCell ⟨w.heap.size + 1, 1, none⟩ (.string s) = w5 at F5 hb5 ⊢
    clear F4 hb4 z0 z1 z2 z3 z4 z5 fz0 fz1 fz2 fz3 fz4 fz5
    have q2 := F5.t2
    have q3 := F5.t3
    have y0 : w5.cell? ⟨w.heap.size, 0, none⟩ = some (.int .i64 0) := q2.cell 0 _ rfl
    have fy0 := q2.free 0
    have y1 : w5.cell? ⟨w.heap.size, 1, none⟩ = some (.string ⟨#[]⟩) := q2.cell 1 _ rfl
    have fy1 := q2.free 1
    have y2 : w5.cell? ⟨w.heap.size, 2, none⟩ = some (.int .i64 0) := q2.cell 2 _ rfl
    have fy2 := q2.free 2
    have y3 : w5.cell? ⟨w.heap.size, 3, none⟩ = some (.int .i64 0) := q2.cell 3 _ rfl
    have fy3 := q2.free 3
    have y4 : w5.cell? ⟨w.heap.size, 4, none⟩ = some (.int .i64 0) := q2.cell 4 _ rfl
    have fy4 := q2.free 4
    have y5 : w5.cell? ⟨w.heap.size, 5, none⟩ = some (.int .i64 0) := q2.cell 5 _ rfl
    have fy5 := q2.free 5
    have z0 : w5.cell? ⟨w.heap.size + 1, 0, none⟩ = some (.int .i64 3) := q3.cell 0 _ rfl
    have z1 : w5.cell? ⟨w.heap.size + 1, 1, none⟩ = some (.string s) := q3.cell 1 _ rfl
    have z2 : w5.cell? ⟨w.heap.size + 1, 2, none⟩ = some (.int .i64 (along start pre).b) := q3.cell 2 _ rfl
    have z3 : w5.cell? ⟨w.heap.size + 1, 3, none⟩ = some (.int .i64 (along start pre).g) := q3.cell 3 _ rfl
    have z4 : w5.cell? ⟨w.heap.size + 1, 4, none⟩ = some (.int .i64 (along start pre).l) := q3.cell 4 _ rfl
    have z5 : w5.cell? ⟨w.heap.size + 1, 5, none⟩ = some (.int .i64 (along start pre).c) := q3.cell 5 _ rfl
    go_wp2_with fail
    obtain ⟨e1, e2, e3⟩ := F5.exit _ rfl
    refine bodyPost_ret (results_c rfl _ _ _ _ rfl (load_tok e1 rfl)) rfl ?_
    unfold PTok
    simp only
    rw [HK.out]
    exact ⟨_, _, _, _, rfl, e3 _ hb5, e2⟩
  | ok k x m =>
    rw [htk] at hsg
    obtain ⟨rfl, hs4, hf4⟩ := hsg
    have F4 := F3.call hf4
    have HK := Lib.hid htk
    clear F3 hs3 hf4 htk
    obtain ⟨s, hse⟩ : ∃ s : ByteArray, s = ⟨x.toArray⟩ := ⟨_, rfl⟩
    rw [← hse]
    have HSE := Lib.hid hse
    clear hse
    have z0 : w4.cell? ⟨w.heap.size + 1, 0, none⟩ = some (.int .i64 3) := F4.t3.cell 0 _ rfl
    have fz0 := F4.t3.free 0
    have z1 : w4.cell? ⟨w.heap.size + 1, 1, none⟩ = some (.string ⟨#[]⟩) := F4.t3.cell 1 _ rfl
    have fz1 := F4.t3.free 1
    have z2 : w4.cell? ⟨w.heap.size + 1, 2, none⟩ = some (.int .i64 (along start pre).b) := F4.t3.cell 2 _ rfl
    have fz2 := F4.t3.free 2
    have z3 : w4.cell? ⟨w.heap.size + 1, 3, none⟩ = some (.int .i64 (along start pre).g) := F4.t3.cell 3 _ rfl
    have fz3 := F4.t3.free 3
    have z4 : w4.cell? ⟨w.heap.size + 1, 4, none⟩ = some (.int .i64 (along start pre).l) := F4.t3.cell 4 _ rfl
    have fz4 := F4.t3.free 4
    have z5 : w4.cell? ⟨w.heap.size + 1, 5, none⟩ = some (.int .i64 (along start pre).c) := F4.t3.cell 5 _ rfl
    have fz5 := F4.t3.free 5
    go_upto_region 20 with (fail)
    have F5 := F4.setS hT0 s
    have hs5 : Sc _ b _ t _ _ _ := F4.blk hs4 (j := 1) (.string s)
    generalize w4.setCell ⟨w.heap.size + 1, 1, none⟩ (.string s) = w5 at F5 hs5 ⊢
    clear F4 hs4 z0 z1 z2 z3 z4 z5 fz0 fz1 fz2 fz3 fz4 fz5
    have q2 := F5.t2
    have q3 := F5.t3
    have y0 : w5.cell? ⟨w.heap.size, 0, none⟩ = some (.int .i64 0) := q2.cell 0 _ rfl
    have fy0 := q2.free 0
    have y1 : w5.cell? ⟨w.heap.size, 1, none⟩ = some (.string ⟨#[]⟩) := q2.cell 1 _ rfl
    have fy1 := q2.free 1
    have y2 : w5.cell? ⟨w.heap.size, 2, none⟩ = some (.int .i64 0) := q2.cell 2 _ rfl
    have fy2 := q2.free 2
    have y3 : w5.cell? ⟨w.heap.size, 3, none⟩ = some (.int .i64 0) := q2.cell 3 _ rfl
    have fy3 := q2.free 3
    have y4 : w5.cell? ⟨w.heap.size, 4, none⟩ = some (.int .i64 0) := q2.cell 4 _ rfl
    have fy4 := q2.free 4
    have y5 : w5.cell? ⟨w.heap.size, 5, none⟩ = some (.int .i64 0) := q2.cell 5 _ rfl
    have fy5 := q2.free 5
    have z0 : w5.cell? ⟨w.heap.size + 1, 0, none⟩ = some (.int .i64 3) := q3.cell 0 _ rfl
    have z1 : w5.cell? ⟨w.heap.size + 1, 1, none⟩ = some (.string s) := q3.cell 1 _ rfl
    have z2 : w5.cell? ⟨w.heap.size + 1, 2, none⟩ = some (.int .i64 (along start pre).b) := q3.cell 2 _ rfl
    have z3 : w5.cell? ⟨w.heap.size + 1, 3, none⟩ = some (.int .i64 (along start pre).g) := q3.cell 3 _ rfl
    have z4 : w5.cell? ⟨w.heap.size + 1, 4, none⟩ = some (.int .i64 (along start pre).l) := q3.cell 4 _ rfl
    have z5 : w5.cell? ⟨w.heap.size + 1, 5, none⟩ = some (.int .i64 (along start pre).c) := q3.cell 5 _ rfl
    go_wp2_with fail
    obtain ⟨e1, e2, e3⟩ := F5.exit _ rfl
    refine bodyPost_ret (results_c rfl _ _ _ _ rfl (load_tok e1 rfl)) rfl ?_
    unfold PTok
    simp only
    rw [HK.out]
    have hk := tk_sign_ok HC.out HK.out
    subst hk
    exact ⟨_, _, by rw [HSE.out]; rfl, e3 _ hs5, e2, Or.inl ⟨rfl, rfl⟩⟩
set_option maxRecDepth 100000 in
set_option maxHeartbeats 4000000 in
theorem ptoken_other {S : ByteArray} {pre r : List Nat} {c : Nat} {t : List UInt8} (T : Txt S.data.toList (pre ++ c :: r) t) (hS : S.size ≤ 4096) {w : World} {b : Nat} (hb : Sc w b (c :: r) t (along start pre) 0 zeroPl) (hT : Tb w) (hn2 : cls c ≠ 2) (hn3 : cls c ≠ 3) (hn5 : cls c ≠ 5) :
    Calls Tryz.prog 104 #[ptrV b] w (PTok w b pre (c :: r) t) := by
  have hc2 : (cls c == 2) = false := by simpa using hn2
  have hc3 : (cls c == 3) = false := by simpa using hn3
  have hc5 : (cls c == 5) = false := by simpa using hn5
  have hcm : (cls c == -1) = false := by have := cls_range c; rw [beq_eq_false_iff_ne]; omega
  have htk : tk (c :: r) = .bad 41 := by
    simp only [tk]
    rw [if_neg hn2, if_neg hn3, if_neg hn5]
  have HK := Lib.hid htk
  clear hn2 hn3 hn5 htk
  have hT0 := hT
  have F0 := PtF.init hb hT
  have hs0 : Sc ((w.alloc (tokO 0 ⟨#[]⟩ zeroPl)).alloc (tokO 0 ⟨#[]⟩ (along start pre))) b (c :: r) t (along start pre) 0 zeroPl := (Blk.alloc hb _).alloc _
  have h1 : w.cell? ⟨b, 1, none⟩ = some (.int .i64 (along start pre).b) := hb.blk.cell 1 _ rfl
  have h2 : w.cell? ⟨b, 2, none⟩ = some (.int .i64 (along start pre).g) := hb.blk.cell 2 _ rfl
  have h3 : w.cell? ⟨b, 3, none⟩ = some (.int .i64 (along start pre).l) := hb.blk.cell 3 _ rfl
  have h4 : w.cell? ⟨b, 4, none⟩ = some (.int .i64 (along start pre).c) := hb.blk.cell 4 _ rfl
  have hlt := hb.blk.lt
  simp only [tokO, zeroPl] at F0 hs0
  go_enter Tryz.func104, Tryz.ntmps104
  go_upto_region 2 with (fail)
  generalize hW1 : World.alloc (World.alloc w _) _ = w1 at F0 hs0 ⊢
  clear hW1 h1 h2 h3 h4
  go_wp2_with fail
  refine (class_some (T.ok c (by simp)) hs0 F0.tb).mono ?_
  rintro e w2 ⟨rfl, hf2⟩
  have hs2 := hs0.no hf2
  have F2 := F0.no hf2
  clear hs0 F0 hf2

  have r1 : w2.cell? ⟨b, 1, none⟩ = some (.int .i64 (along start pre).b) := hs2.blk.cell 1 _ rfl
  have r2 : w2.cell? ⟨b, 2, none⟩ = some (.int .i64 (along start pre).g) := hs2.blk.cell 2 _ rfl
  have r3 : w2.cell? ⟨b, 3, none⟩ = some (.int .i64 (along start pre).l) := hs2.blk.cell 3 _ rfl
  have r4 : w2.cell? ⟨b, 4, none⟩ = some (.int .i64 (along start pre).c) := hs2.blk.cell 4 _ rfl
  go_wp2_with fail
  refine (fail_first b _ (along start pre) zeroPl w2 hs2 41 (along start pre)).mono ?_
  rintro e w3 ⟨rfl, hb3, hf3⟩
  have F3 := F2.call hf3
  clear F2 hs2 r1 r2 r3 r4 hf3
  go_upto_region 20 with (fail)
  have q2 := F3.t2
  have q3 := F3.t3
  have y0 : w3.cell? ⟨w.heap.size, 0, none⟩ = some (.int .i64 0) := q2.cell 0 _ rfl
  have fy0 := q2.free 0
  have y1 : w3.cell? ⟨w.heap.size, 1, none⟩ = some (.string ⟨#[]⟩) := q2.cell 1 _ rfl
  have fy1 := q2.free 1
  have y2 : w3.cell? ⟨w.heap.size, 2, none⟩ = some (.int .i64 0) := q2.cell 2 _ rfl
  have fy2 := q2.free 2
  have y3 : w3.cell? ⟨w.heap.size, 3, none⟩ = some (.int .i64 0) := q2.cell 3 _ rfl
  have fy3 := q2.free 3
  have y4 : w3.cell? ⟨w.heap.size, 4, none⟩ = some (.int .i64 0) := q2.cell 4 _ rfl
  have fy4 := q2.free 4
  have y5 : w3.cell? ⟨w.heap.size, 5, none⟩ = some (.int .i64 0) := q2.cell 5 _ rfl
  have fy5 := q2.free 5
  have z0 : w3.cell? ⟨w.heap.size + 1, 0, none⟩ = some (.int .i64 0) := q3.cell 0 _ rfl
  have z1 : w3.cell? ⟨w.heap.size + 1, 1, none⟩ = some (.string ⟨#[]⟩) := q3.cell 1 _ rfl
  have z2 : w3.cell? ⟨w.heap.size + 1, 2, none⟩ = some (.int .i64 (along start pre).b) := q3.cell 2 _ rfl
  have z3 : w3.cell? ⟨w.heap.size + 1, 3, none⟩ = some (.int .i64 (along start pre).g) := q3.cell 3 _ rfl
  have z4 : w3.cell? ⟨w.heap.size + 1, 4, none⟩ = some (.int .i64 (along start pre).l) := q3.cell 4 _ rfl
  have z5 : w3.cell? ⟨w.heap.size + 1, 5, none⟩ = some (.int .i64 (along start pre).c) := q3.cell 5 _ rfl
  go_wp2_with fail
  obtain ⟨e1, e2, e3⟩ := F3.exit _ rfl
  refine bodyPost_ret (results_c rfl _ _ _ _ rfl (load_tok e1 rfl)) rfl ?_
  unfold PTok
  simp only
  rw [HK.out]
  exact ⟨_, _, _, _, rfl, e3 _ hb3, e2⟩
theorem ptoken_calls {S : ByteArray} {pre cs : List Nat} {t : List UInt8} (T : Txt S.data.toList (pre ++ cs) t) (hS : S.size ≤ 4096) {w : World} {b : Nat} (hb : Sc w b cs t (along start pre) (bk cs t (along start pre)).1 (bk cs t (along start pre)).2) (hT : Tb w) :
    Calls Tryz.prog 104 #[ptrV b] w (PTok w b pre cs t) := by
  cases cs with
  | nil => exact ptoken_end T hS hb hT
  | cons c r =>
    by_cases h2 : cls c = 2
    · exact ptoken_name T hS hb hT h2
    · by_cases h3 : cls c = 3
      · exact ptoken_num T hS hb hT h3
      · by_cases h5 : cls c = 5
        · exact ptoken_sign T hS hb hT h5
        · exact ptoken_other T hS hb hT h2 h3 h5
end Go.Proofs.YtlklijpjacmgpaaGreatDoor

namespace Go.Proofs.YtlklijpjacmgpaaGreatDoor
open Go.RowKit
set_option linter.unusedVariables false
set_option linter.unusedSimpArgs false

set_option maxHeartbeats 1000000 in
theorem Scan_long (s : ByteArray) (w : World) (h : 4096 < s.size) (hmax : s.size ≤ maxLen) :
    Calls Tryz.prog 62 #[.string s] w (ScanOut w (.bad 2 zeroPl)) := by
  unfold maxLen at hmax
  go_enter Tryz.func62, Tryz.ntmps62
  go_wp2_with fail
  have e1 : Blk _ w.heap.size (plO zeroPl) := Blk.new w (plO zeroPl)
  exact bodyPost_ret (results_ttc rfl _ _ _ _ rfl (load_pl e1 rfl)) rfl ⟨rfl, (Fr.refl No w).alloc _⟩
theorem PTok.fr {w : World} {b : Nat} {pre cs : List Nat} {t : List UInt8} {e : Ending} {w' : World} (h : PTok w b pre cs t e w') : Fr (· = b) w w' := by
  cases cs with
  | nil => exact h.2.2
  | cons c r =>
    unfold PTok at h
    simp only at h
    split at h
    · obtain ⟨_, _, _, _, _, _, h⟩ := h; exact h
    · obtain ⟨_, _, _, _, h, _⟩ := h; exact h
/-- what Scan's loop holds -/
def PsRel (s : ByteArray) (w wr : World) (b : Nat) (brk : Bool) (t : List UInt8) (R : Res) (gk : Nat) (x6 : Value) : Prop :=
  ∃ (pre cs : List Nat) (acc : List Tok) (a : Option Addr) (ca : Nat), x6 = .slice a acc.length ca ∧ Txt s.data.toList (pre ++ cs) t ∧ R = Res.pre acc (scan brk gk pre cs) ∧ cs.length < gk ∧ acc.length + gk ≤ 4097 ∧
    wr.ownsRow (b + 1) 83 6 (.slice a acc.length ca) acc.length (toksV acc) ∧ Sc wr b cs t (along start pre) 0 zeroPl ∧ Fr No w wr ∧ Blk wr w.heap.size (plO zeroPl) ∧ Tb wr
/-- the world behind the loop's token -/
structure PtW (w w4 : World) (b g : Nat) (s : ByteArray) (p : Pl) (code : Int) (bad : Pl) (k : Int) (x : ByteArray) (p2 : Pl) (a : Option Addr) (ca : Nat) (acc : List Tok) : Prop where
  sc : Blk w4 b (scO s p code bad)
  tk : Blk w4 g (tokO k x p2)
  res : Blk w4 w.heap.size (plO zeroPl)
  own : w4.ownsRow (b + 1) 83 6 (.slice a acc.length ca) acc.length (toksV acc)
  fr : Fr No w w4
  tb : Tb w4
  ne : ∀ k, (Value.slice a acc.length ca).ownBlock = some k → k < g
  gb : b < g
  hb : w.heap.size < b
theorem PtW.of {w w3 : World} {b : Nat} {s : ByteArray} {p : Pl} {code : Int} {bad : Pl} {k : Int} {x : ByteArray} {p2 : Pl} {a : Option Addr} {ca : Nat} {acc : List Tok}
    (h1 : Blk w3 b (scO s p code bad)) (h2 : Blk w3 w.heap.size (plO zeroPl)) (h3 : w3.ownsRow (b + 1) 83 6 (.slice a acc.length ca) acc.length (toksV acc)) (h4 : Fr No w w3) (h5 : Tb w3) (h6 : w.heap.size < b) :
    PtW w (w3.alloc (.cells #[.int .i64 k, .string x, .int .i64 p2.b, .int .i64 p2.g, .int .i64 p2.l, .int .i64 p2.c] 83)) b w3.heap.size s p code bad k x p2 a ca acc :=
  ⟨h1.alloc _, Blk.new w3 (tokO k x p2), h2.alloc _, h3.alloc _, h4.alloc _, h5.no ((Fr.refl _ _).alloc _), fun k hk => (h3.lt k hk).2, h1.lt, h6⟩
set_option maxRecDepth 100000 in
set_option maxHeartbeats 4000000 in
theorem Scan_short (s : ByteArray) (w : World) (hT : Tb w) (hS : s.size ≤ 4096) {cs : List Nat} {t : List UInt8} (T : Txt s.data.toList cs t) :
    Calls Tryz.prog 62 #[.string s] w (ScanOut w (scanOf cs t)) := by
  obtain ⟨i0, hi, hz0, hz1, hz2⟩ := info_parts info_tok
  have hcs : cs.length ≤ 4096 := by have := T.len_le; rw [← Lib.size_eq] at this; omega
  have hd : decide ((4096 : Int) < (s.size : Int)) = false := by simp; omega
  have hst := tx_of T
  have HST := Lib.hid hst
  clear hst
  go_enter Tryz.func62, Tryz.ntmps62
  go_wp2_with fail
  refine (start_calls _).mono ?_
  rintro e w1 ⟨rfl, hf1⟩
  have hblk0 : Blk w1 w.heap.size (plO zeroPl) := (Blk.new w (plO zeroPl)).fr hf1 (fun x => x)
  have hf := ((Fr.refl No w).alloc _).callNo hf1
  have hT1 := hT.no hf
  have hb0 : w.heap.size < w1.heap.size := hblk0.lt
  simp only [plA]
  go_upto_region 4 with (fail)
  obtain ⟨b, hbe⟩ : ∃ b, w1.heap.size = b := ⟨_, rfl⟩
  have hone : ∀ W, W = w1.alloc (scO s start 0 zeroPl) → Sc W b cs t (along start []) 0 zeroPl ∧ Blk W w.heap.size (plO zeroPl) ∧ Fr No w W ∧ Tb W := by
    rintro W rfl
    refine ⟨?_, hblk0.alloc _, hf.alloc _, hT1.no ((Fr.refl _ _).alloc _)⟩
    unfold Sc
    rw [← hbe, ← HST.out]
    exact Blk.new w1 _
  generalize hW : w1.alloc _ = w2
  obtain ⟨hsc, hblk, hf2, hT2⟩ := hone w2 (by rw [← hW]; rfl)
  have hws : w2.heap.size = b + 1 := by rw [← hW, ← hbe]; simp
  rw [hbe] at hb0 ⊢
  have HBE := Lib.hid hbe
  clear hone hW hf1 hblk0 hf hT1 hbe
  go_wp2_with fail
  go_loopg [6] (cs.length + 1) (fun gk x6 wr => PsRel s w wr b (!t.isEmpty) t (scanOf cs t) gk x6)
  case atStart => exact ⟨[], cs, [], none, 0, rfl, T, by rw [Res.pre_nil]; rfl, by omega, by simp; omega, World.ownsRow_nil _ _ _ _, hsc, hf2, hblk, hT2⟩
  case round =>
    obtain ⟨pre, cs1, acc, a, ca, rfl, T1, hR, hlen, hacc, ho, hsc, hf, hblk, hTr⟩ := hrel
    obtain ⟨n, rfl⟩ : ∃ n, gk = n + 1 := ⟨gk - 1, by omega⟩
    have HR := Lib.hid hR
    clear hR
    obtain ⟨hn0, hn1⟩ := hTr.sc hsc
    go_wp2_with fail
    refine (blanks_calls T1 hS hsc hTr).mono ?_
    rintro e w2 ⟨rfl, hs2, hf2⟩
    have hT2 := hTr.fr hf2 hn0 hn1
    have hblk2 := hblk.fr hf2 (by omega)
    have ho2 := own_fr ho hf2 (fun k hk => by have := (ho.lt k hk).1; omega)
    have hff2 := hf.call hf2 (fun k hk hkb => by omega)
    clear hblk ho hf hsc hf2 hTr
    have hsa := skipped_append cs1
    have T2 : Txt s.data.toList ((pre ++ skipped cs1) ++ skipC false cs1) t := by rw [List.append_assoc, hsa]; exact T1
    have hl2 := skipC_le cs1 false
    go_wp2_with fail
    refine (ptoken_calls T2 hS hs2 hT2).mono ?_
    intro e w3 hpt
    have hfr3 := hpt.fr
    have hblk3 := hblk2.fr hfr3 (by omega)
    have ho3 := own_fr ho2 hfr3 (fun k hk => by have := (ho2.lt k hk).1; omega)
    have hf3 := hff2.call hfr3 (fun k hk hkb => by omega)
    have hT3 := hT2.fr hfr3 hn0 hn1
    clear hblk2 ho2 hff2 hs2 hfr3 hT2
    cases hsk : skipC false cs1 with
    | nil =>
      rw [hsk] at hpt hsa T2
      unfold PTok at hpt
      obtain ⟨rfl, hs3, _⟩ := hpt
      have hscs : skipped cs1 = cs1 := by simpa using hsa
      have HS := Lib.hid (And.intro hscs hsk)
      simp only [tokA]
      by_cases ht : t = []
      · have hfz : fz t (along start (pre ++ skipped cs1)) 0 zeroPl = (0, zeroPl) := if_pos ht
        rw [hfz] at hs3
        have H4 := PtW.of (k := 0) (x := ⟨#[]⟩) (p2 := along start (pre ++ skipped cs1)) hs3 hblk3 ho3 hf3 hT3 hb0
        have HT := Lib.hid ht
        clear hfz hs3 hblk3 ho3 hf3 hT3 hsk hscs hsa ht
        go_upto_region 7 with (fail)
        generalize w3.alloc _ = w4 at H4 ⊢
        generalize w3.heap.size = g at H4 ⊢
        have hgb := H4.gb
        have hglt := H4.tk.lt
        have k0 : w4.cell? ⟨g, 0, none⟩ = some (.int .i64 0) := H4.tk.cell 0 _ rfl
        have k1 : w4.cell? ⟨g, 1, none⟩ = some (.string ⟨#[]⟩) := H4.tk.cell 1 _ rfl
        have k2 : w4.cell? ⟨g, 2, none⟩ = some (.int .i64 (along start (pre ++ skipped cs1)).b) := H4.tk.cell 2 _ rfl
        have k3 : w4.cell? ⟨g, 3, none⟩ = some (.int .i64 (along start (pre ++ skipped cs1)).g) := H4.tk.cell 3 _ rfl
        have k4 : w4.cell? ⟨g, 4, none⟩ = some (.int .i64 (along start (pre ++ skipped cs1)).l) := H4.tk.cell 4 _ rfl
        have k5 : w4.cell? ⟨g, 5, none⟩ = some (.int .i64 (along start (pre ++ skipped cs1)).c) := H4.tk.cell 5 _ rfl
        have c5 : w4.cell? ⟨b, 5, none⟩ = some (.int .i64 0) := H4.sc.cell 5 _ rfl
        go_upto_region 10 with ((at_builtin; go_loud (refine wpList_append_own _ rfl _ _ 73 rfl (b + 1) 83 i0 (.agg #[.int .i64 0, .string ⟨#[]⟩, .int .i64 0, .int .i64 0, .int .i64 0, .int .i64 0]) 6 56 Tryz.underlying73 hi hz0 hz1 hz2 rfl (by decide) _ _ _ rfl (H4.own.alloc _) ⟨w4.heap.size, 0, none⟩ 1 1 (tokC ⟨0, [], along start (pre ++ skipped cs1)⟩) rfl rfl ?c1 ?c2 ?c3 ?c4 ?c5 ?_; (case c1 => exact new_row _ _ _); (case c2 => exact tokC_one _); (case c3 => (unfold maxLen; omega)); (case c4 => omega); (case c5 => (simp; omega)); intro v6 w6 hown6 hgr6 _)))
        have g7 : w6.cell? ⟨g, 0, none⟩ = some (.int .i64 0) := hgr6.cell ((H4.tk.alloc (Obj.cells #[.int .i64 0, .string ⟨#[]⟩, .int .i64 (along start (pre ++ skipped cs1)).b, .int .i64 (along start (pre ++ skipped cs1)).g, .int .i64 (along start (pre ++ skipped cs1)).l, .int .i64 (along start (pre ++ skipped cs1)).c] 83)).cell 0 (.int .i64 0) rfl) (fun e => absurd (H4.ne _ e.symm) (Nat.lt_irrefl _))
        have hblk6 : Blk w6 w.heap.size (plO zeroPl) := (hgr6.block _ (H4.res.alloc _).lt (fun e => by have := (H4.own.lt _ e.symm).1; have := H4.hb; omega)).trans (H4.res.alloc _)
        have f6 := (H4.fr.alloc _).grown hgr6 (fun k hk hlt => by have := (H4.own.lt _ hk).1; have := H4.hb; omega)
        obtain ⟨a6, c6, rfl⟩ := own_form hown6
        have res0 : w6.cell? ⟨w.heap.size, 0, none⟩ = some (.int .i64 0) := hblk6.cell 0 _ rfl
        have rfz0 := hblk6.free 0
        have res1 : w6.cell? ⟨w.heap.size, 1, none⟩ = some (.int .i64 0) := hblk6.cell 1 _ rfl
        have rfz1 := hblk6.free 1
        have res2 : w6.cell? ⟨w.heap.size, 2, none⟩ = some (.int .i64 0) := hblk6.cell 2 _ rfl
        have rfz2 := hblk6.free 2
        have res3 : w6.cell? ⟨w.heap.size, 3, none⟩ = some (.int .i64 0) := hblk6.cell 3 _ rfl
        have rfz3 := hblk6.free 3
        go_wp2_with fail
        obtain ⟨e1, e2⟩ := pl_exit hblk6 f6 zeroPl _ rfl
        have hb9 := H4.hb
        have hown7 := (own_fr hown6 ((Fr.refl (· = w.heap.size) w6).setCell (a := ⟨w.heap.size, 0, none⟩) (.int .i64 0) (fun _ => rfl)) (fun k hk => by have := (hown6.lt _ hk).1; omega))
        have hown8 := (own_fr hown7 ((Fr.refl (· = w.heap.size) _).setCell (a := ⟨w.heap.size, 1, none⟩) (.int .i64 0) (fun _ => rfl)) (fun k hk => by have := (hown6.lt _ hk).1; omega))
        have hown9 := (own_fr hown8 ((Fr.refl (· = w.heap.size) _).setCell (a := ⟨w.heap.size, 2, none⟩) (.int .i64 0) (fun _ => rfl)) (fun k hk => by have := (hown6.lt _ hk).1; omega))
        have hownA := (own_fr hown9 ((Fr.refl (· = w.heap.size) _).setCell (a := ⟨w.heap.size, 3, none⟩) (.int .i64 0) (fun _ => rfl)) (fun k hk => by have := (hown6.lt _ hk).1; omega))
        refine bodyPost_ret (results_ttc rfl _ _ _ _ rfl (load_pl e1 rfl)) rfl ?_
        obtain ⟨a1, a2⟩ := HS.out
        have hres : scanOf cs t = .ok (acc ++ [⟨0, [], along start (pre ++ skipped cs1)⟩]) := by
          rw [HR.out]
          simp only [scan, a2, HT.out, Res.pre]
          rw [a1]
          rfl
        unfold ScanOut
        rw [hres]
        refine ⟨a6, c6, by rw [List.length_append]; rfl, ?_, e2⟩
        have := own_mono hownA (B' := w.heap.size) (by omega)
        simpa [toksV] using this
      · have hfz : fz t (along start (pre ++ skipped cs1)) 0 zeroPl = (40, along start (pre ++ skipped cs1)) := by unfold fz; rw [if_neg ht, if_pos rfl]
        rw [hfz] at hs3
        have H4 := PtW.of (k := 0) (x := ⟨#[]⟩) (p2 := along start (pre ++ skipped cs1)) hs3 hblk3 ho3 hf3 hT3 hb0
        have HT := Lib.hid ht
        clear hfz hs3 hblk3 ho3 hf3 hT3 hsk hscs hsa ht
        go_upto_region 7 with (fail)
        generalize w3.alloc _ = w4 at H4 ⊢
        generalize w3.heap.size = g at H4 ⊢
        have c5 : w4.cell? ⟨b, 5, none⟩ = some (.int .i64 40) := H4.sc.cell 5 _ rfl
        have c6 : w4.cell? ⟨b, 6, none⟩ = some (.int .i64 (along start (pre ++ skipped cs1)).b) := H4.sc.cell 6 _ rfl
        have c7 : w4.cell? ⟨b, 7, none⟩ = some (.int .i64 (along start (pre ++ skipped cs1)).g) := H4.sc.cell 7 _ rfl
        have c8 : w4.cell? ⟨b, 8, none⟩ = some (.int .i64 (along start (pre ++ skipped cs1)).l) := H4.sc.cell 8 _ rfl
        have c9 : w4.cell? ⟨b, 9, none⟩ = some (.int .i64 (along start (pre ++ skipped cs1)).c) := H4.sc.cell 9 _ rfl
        have res0 : w4.cell? ⟨w.heap.size, 0, none⟩ = some (.int .i64 0) := H4.res.cell 0 _ rfl
        have rfz0 := H4.res.free 0
        have res1 : w4.cell? ⟨w.heap.size, 1, none⟩ = some (.int .i64 0) := H4.res.cell 1 _ rfl
        have rfz1 := H4.res.free 1
        have res2 : w4.cell? ⟨w.heap.size, 2, none⟩ = some (.int .i64 0) := H4.res.cell 2 _ rfl
        have rfz2 := H4.res.free 2
        have res3 : w4.cell? ⟨w.heap.size, 3, none⟩ = some (.int .i64 0) := H4.res.cell 3 _ rfl
        have rfz3 := H4.res.free 3
        have hne : w.heap.size ≠ b := by have := H4.hb; omega
        have hne2 : b ≠ w.heap.size := by have := H4.hb; omega
        go_wp2_with fail
        go_region
        go_wp2_with fail
        obtain ⟨e1, e2⟩ := pl_exit H4.res H4.fr (along start (pre ++ skipped cs1)) _ rfl
        refine bodyPost_ret (results_ttc rfl _ _ _ _ rfl (load_pl e1.drew rfl)) rfl ?_
        obtain ⟨a1, a2⟩ := HS.out
        have hres : scanOf cs t = .bad 40 (along start (pre ++ skipped cs1)) := by
          rw [HR.out]
          have hte : (!t.isEmpty) = true := by simpa using HT.out
          simp only [scan, a2, hte, if_true, Res.pre]
          rw [a1]
        unfold ScanOut
        rw [hres]
        exact ⟨rfl, e2.drew⟩
    | cons c r =>
      rw [hsk] at hpt hsa T2 hl2
      have HS := Lib.hid (And.intro hsa hsk)
      clear hsa hsk
      simp only [List.length_cons] at hl2
      unfold PTok at hpt
      simp only at hpt
      cases htk : tk (c :: r) with
      | bad m =>
        rw [htk] at hpt
        obtain ⟨k, x, rest, q, rfl, hb3, _⟩ := hpt
        have hm := tk_bad htk
        have hm0 : (m != 0) = true := by simp; omega
        have HTK := Lib.hid htk
        simp only [tokA]
        have H4 := PtW.of (k := k) (x := x) (p2 := along start (pre ++ skipped cs1)) hb3 hblk3 ho3 hf3 hT3 hb0
        clear hb3 hblk3 ho3 hf3 hT3 htk hm
        go_upto_region 7 with (fail)
        generalize w3.alloc _ = w4 at H4 ⊢
        generalize w3.heap.size = g at H4 ⊢
        have c5 : w4.cell? ⟨b, 5, none⟩ = some (.int .i64 m) := H4.sc.cell 5 _ rfl
        have c6 : w4.cell? ⟨b, 6, none⟩ = some (.int .i64 (along start (pre ++ skipped cs1)).b) := H4.sc.cell 6 _ rfl
        have c7 : w4.cell? ⟨b, 7, none⟩ = some (.int .i64 (along start (pre ++ skipped cs1)).g) := H4.sc.cell 7 _ rfl
        have c8 : w4.cell? ⟨b, 8, none⟩ = some (.int .i64 (along start (pre ++ skipped cs1)).l) := H4.sc.cell 8 _ rfl
        have c9 : w4.cell? ⟨b, 9, none⟩ = some (.int .i64 (along start (pre ++ skipped cs1)).c) := H4.sc.cell 9 _ rfl
        have res0 : w4.cell? ⟨w.heap.size, 0, none⟩ = some (.int .i64 0) := H4.res.cell 0 _ rfl
        have rfz0 := H4.res.free 0
        have res1 : w4.cell? ⟨w.heap.size, 1, none⟩ = some (.int .i64 0) := H4.res.cell 1 _ rfl
        have rfz1 := H4.res.free 1
        have res2 : w4.cell? ⟨w.heap.size, 2, none⟩ = some (.int .i64 0) := H4.res.cell 2 _ rfl
        have rfz2 := H4.res.free 2
        have res3 : w4.cell? ⟨w.heap.size, 3, none⟩ = some (.int .i64 0) := H4.res.cell 3 _ rfl
        have rfz3 := H4.res.free 3
        have hne : w.heap.size ≠ b := by have := H4.hb; omega
        have hne2 : b ≠ w.heap.size := by have := H4.hb; omega
        go_wp2_with fail
        go_region
        go_wp2_with fail
        obtain ⟨e1, e2⟩ := pl_exit H4.res H4.fr (along start (pre ++ skipped cs1)) _ rfl
        refine bodyPost_ret (results_ttc rfl _ _ _ _ rfl (load_pl e1.drew rfl)) rfl ?_
        obtain ⟨a1, a2⟩ := HS.out
        have hres : scanOf cs t = .bad m (along start (pre ++ skipped cs1)) := by
          rw [HR.out]
          simp only [scan, a2, HTK.out, Res.pre]
        unfold ScanOut
        rw [hres]
        exact ⟨rfl, e2.drew⟩
      | ok k x m =>
        rw [htk] at hpt
        obtain ⟨C, B, rfl, hs3, _, hCB⟩ := hpt
        obtain ⟨m1, m2, hk⟩ := tk_ok htk
        have hk0 : (k == 0) = false := by simp; omega
        have HTK := Lib.hid htk
        simp only [tokA]
        have hcase : (C = 0 ∧ B = zeroPl) ∨ ((c :: r).drop m = [] ∧ t ≠ [] ∧ C = 40 ∧ B = along start (pre ++ skipped cs1 ++ (c :: r).take m)) := by
          rcases hCB with h | ⟨h1, h2⟩
          · exact Or.inl h
          · by_cases ht : t = []
            · unfold fz at h2
              rw [if_pos ht] at h2
              cases h2
              exact Or.inl ⟨rfl, rfl⟩
            · unfold fz at h2
              rw [if_neg ht, if_pos rfl] at h2
              cases h2
              exact Or.inr ⟨h1, ht, rfl, rfl⟩
        clear hCB htk hk
        rcases hcase with ⟨rfl, rfl⟩ | ⟨hdm, ht, rfl, rfl⟩
        · have H4 := PtW.of (k := k) (x := ⟨x.toArray⟩) (p2 := along start (pre ++ skipped cs1)) hs3 hblk3 ho3 hf3 hT3 hb0
          clear hs3 hblk3 ho3 hf3 hT3
          go_upto_region 7 with (fail)
          generalize w3.alloc _ = w4 at H4 ⊢
          generalize w3.heap.size = g at H4 ⊢
          have hgb := H4.gb
          have hglt := H4.tk.lt
          have k0 : w4.cell? ⟨g, 0, none⟩ = some (.int .i64 k) := H4.tk.cell 0 _ rfl
          have k1 : w4.cell? ⟨g, 1, none⟩ = some (.string ⟨x.toArray⟩) := H4.tk.cell 1 _ rfl
          have k2 : w4.cell? ⟨g, 2, none⟩ = some (.int .i64 (along start (pre ++ skipped cs1)).b) := H4.tk.cell 2 _ rfl
          have k3 : w4.cell? ⟨g, 3, none⟩ = some (.int .i64 (along start (pre ++ skipped cs1)).g) := H4.tk.cell 3 _ rfl
          have k4 : w4.cell? ⟨g, 4, none⟩ = some (.int .i64 (along start (pre ++ skipped cs1)).l) := H4.tk.cell 4 _ rfl
          have k5 : w4.cell? ⟨g, 5, none⟩ = some (.int .i64 (along start (pre ++ skipped cs1)).c) := H4.tk.cell 5 _ rfl
          have c5 : w4.cell? ⟨b, 5, none⟩ = some (.int .i64 0) := H4.sc.cell 5 _ rfl
          go_upto_region 10 with ((at_builtin; go_loud (refine wpList_append_own _ rfl _ _ 73 rfl (b + 1) 83 i0 (.agg #[.int .i64 0, .string ⟨#[]⟩, .int .i64 0, .int .i64 0, .int .i64 0, .int .i64 0]) 6 56 Tryz.underlying73 hi hz0 hz1 hz2 rfl (by decide) _ _ _ rfl (H4.own.alloc _) ⟨w4.heap.size, 0, none⟩ 1 1 (tokC ⟨k, x, along start (pre ++ skipped cs1)⟩) rfl rfl ?c1 ?c2 ?c3 ?c4 ?c5 ?_; (case c1 => exact new_row _ _ _); (case c2 => exact tokC_one _); (case c3 => (unfold maxLen; omega)); (case c4 => omega); (case c5 => (simp; omega)); intro v6 w6 hown6 hgr6 _)))
          have g7 : w6.cell? ⟨g, 0, none⟩ = some (.int .i64 k) := hgr6.cell ((H4.tk.alloc (Obj.cells #[.int .i64 k, .string ⟨x.toArray⟩, .int .i64 (along start (pre ++ skipped cs1)).b, .int .i64 (along start (pre ++ skipped cs1)).g, .int .i64 (along start (pre ++ skipped cs1)).l, .int .i64 (along start (pre ++ skipped cs1)).c] 83)).cell 0 (.int .i64 k) rfl) (fun e => absurd (H4.ne _ e.symm) (Nat.lt_irrefl _))
          have hblk6 : Blk w6 w.heap.size (plO zeroPl) := (hgr6.block _ (H4.res.alloc _).lt (fun e => by have := (H4.own.lt _ e.symm).1; have := H4.hb; omega)).trans (H4.res.alloc _)
          have f6 := (H4.fr.alloc _).grown hgr6 (fun k hk hlt => by have := (H4.own.lt _ hk).1; have := H4.hb; omega)
          obtain ⟨a6, c6, rfl⟩ := own_form hown6
          have hs6 : Blk w6 b _ := (hgr6.block _ (H4.sc.alloc _).lt (fun e => by have := (H4.own.lt _ e.symm).1; omega)).trans (H4.sc.alloc _)
          have hT6 : Tb w6 := hT.no f6
          go_wp2_with fail
          obtain ⟨a1, a2⟩ := HS.out
          go_roundg n
          case measure => omega
          case rel =>
            refine ⟨pre ++ skipped cs1 ++ (c :: r).take m, (c :: r).drop m, acc ++ [⟨k, x, along start (pre ++ skipped cs1)⟩], a6, c6, by simp, ?_, ?_, ?_, ?_, ?_, hs6, f6, hblk6, hT6⟩
            · rw [List.append_assoc (pre ++ skipped cs1), List.take_append_drop]; exact T2
            · rw [HR.out]
              simp only [scan, a2, HTK.out]
              rw [Res.pre_cons]
            · simp only [List.length_drop, List.length_cons]; omega
            · simp; omega
            · simpa [toksV] using hown6
        · obtain ⟨q, hq⟩ : ∃ q, along start (pre ++ skipped cs1 ++ (c :: r).take m) = q := ⟨_, rfl⟩
          rw [hq] at hs3
          have HQ := Lib.hid hq
          clear hq
          have H4 := PtW.of (k := k) (x := ⟨x.toArray⟩) (p2 := along start (pre ++ skipped cs1)) hs3 hblk3 ho3 hf3 hT3 hb0
          have HT := Lib.hid (And.intro hdm ht)
          clear hs3 hblk3 ho3 hf3 hT3 hdm ht
          go_upto_region 7 with (fail)
          generalize w3.alloc _ = w4 at H4 ⊢
          generalize w3.heap.size = g at H4 ⊢
          have c5 : w4.cell? ⟨b, 5, none⟩ = some (.int .i64 40) := H4.sc.cell 5 _ rfl
          have c6 : w4.cell? ⟨b, 6, none⟩ = some (.int .i64 (q).b) := H4.sc.cell 6 _ rfl
          have c7 : w4.cell? ⟨b, 7, none⟩ = some (.int .i64 (q).g) := H4.sc.cell 7 _ rfl
          have c8 : w4.cell? ⟨b, 8, none⟩ = some (.int .i64 (q).l) := H4.sc.cell 8 _ rfl
          have c9 : w4.cell? ⟨b, 9, none⟩ = some (.int .i64 (q).c) := H4.sc.cell 9 _ rfl
          have res0 : w4.cell? ⟨w.heap.size, 0, none⟩ = some (.int .i64 0) := H4.res.cell 0 _ rfl
          have rfz0 := H4.res.free 0
          have res1 : w4.cell? ⟨w.heap.size, 1, none⟩ = some (.int .i64 0) := H4.res.cell 1 _ rfl
          have rfz1 := H4.res.free 1
          have res2 : w4.cell? ⟨w.heap.size, 2, none⟩ = some (.int .i64 0) := H4.res.cell 2 _ rfl
          have rfz2 := H4.res.free 2
          have res3 : w4.cell? ⟨w.heap.size, 3, none⟩ = some (.int .i64 0) := H4.res.cell 3 _ rfl
          have rfz3 := H4.res.free 3
          have hne : w.heap.size ≠ b := by have := H4.hb; omega
          have hne2 : b ≠ w.heap.size := by have := H4.hb; omega
          go_wp2_with fail
          go_region
          go_wp2_with fail
          obtain ⟨e1, e2⟩ := pl_exit H4.res H4.fr (q) _ rfl
          refine bodyPost_ret (results_ttc rfl _ _ _ _ rfl (load_pl e1.drew rfl)) rfl ?_
          obtain ⟨a1, a2⟩ := HS.out
          obtain ⟨b1, b2⟩ := HT.out
          have hres : scanOf cs t = .bad 40 q := by
            rw [HR.out, ← HQ.out]
            obtain ⟨n', rfl⟩ : ∃ n', n = n' + 1 := ⟨n - 1, by omega⟩
            have hte : (!t.isEmpty) = true := by simpa using b2
            simp only [scan, a2, HTK.out, b1, skipC, hte, if_true, Res.cons, Res.pre, List.append_nil]
          unfold ScanOut
          rw [hres]
          exact ⟨rfl, e2.drew⟩
end Go.Proofs.YtlklijpjacmgpaaGreatDoor

