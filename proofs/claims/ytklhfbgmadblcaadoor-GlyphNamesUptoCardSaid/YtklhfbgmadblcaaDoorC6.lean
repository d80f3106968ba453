/- The program's scanner: token. -/
import Derived.Test.YtklhfbgmadblcaaDoorC5
import Derived.Test.YtklhfbgmadblcaaDoorD5
namespace Go.Proofs.YtklhfbgmadblcaaDoor
open Go.RowKit
set_option linter.unusedVariables false
set_option linter.unusedSimpArgs false

/-- what token's frame holds -/
structure PtF (w wr : World) (b : Nat) (p : Pl) (k : Int) (s : ByteArray) : Prop where
  t2 : Blk wr w.heap.size (tokO 0 ⟨#[]⟩ zeroPl)
  t3 : Blk wr (w.heap.size + 1) (tokO k s p)
  fr : Fr (· = b) w wr
  tb : Tb wr
  lt : b < w.heap.size
  n0 : ¬ (0 = b)
  n1 : ¬ (1 = b)

theorem PtF.call {w wr wr' : World} {b : Nat} {p : Pl} {k : Int} {s : ByteArray} (F : PtF w wr b p k s) (f : Fr (· = b) wr wr') : PtF w wr' b p k s := by
  have hlt := F.lt
  exact ⟨F.t2.fr f (by omega), F.t3.fr f (by omega), F.fr.call f (fun _ _ x => x), F.tb.fr f F.n0 F.n1, F.lt, F.n0, F.n1⟩
theorem PtF.no {w wr wr' : World} {b : Nat} {p : Pl} {k : Int} {s : ByteArray} (F : PtF w wr b p k s) (f : Fr No wr wr') : PtF w wr' b p k s := F.call (f.mono (fun _ _ x => x.elim))
theorem Tb.lt {w : World} (h : Tb w) : 1 < w.heap.size := by
  have hc := (h.2 0 (by omega)).1
  by_cases hb : 1 < w.heap.size
  · exact hb
  · simp [World.cell?, Array.getElem?_eq_none (Nat.le_of_not_lt hb)] at hc
theorem Tb.set {w w0 : World} (h : Tb w) (h0 : Tb w0) {a : Addr} (ha : w0.heap.size ≤ a.block) (v : Value) : Tb (w.setCell a v) := by
  have := h0.lt
  exact h.fr (S := (· = a.block)) ((Fr.refl _ _).setCell _ (fun _ => rfl)) (by omega) (by omega)
theorem PtF.setK {w wr : World} {b : Nat} {p : Pl} {k : Int} {s : ByteArray} (F : PtF w wr b p k s) (h0 : Tb w) (k' : Int) : PtF w (wr.setCell ⟨w.heap.size + 1, 0, none⟩ (.int .i64 k')) b p k' s := by
  have hlt := F.lt
  exact ⟨F.t2.set_ne _ _ (by simp), F.t3.setOff 0 _, F.fr.setCell _ (fun h => by simp at h; omega), F.tb.set h0 (by simp) _, F.lt, F.n0, F.n1⟩
theorem PtF.setS {w wr : World} {b : Nat} {p : Pl} {k : Int} {s : ByteArray} (F : PtF w wr b p k s) (h0 : Tb w) (s' : ByteArray) : PtF w (wr.setCell ⟨w.heap.size + 1, 1, none⟩ (.string s')) b p k s' := by
  have hlt := F.lt
  exact ⟨F.t2.set_ne _ _ (by simp), F.t3.setOff 1 _, F.fr.setCell _ (fun h => by simp at h; omega), F.tb.set h0 (by simp) _, F.lt, F.n0, F.n1⟩
theorem PtF.blk {w wr : World} {b : Nat} {p : Pl} {k : Int} {s : ByteArray} (F : PtF w wr b p k s) {o : Obj} (h : Blk wr b o) {j : Nat} (v : Value) : Blk (wr.setCell ⟨w.heap.size + 1, j, none⟩ v) b o := by
  have hlt := F.lt
  exact h.set_ne _ _ (by simp; omega)
theorem PtF.exit {w wr : World} {b : Nat} {p : Pl} {k : Int} {s : ByteArray} (F : PtF w wr b p k s) (W : World)
    (hW : W = (((((wr.setCell ⟨w.heap.size, 0, none⟩ (.int .i64 k)).setCell ⟨w.heap.size, 1, none⟩ (.string s)).setCell ⟨w.heap.size, 2, none⟩ (.int .i64 p.b)).setCell ⟨w.heap.size, 3, none⟩ (.int .i64 p.g)).setCell ⟨w.heap.size, 4, none⟩ (.int .i64 p.l)).setCell ⟨w.heap.size, 5, none⟩ (.int .i64 p.c)) :
    Blk W w.heap.size (tokO k s p) ∧ Fr (· = b) w W ∧ (∀ o, Blk wr b o → Blk W b o) := by
  have hlt := F.lt
  subst hW
  refine ⟨?_, ?_, fun o h => ?_⟩
  · exact (((((F.t2.setOff 0 _).setOff 1 _).setOff 2 _).setOff 3 _).setOff 4 _).setOff 5 _
  · exact (((((F.fr.setCell _ (by simp)).setCell _ (by simp)).setCell _ (by simp)).setCell _ (by simp)).setCell _ (by simp)).setCell _ (by simp)
  · exact (((((h.set_ne _ _ (by simp; omega)).set_ne _ _ (by simp; omega)).set_ne _ _ (by simp; omega)).set_ne _ _ (by simp; omega)).set_ne _ _ (by simp; omega)).set_ne _ _ (by simp; omega)

/-- what token hands back -/
def PTok (w : World) (b : Nat) (pre : List Nat) (cs : List Nat) (t : List UInt8) (e : Ending) (w' : World) : Prop :=
  match cs with
  | [] => e = .returned (.agg (tokA 0 ⟨#[]⟩ (along start pre))) ∧ Sc w' b [] t (along start pre) (fz t (along start pre) 0 zeroPl).1 (fz t (along start pre) 0 zeroPl).2 ∧ Fr (· = b) w w'
  | c :: r => match tk (c :: r) with
    | .bad n => ∃ k x rest q, e = .returned (.agg (tokA k x (along start pre))) ∧ Blk w' b (scO rest q n (along start pre)) ∧ Fr (· = b) w w'
    | .ok k x m => ∃ C B, e = .returned (.agg (tokA k ⟨x.toArray⟩ (along start pre))) ∧ Sc w' b ((c :: r).drop m) t (along start (pre ++ (c :: r).take m)) C B ∧ Fr (· = b) w w' ∧
        ((C = 0 ∧ B = zeroPl) ∨ ((c :: r).drop m = [] ∧ (C, B) = fz t (along start (pre ++ (c :: r).take m)) 0 zeroPl))

theorem PtF.init {w : World} {b : Nat} {cs : List Nat} {t : List UInt8} {p : Pl} {C : Int} {B : Pl} (hb : Sc w b cs t p C B) (hT : Tb w) :
    PtF w ((w.alloc (tokO 0 ⟨#[]⟩ zeroPl)).alloc (tokO 0 ⟨#[]⟩ p)) b p 0 ⟨#[]⟩ := by
  have h := Blk.new (w.alloc (tokO 0 ⟨#[]⟩ zeroPl)) (tokO 0 ⟨#[]⟩ p)
  rw [show (w.alloc (tokO 0 ⟨#[]⟩ zeroPl)).heap.size = w.heap.size + 1 by simp] at h
  exact ⟨(Blk.new _ _).alloc _, h, ((Fr.refl _ _).alloc _).alloc _, hT.no (((Fr.refl _ _).alloc _).alloc _), hb.blk.lt, (hT.sc hb).1, (hT.sc hb).2⟩


set_option maxRecDepth 100000 in
set_option maxHeartbeats 2000000 in
theorem ptoken_end {S : ByteArray} {pre : List Nat} {t : List UInt8} (T : Txt S.data.toList (pre ++ []) t) (hS : S.size ≤ 4096) {w : World} {b : Nat} (hb : Sc w b [] t (along start pre) (fz t (along start pre) 0 zeroPl).1 (fz t (along start pre) 0 zeroPl).2) (hT : Tb w) :
    Calls Tryd.prog 40 #[ptrV b] w (PTok w b pre [] t) := by
  have hT0 := hT
  have F0 := PtF.init hb hT
  have hs0 : Sc ((w.alloc (tokO 0 ⟨#[]⟩ zeroPl)).alloc (tokO 0 ⟨#[]⟩ (along start pre))) b [] t (along start pre) (fz t (along start pre) 0 zeroPl).1 (fz t (along start pre) 0 zeroPl).2 := (Blk.alloc hb _).alloc _
  have h1 : w.cell? ⟨b, 1, none⟩ = some (.int .i64 (along start pre).b) := hb.blk.cell 1 _ rfl
  have h2 : w.cell? ⟨b, 2, none⟩ = some (.int .i64 (along start pre).g) := hb.blk.cell 2 _ rfl
  have h3 : w.cell? ⟨b, 3, none⟩ = some (.int .i64 (along start pre).l) := hb.blk.cell 3 _ rfl
  have h4 : w.cell? ⟨b, 4, none⟩ = some (.int .i64 (along start pre).c) := hb.blk.cell 4 _ rfl
  have hlt := hb.blk.lt
  simp only [tokO, zeroPl] at F0 hs0
  go_enter Tryd.func40, Tryd.ntmps40
  go_upto_region 2 with (fail)
  generalize hW1 : World.alloc (World.alloc w _) _ = w1 at F0 hs0 ⊢
  clear hW1 h1 h2 h3 h4
  go_wp2_with fail
  refine (class_none' T.stop (Stands.fz hs0) F0.tb).mono ?_
  rintro e w2 ⟨rfl, hs2, hf2⟩
  have F2 := F0.call hf2
  have q2 := F2.t2
  have q3 := F2.t3
  have y0 : w2.cell? ⟨w.heap.size, 0, none⟩ = some (.int .i64 0) := q2.cell 0 _ rfl
  have fy0 := q2.free 0
  have y1 : w2.cell? ⟨w.heap.size, 1, none⟩ = some (.string ⟨#[]⟩) := q2.cell 1 _ rfl
  have fy1 := q2.free 1
  have y2 : w2.cell? ⟨w.heap.size, 2, none⟩ = some (.int .i64 0) := q2.cell 2 _ rfl
  have fy2 := q2.free 2
  have y3 : w2.cell? ⟨w.heap.size, 3, none⟩ = some (.int .i64 0) := q2.cell 3 _ rfl
  have fy3 := q2.free 3
  have y4 : w2.cell? ⟨w.heap.size, 4, none⟩ = some (.int .i64 0) := q2.cell 4 _ rfl
  have fy4 := q2.free 4
  have y5 : w2.cell? ⟨w.heap.size, 5, none⟩ = some (.int .i64 0) := q2.cell 5 _ rfl
  have fy5 := q2.free 5
  have z0 : w2.cell? ⟨w.heap.size + 1, 0, none⟩ = some (.int .i64 0) := q3.cell 0 _ rfl
  have z1 : w2.cell? ⟨w.heap.size + 1, 1, none⟩ = some (.string ⟨#[]⟩) := q3.cell 1 _ rfl
  have z2 : w2.cell? ⟨w.heap.size + 1, 2, none⟩ = some (.int .i64 (along start pre).b) := q3.cell 2 _ rfl
  have z3 : w2.cell? ⟨w.heap.size + 1, 3, none⟩ = some (.int .i64 (along start pre).g) := q3.cell 3 _ rfl
  have z4 : w2.cell? ⟨w.heap.size + 1, 4, none⟩ = some (.int .i64 (along start pre).l) := q3.cell 4 _ rfl
  have z5 : w2.cell? ⟨w.heap.size + 1, 5, none⟩ = some (.int .i64 (along start pre).c) := q3.cell 5 _ rfl
  go_wp2_with fail
  obtain ⟨e1, e2, e3⟩ := F2.exit _ rfl
  refine bodyPost_ret (results_c rfl _ _ _ _ rfl (load_tok e1 rfl)) rfl ?_
  exact ⟨rfl, e3 _ hs2, e2⟩
end Go.Proofs.YtklhfbgmadblcaaDoor
