/- The reference's token. -/
import Derived.Test.YtklhfbgmadblcaaDoorA9
import Derived.RegionTactic
import Derived.ChangeAlike
import Derived.StillTailTactics
namespace Go.Proofs.YtklhfbgmadblcaaDoor
open Go.RowKit
set_option linter.unusedVariables false
set_option linter.unusedSimpArgs false

def plA (p : Pl) : Array Value := #[.int .i64 p.b, .int .i64 p.g, .int .i64 p.l, .int .i64 p.c]
def tokA (k : Int) (s : ByteArray) (p : Pl) : Array Value := #[.int .i64 k, .string s, .int .i64 p.b, .int .i64 p.g, .int .i64 p.l, .int .i64 p.c]
def plO (p : Pl) : Obj := .cells #[.int .i64 p.b, .int .i64 p.g, .int .i64 p.l, .int .i64 p.c] 27 (0, 0)
def tokO (k : Int) (s : ByteArray) (p : Pl) : Obj := .cells #[.int .i64 k, .string s, .int .i64 p.b, .int .i64 p.g, .int .i64 p.l, .int .i64 p.c] 37 (0, 0)
def zeroPl : Pl := ⟨0, 0, 0, 0⟩

/-- what token's frame holds -/
structure TkF (w wr : World) (n0 b : Nat) (S : ByteArray) (pre : List Nat) (p : Pl) (k : Int) (s : ByteArray) : Prop where
  t2 : Blk wr n0 (tokO 0 ⟨#[]⟩ zeroPl)
  t4 : Blk wr (n0 + 1) (plO zeroPl)
  t5 : Blk wr (n0 + 2) (plO p)
  t6 : Blk wr (n0 + 3) (tokO k s p)
  rd : Rd wr b S pre
  fr : Fr (· = b) w wr
  n : n0 = w.heap.size

theorem TkF.init {w : World} {b : Nat} {S : ByteArray} {pre : List Nat} (p : Pl) (hb : Rd w b S pre) :
    TkF w ((((w.alloc (tokO 0 ⟨#[]⟩ zeroPl)).alloc (plO zeroPl)).alloc (plO p)).alloc (tokO 0 ⟨#[]⟩ p)) w.heap.size b S pre p 0 ⟨#[]⟩ := by
  have s1 : (w.alloc (tokO 0 ⟨#[]⟩ zeroPl)).heap.size = w.heap.size + 1 := by simp
  have s2 : ((w.alloc (tokO 0 ⟨#[]⟩ zeroPl)).alloc (plO zeroPl)).heap.size = w.heap.size + 2 := by simp
  have s3 : (((w.alloc (tokO 0 ⟨#[]⟩ zeroPl)).alloc (plO zeroPl)).alloc (plO p)).heap.size = w.heap.size + 3 := by simp
  refine ⟨(((Blk.new _ _).alloc _).alloc _).alloc _, ?_, ?_, ?_, (((hb.alloc _).alloc _).alloc _).alloc _, ((((Fr.refl _ w).alloc _).alloc _).alloc _).alloc _, rfl⟩
  · rw [← s1]; exact ((Blk.new _ _).alloc _).alloc _
  · rw [← s2]; exact (Blk.new _ _).alloc _
  · rw [← s3]; exact Blk.new _ _
theorem TkF.qd {w wr wr' : World} {n0 b : Nat} {S : ByteArray} {pre : List Nat} {p : Pl} {k : Int} {s : ByteArray} (F : TkF w wr n0 b S pre p k s) (q : Qd wr wr') : TkF w wr' n0 b S pre p k s :=
  ⟨q.blk F.t2, q.blk F.t4, q.blk F.t5, q.blk F.t6, F.rd.qd q, F.fr.qd q, F.n⟩
theorem TkF.no {w wr wr' : World} {n0 b : Nat} {S : ByteArray} {pre : List Nat} {p : Pl} {k : Int} {s : ByteArray} (F : TkF w wr n0 b S pre p k s) (f : Fr No wr wr') : TkF w wr' n0 b S pre p k s :=
  ⟨F.t2.fr f (fun x => x), F.t4.fr f (fun x => x), F.t5.fr f (fun x => x), F.t6.fr f (fun x => x), F.rd.fr f (fun x => x), F.fr.callNo f, F.n⟩
theorem TkF.al {w wr : World} {n0 b : Nat} {S : ByteArray} {pre : List Nat} {p : Pl} {k : Int} {s : ByteArray} (F : TkF w wr n0 b S pre p k s) (o : Obj) : TkF w (wr.alloc o) n0 b S pre p k s :=
  ⟨F.t2.alloc o, F.t4.alloc o, F.t5.alloc o, F.t6.alloc o, F.rd.alloc o, F.fr.alloc o, F.n⟩
theorem TkF.next {w wr wr' : World} {n0 b : Nat} {S : ByteArray} {pre pre' : List Nat} {p : Pl} {k : Int} {s : ByteArray} (F : TkF w wr n0 b S pre p k s) (hlt : b < w.heap.size) (r : Rd wr' b S pre') (f : Fr (· = b) wr wr') : TkF w wr' n0 b S pre' p k s := by
  have hn := F.n
  exact ⟨F.t2.fr f (by omega), F.t4.fr f (by omega), F.t5.fr f (by omega), F.t6.fr f (by omega), r, F.fr.call f (fun _ _ x => x), F.n⟩

theorem results_ctc {fn : Func} {p q r : Tmp} {t1 t2 : TypeId} (h : fn.results = #[.cell p t1, .tmp q, .cell r t2]) (tmps : Array Value) (w : World) (g1 g2 : Nat) (cs1 cs2 : Array Value)
    (hp : tmps.getD p undef = .pointer (some ⟨g1, 0, none⟩)) (hr : tmps.getD r undef = .pointer (some ⟨g2, 0, none⟩))
    (L1 : (loadVar t1 ⟨g1, 0, none⟩).run Tryd.prog w = .ok (.agg cs1) w) (L2 : (loadVar t2 ⟨g2, 0, none⟩).run Tryd.prog w = .ok (.agg cs2) w) :
    (results fn tmps).run Tryd.prog w = .ok (.tuple #[.agg cs1, tmps.getD q undef, .agg cs2]) w := by
  have hp' : tmps[p]?.getD undef = .pointer (some ⟨g1, 0, none⟩) := by simpa using hp
  have hr' : tmps[r]?.getD undef = .pointer (some ⟨g2, 0, none⟩) := by simpa using hr
  simp only [results, h]
  simp [hp', hr', asAddr, L1, L2, Sem.run_bind, Result.andThen]

theorem results_ttc {fn : Func} {p q r : Tmp} {t2 : TypeId} (h : fn.results = #[.tmp p, .tmp q, .cell r t2]) (tmps : Array Value) (w : World) (g2 : Nat) (cs2 : Array Value)
    (hr : tmps.getD r undef = .pointer (some ⟨g2, 0, none⟩)) (L2 : (loadVar t2 ⟨g2, 0, none⟩).run Tryd.prog w = .ok (.agg cs2) w) :
    (results fn tmps).run Tryd.prog w = .ok (.tuple #[tmps.getD p undef, tmps.getD q undef, .agg cs2]) w := by
  have hr' : tmps[r]?.getD undef = .pointer (some ⟨g2, 0, none⟩) := by simpa using hr
  simp only [results, h]
  simp [hr', asAddr, L2, Sem.run_bind, Result.andThen]

theorem load_tok {w : World} {g : Nat} {cs : Array Value} (hg : Blk w g (.cells cs 37 (0, 0))) (hs : cs.size = 6) : (loadVar 37 ⟨g, 0, none⟩).run Tryd.prog w = .ok (.agg cs) w :=
  run_loadVar_row w g _ _ cs _ _ hg Tryd.underlying37 rfl (by rw [hs]; kernel_rfl)
theorem load_pl {w : World} {g : Nat} {cs : Array Value} (hg : Blk w g (.cells cs 27 (0, 0))) (hs : cs.size = 4) : (loadVar 27 ⟨g, 0, none⟩).run Tryd.prog w = .ok (.agg cs) w :=
  run_loadVar_row w g _ _ cs _ _ hg Tryd.underlying27 rfl (by rw [hs]; kernel_rfl)


theorem TkF.setK {w wr : World} {b : Nat} {S : ByteArray} {pre : List Nat} {p : Pl} {k : Int} {s : ByteArray} (F : TkF w wr w.heap.size b S pre p k s) (hlt : b < w.heap.size) (k' : Int) :
    TkF w (wr.setCell ⟨w.heap.size + 1 + 1 + 1, 0, none⟩ (.int .i64 k')) w.heap.size b S pre p k' s :=
  ⟨F.t2.set_ne _ _ (by simp; omega), F.t4.set_ne _ _ (by simp), F.t5.set_ne _ _ (by simp), F.t6.setOff 0 _, F.rd.set_ne _ _ (by simp; omega), F.fr.setCell _ (by simp; omega), rfl⟩
theorem TkF.setS {w wr : World} {b : Nat} {S : ByteArray} {pre : List Nat} {p : Pl} {k : Int} {s : ByteArray} (F : TkF w wr w.heap.size b S pre p k s) (hlt : b < w.heap.size) (s' : ByteArray) :
    TkF w (wr.setCell ⟨w.heap.size + 1 + 1 + 1, 1, none⟩ (.string s')) w.heap.size b S pre p k s' :=
  ⟨F.t2.set_ne _ _ (by simp; omega), F.t4.set_ne _ _ (by simp), F.t5.set_ne _ _ (by simp), F.t6.setOff 1 _, F.rd.set_ne _ _ (by simp; omega), F.fr.setCell _ (by simp; omega), rfl⟩

/-- the world behind an exit -/
theorem TkF.exit {w wr : World} {b : Nat} {S : ByteArray} {pre : List Nat} {p : Pl} {k : Int} {s : ByteArray} (F : TkF w wr w.heap.size b S pre p k s) (hlt : b < w.heap.size) (W : World)
    (hW : W = ((((((((((wr.setCell ⟨w.heap.size, 0, none⟩ (.int .i64 k)).setCell ⟨w.heap.size, 1, none⟩ (.string s)).setCell ⟨w.heap.size, 2, none⟩ (.int .i64 p.b)).setCell ⟨w.heap.size, 3, none⟩ (.int .i64 p.g)).setCell ⟨w.heap.size, 4, none⟩ (.int .i64 p.l)).setCell ⟨w.heap.size, 5, none⟩ (.int .i64 p.c)).setCell
      ⟨w.heap.size + 1, 0, none⟩ (.int .i64 p.b)).setCell ⟨w.heap.size + 1, 1, none⟩ (.int .i64 p.g)).setCell ⟨w.heap.size + 1, 2, none⟩ (.int .i64 p.l)).setCell ⟨w.heap.size + 1, 3, none⟩ (.int .i64 p.c)).drew) :
    Blk W w.heap.size (tokO k s p) ∧ Blk W (w.heap.size + 1) (plO p) ∧ Rd W b S pre ∧ Fr (· = b) w W := by
  subst hW
  refine ⟨?_, ?_, ?_, ?_⟩
  · exact ((((((((((F.t2.setOff 0 _).setOff 1 _).setOff 2 _).setOff 3 _).setOff 4 _).setOff 5 _).set_ne _ _ (by simp)).set_ne _ _ (by simp)).set_ne _ _ (by simp)).set_ne _ _ (by simp)).drew
  · exact ((((((((((F.t4.set_ne _ _ (by simp)).set_ne _ _ (by simp)).set_ne _ _ (by simp)).set_ne _ _ (by simp)).set_ne _ _ (by simp)).set_ne _ _ (by simp)).setOff 0 _).setOff 1 _).setOff 2 _).setOff 3 _).drew
  · exact ((((((((((F.rd.set_ne _ _ (by simp; omega)).set_ne _ _ (by simp; omega)).set_ne _ _ (by simp; omega)).set_ne _ _ (by simp; omega)).set_ne _ _ (by simp; omega)).set_ne _ _ (by simp; omega)).set_ne _ _ (by simp; omega)).set_ne _ _ (by simp; omega)).set_ne _ _ (by simp; omega)).set_ne _ _ (by simp; omega)).drew
  · exact ((((((((((F.fr.setCell _ (by simp)).setCell _ (by simp)).setCell _ (by simp)).setCell _ (by simp)).setCell _ (by simp)).setCell _ (by simp)).setCell _ (by simp; omega)).setCell _ (by simp; omega)).setCell _ (by simp; omega)).setCell _ (by simp; omega)).drew

set_option maxRecDepth 100000 in
set_option maxHeartbeats 2000000 in
theorem rtoken_end {S : ByteArray} {pre0 : List Nat} (T : Txt S.data.toList (pre0 ++ []) []) (hS : S.size ≤ 4096) {w : World} {b : Nat} (hb : Rd w b S pre0) :
    Calls Tryd.prog 37 #[ptrV b] w fun e w' => e = .returned (.tuple #[.agg (tokA 0 ⟨#[]⟩ (along start pre0)), .int .i64 0, .agg (plA (along start pre0))]) ∧ Rd w' b S pre0 ∧ Fr (· = b) w w' := by
  have hbb : Blk w b _ := hb
  have h1 := hbb.cell 1 _ rfl
  have h2 := hbb.cell 2 _ rfl
  have h3 := hbb.cell 3 _ rfl
  have h4 := hbb.cell 4 _ rfl
  have hlt := hbb.lt
  have F0 := TkF.init (along start pre0) hb
  go_enter Tryd.func37, Tryd.ntmps37
  go_wp2_with fail
  refine (Look_is (v := -1) T hS (b := b) F0.rd rfl).mono ?_
  rintro e w1 ⟨rfl, hq1⟩
  have F1 := F0.qd hq1
  clear F0 hq1 h1 h2 h3 h4
  go_wp2_with fail
  have g6_0 : w1.cell? ⟨w.heap.size + 1 + 1 + 1, 0, none⟩ = some (.int .i64 0) := F1.t6.cell 0 _ rfl
  have g6_1 : w1.cell? ⟨w.heap.size + 1 + 1 + 1, 1, none⟩ = some (.string ⟨#[]⟩) := F1.t6.cell 1 _ rfl
  have g6_2 : w1.cell? ⟨w.heap.size + 1 + 1 + 1, 2, none⟩ = some (.int .i64 (along start pre0).b) := F1.t6.cell 2 _ rfl
  have g6_3 : w1.cell? ⟨w.heap.size + 1 + 1 + 1, 3, none⟩ = some (.int .i64 (along start pre0).g) := F1.t6.cell 3 _ rfl
  have g6_4 : w1.cell? ⟨w.heap.size + 1 + 1 + 1, 4, none⟩ = some (.int .i64 (along start pre0).l) := F1.t6.cell 4 _ rfl
  have g6_5 : w1.cell? ⟨w.heap.size + 1 + 1 + 1, 5, none⟩ = some (.int .i64 (along start pre0).c) := F1.t6.cell 5 _ rfl
  have g5_0 : w1.cell? ⟨w.heap.size + 1 + 1, 0, none⟩ = some (.int .i64 (along start pre0).b) := F1.t5.cell 0 _ rfl
  have g5_1 : w1.cell? ⟨w.heap.size + 1 + 1, 1, none⟩ = some (.int .i64 (along start pre0).g) := F1.t5.cell 1 _ rfl
  have g5_2 : w1.cell? ⟨w.heap.size + 1 + 1, 2, none⟩ = some (.int .i64 (along start pre0).l) := F1.t5.cell 2 _ rfl
  have g5_3 : w1.cell? ⟨w.heap.size + 1 + 1, 3, none⟩ = some (.int .i64 (along start pre0).c) := F1.t5.cell 3 _ rfl
  have g2_0 : w1.cell? ⟨w.heap.size, 0, none⟩ = some (.int .i64 0) := F1.t2.cell 0 _ rfl
  have f2_0 := F1.t2.free 0
  have g2_1 : w1.cell? ⟨w.heap.size, 1, none⟩ = some (.string ⟨#[]⟩) := F1.t2.cell 1 _ rfl
  have f2_1 := F1.t2.free 1
  have g2_2 : w1.cell? ⟨w.heap.size, 2, none⟩ = some (.int .i64 0) := F1.t2.cell 2 _ rfl
  have f2_2 := F1.t2.free 2
  have g2_3 : w1.cell? ⟨w.heap.size, 3, none⟩ = some (.int .i64 0) := F1.t2.cell 3 _ rfl
  have f2_3 := F1.t2.free 3
  have g2_4 : w1.cell? ⟨w.heap.size, 4, none⟩ = some (.int .i64 0) := F1.t2.cell 4 _ rfl
  have f2_4 := F1.t2.free 4
  have g2_5 : w1.cell? ⟨w.heap.size, 5, none⟩ = some (.int .i64 0) := F1.t2.cell 5 _ rfl
  have f2_5 := F1.t2.free 5
  have g4_0 : w1.cell? ⟨w.heap.size + 1, 0, none⟩ = some (.int .i64 0) := F1.t4.cell 0 _ rfl
  have f4_0 := F1.t4.free 0
  have g4_1 : w1.cell? ⟨w.heap.size + 1, 1, none⟩ = some (.int .i64 0) := F1.t4.cell 1 _ rfl
  have f4_1 := F1.t4.free 1
  have g4_2 : w1.cell? ⟨w.heap.size + 1, 2, none⟩ = some (.int .i64 0) := F1.t4.cell 2 _ rfl
  have f4_2 := F1.t4.free 2
  have g4_3 : w1.cell? ⟨w.heap.size + 1, 3, none⟩ = some (.int .i64 0) := F1.t4.cell 3 _ rfl
  have f4_3 := F1.t4.free 3
  go_region
  go_wp2
  obtain ⟨e1, e2, e3, e4⟩ := F1.exit hlt _ rfl
  refine bodyPost_ret (results_ctc rfl _ _ _ _ _ _ rfl rfl (load_tok e1 rfl) (load_pl e2 rfl)) rfl ⟨rfl, e3, e4⟩
end Go.Proofs.YtklhfbgmadblcaaDoor
