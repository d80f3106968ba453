/- The program's scanner, its small parts. -/
import Derived.Test.YtlklijpjacmgpaaGreatDoorGa
import Derived.Test.YtlklijpjacmgpaaGreatDoorShelf
import Derived.Lib.OthersKept
import Derived.Deep.Cut
import Derived.Deep.RegionWith
import Derived.Deep.DeepCutAuto
import Derived.Deep.RegionHeld3
namespace Go.Proofs.YtlklijpjacmgpaaGreatDoor
open Go.RowKit
set_option linter.unusedVariables false
set_option linter.unusedSimpArgs false

theorem results_c {fn : Func} {p : Tmp} {t1 : TypeId} (h : fn.results = #[.cell p t1]) (tmps : Array Value) (w : World) (g1 : Nat) (cs1 : Array Value)
    (hp : tmps.getD p undef = .pointer (some ⟨g1, 0, none⟩))
    (L1 : (loadVar t1 ⟨g1, 0, none⟩).run Tryz.prog w = .ok (.agg cs1) w) :
    (results fn tmps).run Tryz.prog w = .ok (.agg cs1) w := by
  have hp' : tmps[p]?.getD undef = .pointer (some ⟨g1, 0, none⟩) := by simpa using hp
  simp only [results, h]
  simp [hp', asAddr, L1, Sem.run_bind, Result.andThen]
set_option maxHeartbeats 400000 in
theorem start_calls (w : World) : Calls Tryz.prog 102 #[] w fun e w' => e = .returned (.agg (plA start)) ∧ Fr No w w' := by
  go_enter Tryz.func102, Tryz.ntmps102
  go_wp2_with fail
  exact bodyPost_ret (results_c rfl _ _ w.heap.size (plA start) rfl (load_pl (Blk.new w (.cells (plA start) 26 (0, 0))) rfl)) rfl ⟨rfl, (Fr.refl No w).alloc _⟩
theorem pl_exit2 {w wr : World} {g : Nat} {q : Pl} (h : Blk wr g (plO q)) (hf : Fr No w wr) (hg : ¬ g < w.heap.size) (p : Pl) (W : World)
    (hW : W = (((wr.setCell ⟨g, 0, none⟩ (.int .i64 p.b)).setCell ⟨g, 1, none⟩ (.int .i64 p.g)).setCell ⟨g, 2, none⟩ (.int .i64 p.l)).setCell ⟨g, 3, none⟩ (.int .i64 p.c)) :
    Blk W g (plO p) ∧ Fr No w W := by
  subst hW
  refine ⟨(((h.setOff 0 _).setOff 1 _).setOff 2 _).setOff 3 _, ?_⟩
  exact (((hf.setCell _ (fun h => absurd h hg)).setCell _ (fun h => absurd h hg)).setCell _ (fun h => absurd h hg)).setCell _ (fun h => absurd h hg)
theorem runeLen_ok {c : Nat} (h : okc c = true) : Lib.runeLen (c : Int) = ((enc c).length : Nat) := by
  have hc := okc_iff.1 h
  unfold Lib.runeLen enc
  repeat' split
  all_goals first | rfl | (exfalso; omega) | skip
theorem runeLen_calls {c : Nat} (h : okc c = true) (w : World) : Calls Tryz.prog 107 #[.int .i32 c] w fun e w' => e = .returned (.int .i64 ((enc c).length : Nat)) ∧ w' = w := by
  rw [← runeLen_ok h]; exact Tryz.utf8_RuneLen (c : Int) w
/-- a code is a rune -/
theorem okc_lt {c : Nat} (h : okc c = true) : c < 1114112 := by have := okc_iff.1 h; omega
set_option maxRecDepth 100000 in
set_option maxHeartbeats 1000000 in
theorem behind_calls {c : Nat} (h : okc c = true) (p : Pl) (hp : p.fits 4096) (w : World) :
    Calls Tryz.prog 156 #[.agg (plA p), .int .i32 c] w fun e w' => e = .returned (.agg (plA (behind p c))) ∧ Fr No w w' := by
  obtain ⟨p1, p2, p3, p4⟩ := hp
  have hc := okc_lt h
  have hl := enc_le c
  obtain ⟨n, hn⟩ : ∃ n, (enc c).length = n := ⟨_, rfl⟩
  have hr := fun w => runeLen_calls h w
  rw [hn] at hr hl
  have HN := Lib.hid hn
  clear h hn
  have hB0 : Blk ((w.alloc (.cells (plA p) 26 (0, 0))).alloc (.cells #[.int .i64 0, .int .i64 0, .int .i64 0, .int .i64 0] 26 (0, 0))) w.heap.size (plO p) := (Blk.new w (plO p)).alloc _
  have hB1 : Blk ((w.alloc (.cells (plA p) 26 (0, 0))).alloc (.cells #[.int .i64 0, .int .i64 0, .int .i64 0, .int .i64 0] 26 (0, 0))) (w.heap.size + 1) (plO zeroPl) := by
    have := Blk.new (w.alloc (plO p)) (plO zeroPl)
    rw [show (w.alloc (plO p)).heap.size = w.heap.size + 1 by simp] at this
    exact this
  have hf : Fr No w ((w.alloc (.cells (plA p) 26 (0, 0))).alloc (.cells #[.int .i64 0, .int .i64 0, .int .i64 0, .int .i64 0] 26 (0, 0))) := ((Fr.refl No w).alloc _).alloc _
  have step : ∀ (w1 : World) (x : Int), Blk w1 w.heap.size (plO p) → Blk w1 (w.heap.size + 1) (plO zeroPl) → Fr No w w1 → x = (p.b : Int) + (n : Int) →
      Blk ((w1.setCell ⟨w.heap.size, 0, none⟩ (.int .i64 x)).drew) w.heap.size (plO { p with b := p.b + n }) ∧ Blk ((w1.setCell ⟨w.heap.size, 0, none⟩ (.int .i64 x)).drew) (w.heap.size + 1) (plO zeroPl) ∧ Fr No w ((w1.setCell ⟨w.heap.size, 0, none⟩ (.int .i64 x)).drew) := by
    rintro w1 x h1 h2 h3 rfl
    exact ⟨(h1.setOff 0 _).drew, (h2.set_ne _ _ (by simp)).drew, (h3.setCell _ (by simp)).drew⟩
  by_cases h10 : c = 10
  · have hz : ((c : Int) == 10) = true := by simp; omega
    have H10 := Lib.hid h10
    clear h10
    go_enter Tryz.func156, Tryz.ntmps156
    go_wp2_with fail
    generalize ((w.alloc (.cells (plA p) 26 (0, 0))).alloc (.cells #[.int .i64 0, .int .i64 0, .int .i64 0, .int .i64 0] 26 (0, 0))) = w1 at hB0 hB1 hf ⊢
    have g0 : w1.cell? ⟨w.heap.size, 0, none⟩ = some (.int .i64 p.b) := hB0.cell 0 _ rfl
    have f0 := hB0.free 0
    have hx := IntWalk.i64_in ((p.b : Int) + (n : Int)) (by omega)
    go_region_with ((refine (hr _).mono ?_; rintro e w' ⟨rfl, rfl⟩))
    all_goals
      obtain ⟨k0, k1, k2⟩ := step w1 _ hB0 hB1 hf rfl
      generalize (w1.setCell ⟨w.heap.size, 0, none⟩ (.int .i64 ((p.b : Int) + (n : Int)))).drew = w2 at k0 k1 k2 ⊢
      clear hB0 hB1 hf g0 f0 hr step hx
      have g1 : w2.cell? ⟨w.heap.size, 1, none⟩ = some (.int .i64 p.g) := k0.cell 1 _ rfl
      have g2 : w2.cell? ⟨w.heap.size, 2, none⟩ = some (.int .i64 p.l) := k0.cell 2 _ rfl
      have g3 : w2.cell? ⟨w.heap.size, 3, none⟩ = some (.int .i64 p.c) := k0.cell 3 _ rfl
      have g0 : w2.cell? ⟨w.heap.size, 0, none⟩ = some (.int .i64 ((p.b : Int) + (n : Int))) := k0.cell 0 _ (by simp)
      have f1 := k0.free 1
      have f2 := k0.free 2
      have f3 := k0.free 3
      go_upto_region 7 with (fail)
      have q0 : Blk _ w.heap.size (plO (behind p c)) := ((((k0.setOff 1 (.int .i64 ((p.g : Int) + 1))).setOff 3 (.int .i64 ((p.c : Int) + 1))).setOff 2 (.int .i64 ((p.l : Int) + 1))).setOff 3 (.int .i64 1)).cast (by have h1 := H10.out; have h2 := HN.out; subst h1; subst h2; simp [plO, behind])
      have q1 := (((k1.set_ne ⟨w.heap.size, 1, none⟩ (.int .i64 ((p.g : Int) + 1)) (by simp)).set_ne ⟨w.heap.size, 3, none⟩ (.int .i64 ((p.c : Int) + 1)) (by simp)).set_ne ⟨w.heap.size, 2, none⟩ (.int .i64 ((p.l : Int) + 1)) (by simp)).set_ne ⟨w.heap.size, 3, none⟩ (.int .i64 1) (by simp)
      have q2 := (((k2.setCell (a := ⟨w.heap.size, 1, none⟩) (.int .i64 ((p.g : Int) + 1)) (by simp)).setCell (a := ⟨w.heap.size, 3, none⟩) (.int .i64 ((p.c : Int) + 1)) (by simp)).setCell (a := ⟨w.heap.size, 2, none⟩) (.int .i64 ((p.l : Int) + 1)) (by simp)).setCell (a := ⟨w.heap.size, 3, none⟩) (.int .i64 1) (by simp)
      generalize (((w2.setCell ⟨w.heap.size, 1, none⟩ (.int .i64 ((p.g : Int) + 1))).setCell ⟨w.heap.size, 3, none⟩ (.int .i64 ((p.c : Int) + 1))).setCell ⟨w.heap.size, 2, none⟩ (.int .i64 ((p.l : Int) + 1))).setCell ⟨w.heap.size, 3, none⟩ (.int .i64 1) = w3 at q0 q1 q2 ⊢
      clear k0 k1 k2 g0 g1 g2 g3 f1 f2 f3
      obtain ⟨q, hqq⟩ : ∃ q, behind p c = q := ⟨_, rfl⟩
      rw [hqq] at q0
      have HQ := Lib.hid hqq
      clear hqq
      have g0 : w3.cell? ⟨w.heap.size, 0, none⟩ = some (.int .i64 q.b) := q0.cell 0 _ rfl
      have g1 : w3.cell? ⟨w.heap.size, 1, none⟩ = some (.int .i64 q.g) := q0.cell 1 _ rfl
      have g2 : w3.cell? ⟨w.heap.size, 2, none⟩ = some (.int .i64 q.l) := q0.cell 2 _ rfl
      have g3 : w3.cell? ⟨w.heap.size, 3, none⟩ = some (.int .i64 q.c) := q0.cell 3 _ rfl
      have r0 : w3.cell? ⟨w.heap.size + 1, 0, none⟩ = some (.int .i64 0) := q1.cell 0 _ rfl
      have r1 : w3.cell? ⟨w.heap.size + 1, 1, none⟩ = some (.int .i64 0) := q1.cell 1 _ rfl
      have r2 : w3.cell? ⟨w.heap.size + 1, 2, none⟩ = some (.int .i64 0) := q1.cell 2 _ rfl
      have r3 : w3.cell? ⟨w.heap.size + 1, 3, none⟩ = some (.int .i64 0) := q1.cell 3 _ rfl
      have v0 := q1.free 0
      have v1 := q1.free 1
      have v2 := q1.free 2
      have v3 := q1.free 3
      go_wp2_with fail
      obtain ⟨e1, e2⟩ := pl_exit2 q1 q2 (by simp) q _ rfl
      rw [HQ.out]
      exact bodyPost_ret (results_c rfl _ _ _ _ rfl (load_pl e1 rfl)) rfl ⟨rfl, e2⟩
  · have hz : ((c : Int) == 10) = false := by simp; omega
    have H10 := Lib.hid h10
    clear h10
    go_enter Tryz.func156, Tryz.ntmps156
    go_wp2_with fail
    generalize ((w.alloc (.cells (plA p) 26 (0, 0))).alloc (.cells #[.int .i64 0, .int .i64 0, .int .i64 0, .int .i64 0] 26 (0, 0))) = w1 at hB0 hB1 hf ⊢
    have g0 : w1.cell? ⟨w.heap.size, 0, none⟩ = some (.int .i64 p.b) := hB0.cell 0 _ rfl
    have f0 := hB0.free 0
    have hx := IntWalk.i64_in ((p.b : Int) + (n : Int)) (by omega)
    go_region_with ((refine (hr _).mono ?_; rintro e w' ⟨rfl, rfl⟩))
    all_goals
      obtain ⟨k0, k1, k2⟩ := step w1 _ hB0 hB1 hf rfl
      generalize (w1.setCell ⟨w.heap.size, 0, none⟩ (.int .i64 ((p.b : Int) + (n : Int)))).drew = w2 at k0 k1 k2 ⊢
      clear hB0 hB1 hf g0 f0 hr step hx
      have g1 : w2.cell? ⟨w.heap.size, 1, none⟩ = some (.int .i64 p.g) := k0.cell 1 _ rfl
      have g2 : w2.cell? ⟨w.heap.size, 2, none⟩ = some (.int .i64 p.l) := k0.cell 2 _ rfl
      have g3 : w2.cell? ⟨w.heap.size, 3, none⟩ = some (.int .i64 p.c) := k0.cell 3 _ rfl
      have g0 : w2.cell? ⟨w.heap.size, 0, none⟩ = some (.int .i64 ((p.b : Int) + (n : Int))) := k0.cell 0 _ (by simp)
      have f1 := k0.free 1
      have f2 := k0.free 2
      have f3 := k0.free 3
      go_upto_region 7 with (fail)
      have q0 : Blk _ w.heap.size (plO (behind p c)) := ((k0.setOff 1 (.int .i64 ((p.g : Int) + 1))).setOff 3 (.int .i64 ((p.c : Int) + 1))).cast (by have h1 := H10.out; have h2 := HN.out; subst h2; simp [plO, behind, h1])
      have q1 := (k1.set_ne ⟨w.heap.size, 1, none⟩ (.int .i64 ((p.g : Int) + 1)) (by simp)).set_ne ⟨w.heap.size, 3, none⟩ (.int .i64 ((p.c : Int) + 1)) (by simp)
      have q2 := (k2.setCell (a := ⟨w.heap.size, 1, none⟩) (.int .i64 ((p.g : Int) + 1)) (by simp)).setCell (a := ⟨w.heap.size, 3, none⟩) (.int .i64 ((p.c : Int) + 1)) (by simp)
      generalize (w2.setCell ⟨w.heap.size, 1, none⟩ (.int .i64 ((p.g : Int) + 1))).setCell ⟨w.heap.size, 3, none⟩ (.int .i64 ((p.c : Int) + 1)) = w3 at q0 q1 q2 ⊢
      clear k0 k1 k2 g0 g1 g2 g3 f1 f2 f3
      obtain ⟨q, hqq⟩ : ∃ q, behind p c = q := ⟨_, rfl⟩
      rw [hqq] at q0
      have HQ := Lib.hid hqq
      clear hqq
      have g0 : w3.cell? ⟨w.heap.size, 0, none⟩ = some (.int .i64 q.b) := q0.cell 0 _ rfl
      have g1 : w3.cell? ⟨w.heap.size, 1, none⟩ = some (.int .i64 q.g) := q0.cell 1 _ rfl
      have g2 : w3.cell? ⟨w.heap.size, 2, none⟩ = some (.int .i64 q.l) := q0.cell 2 _ rfl
      have g3 : w3.cell? ⟨w.heap.size, 3, none⟩ = some (.int .i64 q.c) := q0.cell 3 _ rfl
      have r0 : w3.cell? ⟨w.heap.size + 1, 0, none⟩ = some (.int .i64 0) := q1.cell 0 _ rfl
      have r1 : w3.cell? ⟨w.heap.size + 1, 1, none⟩ = some (.int .i64 0) := q1.cell 1 _ rfl
      have r2 : w3.cell? ⟨w.heap.size + 1, 2, none⟩ = some (.int .i64 0) := q1.cell 2 _ rfl
      have r3 : w3.cell? ⟨w.heap.size + 1, 3, none⟩ = some (.int .i64 0) := q1.cell 3 _ rfl
      have v0 := q1.free 0
      have v1 := q1.free 1
      have v2 := q1.free 2
      have v3 := q1.free 3
      go_wp2_with fail
      obtain ⟨e1, e2⟩ := pl_exit2 q1 q2 (by simp) q _ rfl
      rw [HQ.out]
      exact bodyPost_ret (results_c rfl _ _ _ _ rfl (load_pl e1 rfl)) rfl ⟨rfl, e2⟩
end Go.Proofs.YtlklijpjacmgpaaGreatDoor

namespace Go.Proofs.YtlklijpjacmgpaaGreatDoor
open Go.RowKit
set_option linter.unusedVariables false
set_option linter.unusedSimpArgs false

/-- the tables of the decoder -/
def Tb (w : World) : Prop := Lib.Utf8Tabs 0 1 w
theorem Tb.fr {w w' : World} {S : Nat → Prop} (h : Tb w) (f : Fr S w w') (h0 : ¬ S 0) (h1 : ¬ S 1) : Tb w' := by
  have lt : ∀ {b i : Nat} {v : Value}, w.cell? ⟨b, i, none⟩ = some v → b < w.heap.size := fun {b i v} hc => by
    by_cases hb : b < w.heap.size
    · exact hb
    · simp [World.cell?, Array.getElem?_eq_none (Nat.le_of_not_lt hb)] at hc
  have keep : ∀ {b i : Nat} {v : Value}, ¬ S b → w.cell? ⟨b, i, none⟩ = some v → w'.cell? ⟨b, i, none⟩ = some v := fun {b i v} hb hc => by
    have := f.block b (lt hc) hb
    simp only [World.cell?] at hc ⊢
    rw [this]; exact hc
  exact ⟨fun c hc => keep h0 (h.1 c hc), fun i hi => ⟨keep h1 (h.2 i hi).1, keep h1 (h.2 i hi).2⟩⟩
theorem Tb.no {w w' : World} (h : Tb w) (f : Fr No w w') : Tb w' := h.fr f (fun x => x) (fun x => x)
theorem Tb.ne {w : World} {b : Nat} {s : ByteArray} (h : Tb w) (hc : w.cell? ⟨b, 0, none⟩ = some (.string s)) : ¬ (0 = b) ∧ ¬ (1 = b) := by
  constructor
  · rintro rfl
    have := h.1 0 (by omega)
    rw [hc] at this; cases this
  · rintro rfl
    have := (h.2 0 (by omega)).1
    rw [hc] at this; cases this
/-- what is left of a text -/
def tx (cs : List Nat) (t : List UInt8) : ByteArray := ⟨(cs.flatMap enc ++ t).toArray⟩
theorem tx_list (cs : List Nat) (t : List UInt8) : (tx cs t).data.toList = cs.flatMap enc ++ t := rfl
theorem tx_of {S : ByteArray} {cs : List Nat} {t : List UInt8} (T : Txt S.data.toList cs t) : S = tx cs t := by
  have := T.eq
  unfold tx
  rw [← this]
theorem tx_txt {l : List UInt8} {pre cs : List Nat} {t : List UInt8} (T : Txt l (pre ++ cs) t) : Txt (tx cs t).data.toList cs t :=
  ⟨rfl, fun c hc => T.ok c (List.mem_append_right _ hc), T.stop⟩
theorem tx_size {S : ByteArray} {pre cs : List Nat} {t : List UInt8} (T : Txt S.data.toList (pre ++ cs) t) (hS : S.size ≤ 4096) : (tx cs t).size ≤ 4096 := by
  have := T.len
  rw [Lib.size_eq] at hS ⊢
  rw [tx_list]
  simp only [List.flatMap_append, List.length_append] at this ⊢
  omega
theorem tx_cons_size {cs : List Nat} {c : Nat} {t : List UInt8} : (tx (c :: cs) t).size = (enc c).length + (tx cs t).size := by
  rw [Lib.size_eq, Lib.size_eq, tx_list, tx_list]; simp
theorem tx_pos {cs : List Nat} {c : Nat} {t : List UInt8} : 0 < (tx (c :: cs) t).size := by
  have := enc_pos c
  rw [tx_cons_size]; omega
theorem decode_tx {cs : List Nat} {c : Nat} {t : List UInt8} (h : okc c = true) : Utf8.decode (tx (c :: cs) t) 0 = (c, (enc c).length) := by
  obtain ⟨b, r, hbr⟩ : ∃ b r, (tx (c :: cs) t).data.toList = b :: r := by
    cases hq : (tx (c :: cs) t).data.toList with
    | nil =>
      have := tx_pos (c := c) (cs := cs) (t := t)
      rw [Lib.size_eq, hq] at this; simp at this
    | cons b r => exact ⟨b, r, rfl⟩
  rw [decode_head _ b r hbr, ← hbr, tx_list, List.flatMap_cons, List.append_assoc, dec_enc h]; rfl
theorem decode_bad {t : List UInt8} (h0 : t ≠ []) (h : dec t = none) : Utf8.decode (tx [] t) 0 = (65533, 1) := by
  obtain ⟨b, r, rfl⟩ : ∃ b r, t = b :: r := by
    cases t with
    | nil => exact absurd rfl h0
    | cons b r => exact ⟨b, r, rfl⟩
  rw [decode_head _ b r (by rw [tx_list]; rfl), h]; rfl
theorem go_tx {cs : List Nat} {c : Nat} {t : List UInt8} (h : okc c = true) : Lib.decodeGo (tx (c :: cs) t) = (c, (enc c).length) := by
  unfold Lib.decodeGo
  rw [if_neg (by have := tx_pos (c := c) (cs := cs) (t := t); omega), decode_tx h]
theorem go_bad {t : List UInt8} (h0 : t ≠ []) (h : dec t = none) : Lib.decodeGo (tx [] t) = (65533, 1) := by
  have : (tx [] t).size ≠ 0 := by
    rw [Lib.size_eq, tx_list]
    cases t with
    | nil => exact absurd rfl h0
    | cons b r => simp
  unfold Lib.decodeGo
  rw [if_neg this, decode_bad h0 h]
theorem drune_calls (s : ByteArray) (w : World) (hT : Tb w) {c n : Nat} (h : Lib.decodeGo s = (c, n)) :
    Calls Tryz.prog 155 #[.string s] w fun e w' => e = .returned (.tuple #[.int .i32 c, .int .i64 n]) ∧ Fr No w w' :=
  (Tryz.utf8_DecodeRuneInString s w hT).mono fun e w' hh => ⟨by rw [hh.1, h], Fr.of_below hh.2⟩
set_option maxHeartbeats 400000 in
/-- broken: false where a code point begins -/
theorem broken_no {cs : List Nat} {c : Nat} {t : List UInt8} (h : okc c = true) (w : World) (hT : Tb w) :
    Calls Tryz.prog 157 #[.string (tx (c :: cs) t), .int .i32 c] w fun e w' => e = .returned (.bool false) ∧ Fr No w w' := by
  by_cases he : c = 65533
  · subst he
    have hd := go_tx (cs := cs) (t := t) h
    have h3 : (enc 65533).length = 3 := rfl
    rw [h3] at hd
    go_enter Tryz.func157, Tryz.ntmps157
    go_wp2_with fail
    refine (drune_calls _ w hT hd).mono ?_
    rintro e w1 ⟨rfl, hf⟩
    go_wp2_with fail
    go_ret
    exact ⟨rfl, hf⟩
  · have hz : ((c : Int) != 65533) = true := by simp; omega
    go_enter Tryz.func157, Tryz.ntmps157
    go_wp2_with fail
    go_ret
    exact ⟨rfl, Fr.refl _ _⟩
set_option maxHeartbeats 400000 in
theorem broken_yes {t : List UInt8} (h0 : t ≠ []) (h : dec t = none) (w : World) (hT : Tb w) :
    Calls Tryz.prog 157 #[.string (tx [] t), .int .i32 65533] w fun e w' => e = .returned (.bool true) ∧ Fr No w w' := by
  have hd := go_bad h0 h
  go_enter Tryz.func157, Tryz.ntmps157
  go_wp2_with fail
  refine (drune_calls _ w hT hd).mono ?_
  rintro e w1 ⟨rfl, hf⟩
  go_wp2_with fail
  go_ret
  exact ⟨rfl, hf⟩
/-- the scanner: what is left, where that begins, the error and its place -/
def scO (s : ByteArray) (p : Pl) (code : Int) (bad : Pl) : Obj := .cells #[.string s, .int .i64 p.b, .int .i64 p.g, .int .i64 p.l, .int .i64 p.c, .int .i64 code, .int .i64 bad.b, .int .i64 bad.g, .int .i64 bad.l, .int .i64 bad.c] 198 (0, 0)
def Sc (w : World) (b : Nat) (cs : List Nat) (t : List UInt8) (p : Pl) (code : Int) (bad : Pl) : Prop := Blk w b (scO (tx cs t) p code bad)
theorem Sc.blk {w : World} {b : Nat} {cs : List Nat} {t : List UInt8} {p : Pl} {code : Int} {bad : Pl} (h : Sc w b cs t p code bad) : Blk w b (scO (tx cs t) p code bad) := h
theorem Sc.no {w w' : World} {b : Nat} {cs : List Nat} {t : List UInt8} {p : Pl} {code : Int} {bad : Pl} (h : Sc w b cs t p code bad) (f : Fr No w w') : Sc w' b cs t p code bad := Blk.fr h f (fun x => x)
theorem Tb.sc {w : World} {b : Nat} {cs : List Nat} {t : List UInt8} {p : Pl} {code : Int} {bad : Pl} (hT : Tb w) (h : Sc w b cs t p code bad) : ¬ (0 = b) ∧ ¬ (1 = b) :=
  hT.ne (h.blk.cell 0 _ rfl)
theorem set_bad {w : World} {b : Nat} {s : ByteArray} {p : Pl} {code : Int} {bad : Pl} (h : Blk w b (scO s p code bad)) (e : Int) (q : Pl) (W : World)
    (hW : W = ((((w.setCell ⟨b, 5, none⟩ (.int .i64 e)).setCell ⟨b, 6, none⟩ (.int .i64 q.b)).setCell ⟨b, 7, none⟩ (.int .i64 q.g)).setCell ⟨b, 8, none⟩ (.int .i64 q.l)).setCell ⟨b, 9, none⟩ (.int .i64 q.c)) :
    Blk W b (scO s p e q) ∧ Fr (· = b) w W := by
  subst hW
  refine ⟨((((h.setOff 5 _).setOff 6 _).setOff 7 _).setOff 8 _).setOff 9 _, ?_⟩
  with_reducible repeat (first | refine Fr.setCell ?_ _ (fun _ => rfl) | exact Fr.refl _ _)
set_option maxHeartbeats 1000000 in
theorem early_calls (b : Nat) (s : ByteArray) (p : Pl) (code : Int) (bad : Pl) (w : World) (hb : Blk w b (scO s p code bad)) (e0 : Int) (q : Pl) :
    Calls Tryz.prog 139 #[ptrV b, .int .i64 e0, .agg (plA q)] w fun e w' => e = .returned (.tuple #[]) ∧ Blk w' b (scO s p e0 q) ∧ Fr (· = b) w w' := by
  have hlt := hb.lt
  have hbn : Blk (w.alloc (.cells (plA q) 26 (0, 0))) b (scO s p code bad) := hb.alloc _
  have hq : Blk (w.alloc (.cells (plA q) 26 (0, 0))) w.heap.size (plO q) := Blk.new _ _
  have hf : Fr (· = b) w (w.alloc (.cells (plA q) 26 (0, 0))) := (Fr.refl _ _).alloc _
  go_enter Tryz.func139, Tryz.ntmps139
  go_wp2_with fail
  generalize w.alloc (.cells (plA q) 26 (0, 0)) = w1 at hbn hq hf ⊢
  have g0 : w1.cell? ⟨w.heap.size, 0, none⟩ = some (.int .i64 q.b) := hq.cell 0 _ rfl
  have g1 : w1.cell? ⟨w.heap.size, 1, none⟩ = some (.int .i64 q.g) := hq.cell 1 _ rfl
  have g2 : w1.cell? ⟨w.heap.size, 2, none⟩ = some (.int .i64 q.l) := hq.cell 2 _ rfl
  have g3 : w1.cell? ⟨w.heap.size, 3, none⟩ = some (.int .i64 q.c) := hq.cell 3 _ rfl
  have r5 : w1.cell? ⟨b, 5, none⟩ = some (.int .i64 code) := hbn.cell 5 _ rfl
  have r6 : w1.cell? ⟨b, 6, none⟩ = some (.int .i64 bad.b) := hbn.cell 6 _ rfl
  have r7 : w1.cell? ⟨b, 7, none⟩ = some (.int .i64 bad.g) := hbn.cell 7 _ rfl
  have r8 : w1.cell? ⟨b, 8, none⟩ = some (.int .i64 bad.l) := hbn.cell 8 _ rfl
  have r9 : w1.cell? ⟨b, 9, none⟩ = some (.int .i64 bad.c) := hbn.cell 9 _ rfl
  have f5 := hbn.free 5
  have f6 := hbn.free 6
  have f7 := hbn.free 7
  have f8 := hbn.free 8
  have f9 := hbn.free 9
  have hne : b ≠ w.heap.size := by omega
  have hne2 : w.heap.size ≠ b := by omega
  go_region
  go_wp2_with fail
  obtain ⟨e1, e2⟩ := set_bad hbn e0 q _ rfl
  go_end0
  exact ⟨rfl, e1.drew, hf.call e2.drew (fun _ _ x => x)⟩
set_option maxHeartbeats 1000000 in
theorem fail_first (b : Nat) (s : ByteArray) (p : Pl) (bad : Pl) (w : World) (hb : Blk w b (scO s p 0 bad)) (e0 : Int) (q : Pl) :
    Calls Tryz.prog 142 #[ptrV b, .int .i64 e0, .agg (plA q)] w fun e w' => e = .returned (.tuple #[]) ∧ Blk w' b (scO s p e0 q) ∧ Fr (· = b) w w' := by
  have hlt := hb.lt
  have hbn : Blk (w.alloc (.cells (plA q) 26 (0, 0))) b (scO s p 0 bad) := hb.alloc _
  have hq : Blk (w.alloc (.cells (plA q) 26 (0, 0))) w.heap.size (plO q) := Blk.new _ _
  have hf : Fr (· = b) w (w.alloc (.cells (plA q) 26 (0, 0))) := (Fr.refl _ _).alloc _
  go_enter Tryz.func142, Tryz.ntmps142
  go_upto_region 1 with (fail)
  generalize w.alloc (.cells (plA q) 26 (0, 0)) = w1 at hbn hq hf ⊢
  have g0 : w1.cell? ⟨w.heap.size, 0, none⟩ = some (.int .i64 q.b) := hq.cell 0 _ rfl
  have g1 : w1.cell? ⟨w.heap.size, 1, none⟩ = some (.int .i64 q.g) := hq.cell 1 _ rfl
  have g2 : w1.cell? ⟨w.heap.size, 2, none⟩ = some (.int .i64 q.l) := hq.cell 2 _ rfl
  have g3 : w1.cell? ⟨w.heap.size, 3, none⟩ = some (.int .i64 q.c) := hq.cell 3 _ rfl
  have r5 : w1.cell? ⟨b, 5, none⟩ = some (.int .i64 0) := hbn.cell 5 _ rfl
  have r6 : w1.cell? ⟨b, 6, none⟩ = some (.int .i64 bad.b) := hbn.cell 6 _ rfl
  have r7 : w1.cell? ⟨b, 7, none⟩ = some (.int .i64 bad.g) := hbn.cell 7 _ rfl
  have r8 : w1.cell? ⟨b, 8, none⟩ = some (.int .i64 bad.l) := hbn.cell 8 _ rfl
  have r9 : w1.cell? ⟨b, 9, none⟩ = some (.int .i64 bad.c) := hbn.cell 9 _ rfl
  have f5 := hbn.free 5
  have f6 := hbn.free 6
  have f7 := hbn.free 7
  have f8 := hbn.free 8
  have f9 := hbn.free 9
  have hne : b ≠ w.heap.size := by omega
  have hne2 : w.heap.size ≠ b := by omega
  go_wp2_with fail
  go_region
  go_wp2_with fail
  obtain ⟨e1, e2⟩ := set_bad hbn e0 q _ rfl
  go_end0
  exact ⟨rfl, e1.drew, hf.call e2.drew (fun _ _ x => x)⟩
set_option maxHeartbeats 1000000 in
theorem fail_again (b : Nat) (s : ByteArray) (p : Pl) (code : Int) (bad : Pl) (w : World) (hb : Blk w b (scO s p code bad)) (hc : code ≠ 0) (e0 : Int) (q : Pl) :
    Calls Tryz.prog 142 #[ptrV b, .int .i64 e0, .agg (plA q)] w fun e w' => e = .returned (.tuple #[]) ∧ Fr No w w' := by
  have hlt := hb.lt
  have hcz : (code == 0) = false := by simpa using hc
  have hbn : Blk (w.alloc (.cells (plA q) 26 (0, 0))) b (scO s p code bad) := hb.alloc _
  have hf : Fr No w (w.alloc (.cells (plA q) 26 (0, 0))) := (Fr.refl _ _).alloc _
  go_enter Tryz.func142, Tryz.ntmps142
  go_upto_region 1 with (fail)
  generalize w.alloc (.cells (plA q) 26 (0, 0)) = w1 at hbn hf ⊢
  have r5 : w1.cell? ⟨b, 5, none⟩ = some (.int .i64 code) := hbn.cell 5 _ rfl
  go_wp2_with fail
  go_end0
  exact ⟨rfl, hf⟩
/-- next, where a code point stands -/
theorem next_some {cs : List Nat} {c : Nat} {t : List UInt8} (h : okc c = true) {w : World} {b : Nat} {p : Pl} {code : Int} {bad : Pl} (hb : Sc w b (c :: cs) t p code bad) (hT : Tb w) :
    Calls Tryz.prog 136 #[ptrV b] w fun e w' => e = .returned (.int .i64 c) ∧ Fr No w w' := by
  have hlt := hb.blk.lt
  have hc := okc_lt h
  have hd := decode_tx (cs := cs) (t := t) h
  have hp := tx_pos (c := c) (cs := cs) (t := t)
  have r0 : w.cell? ⟨b, 0, none⟩ = some (.string (tx (c :: cs) t)) := hb.blk.cell 0 _ rfl
  go_enter Tryz.func136, Tryz.ntmps136
  go_wp2_with fail
  go_loopg [2] 0 (fun gk x2 wr => wr = w.iter (tx (c :: cs) t) 0 ∧ x2 = .int .i64 0)
  case atStart => exact ⟨rfl, rfl⟩
  case round =>
    obtain ⟨rfl, rfl⟩ := hrel
    have hit := World.iter_heap w (tx (c :: cs) t) 0
    have hnx : ∀ ty, (Instr.next (.pointer (some ⟨w.heap.size, 0, none⟩)) true ty).run Tryz.prog (w.iter (tx (c :: cs) t) 0) = _ := fun ty => Lib.run_next_any_at _ _ _ 0 ty hit hp
    rw [hd] at hnx
    have hf : Fr No w ((w.iter (tx (c :: cs) t) 0).iterAt w.heap.size (tx (c :: cs) t) (0 + (enc c).length)) := Fr.of_below (Lib.below_iterAt ((Below.refl _ w).alloc (Nat.le_refl _) _) (Nat.le_refl _) _ _)
    generalize (w.iter (tx (c :: cs) t) 0).iterAt w.heap.size (tx (c :: cs) t) (0 + (enc c).length) = w1 at hnx hf
    have hb1 := hb.no hf
    have hT1 := hT.no hf
    have r1 : w1.cell? ⟨b, 0, none⟩ = some (.string (tx (c :: cs) t)) := hb1.blk.cell 0 _ rfl
    go_wp2_with fail
    refine (broken_no h _ hT1).mono ?_
    rintro e w2 ⟨rfl, hf2⟩
    go_wp2_with fail
    go_ret
    exact ⟨by simp, hf.callNo hf2⟩
/-- the error, where nothing stands -/
def fz (t : List UInt8) (p : Pl) (code : Int) (bad : Pl) : Int × Pl := if t = [] then (code, bad) else if code = 0 then (40, p) else (code, bad)
set_option maxHeartbeats 400000 in
/-- next, where no code point stands -/
theorem next_none {t : List UInt8} (h : dec t = none) {w : World} {b : Nat} {p : Pl} {code : Int} {bad : Pl} (hb : Sc w b [] t p code bad) (hT : Tb w) :
    Calls Tryz.prog 136 #[ptrV b] w fun e w' => e = .returned (.int .i64 (-1)) ∧ Sc w' b [] t p (fz t p code bad).1 (fz t p code bad).2 ∧ Fr (· = b) w w' := by
  have hlt := hb.blk.lt
  have r0 : w.cell? ⟨b, 0, none⟩ = some (.string (tx [] t)) := hb.blk.cell 0 _ rfl
  by_cases ht : t = []
  · subst ht
    have hz : ¬ 0 < (tx [] []).size := by rw [Lib.size_eq, tx_list]; simp
    go_enter Tryz.func136, Tryz.ntmps136
    go_wp2_with fail
    go_loopg [2] 0 (fun gk x2 wr => wr = w.iter (tx [] []) 0 ∧ x2 = .int .i64 0)
    case atStart => exact ⟨rfl, rfl⟩
    case round =>
      obtain ⟨rfl, rfl⟩ := hrel
      have hit := World.iter_heap w (tx [] []) 0
      have hnx : ∀ ty, (Instr.next (.pointer (some ⟨w.heap.size, 0, none⟩)) true ty).run Tryz.prog (w.iter (tx [] []) 0) = _ := fun ty => Lib.run_next_end_at _ _ _ 0 ty hit hz
      go_wp2_with fail
      go_ret
      refine ⟨by simp, ?_, ?_⟩
      · simp only [fz, if_true]; exact hb.alloc _
      · exact (Fr.refl _ _).alloc _
  · have hd := decode_bad ht h
    have hp : 0 < (tx [] t).size := by
      rw [Lib.size_eq, tx_list]
      cases t with
      | nil => exact absurd rfl ht
      | cons b r => simp
    have hfz : fz t p code bad = if code = 0 then (40, p) else (code, bad) := if_neg ht
    have HT := Lib.hid ht
    clear ht
    go_enter Tryz.func136, Tryz.ntmps136
    go_wp2_with fail
    go_loopg [2] 0 (fun gk x2 wr => wr = w.iter (tx [] t) 0 ∧ x2 = .int .i64 0)
    case atStart => exact ⟨rfl, rfl⟩
    case round =>
      obtain ⟨rfl, rfl⟩ := hrel
      have hit := World.iter_heap w (tx [] t) 0
      have hnx : ∀ ty, (Instr.next (.pointer (some ⟨w.heap.size, 0, none⟩)) true ty).run Tryz.prog (w.iter (tx [] t) 0) = _ := fun ty => Lib.run_next_any_at _ _ _ 0 ty hit hp
      rw [hd] at hnx
      have hf : Fr No w ((w.iter (tx [] t) 0).iterAt w.heap.size (tx [] t) (0 + 1)) := Fr.of_below (Lib.below_iterAt ((Below.refl _ w).alloc (Nat.le_refl _) _) (Nat.le_refl _) _ _)
      generalize (w.iter (tx [] t) 0).iterAt w.heap.size (tx [] t) (0 + 1) = w1 at hnx hf
      have hb1 := hb.no hf
      have hT1 := hT.no hf
      have r1 : w1.cell? ⟨b, 0, none⟩ = some (.string (tx [] t)) := hb1.blk.cell 0 _ rfl
      go_wp2_with fail
      refine (broken_yes HT.out h _ hT1).mono ?_
      rintro e w2 ⟨rfl, hf2⟩
      have hb2 := hb1.no hf2
      have hf3 := hf.callNo hf2
      clear hb1 hf hf2 r1 hnx hit hT1
      have q1 : w2.cell? ⟨b, 1, none⟩ = some (.int .i64 p.b) := hb2.blk.cell 1 _ rfl
      have q2 : w2.cell? ⟨b, 2, none⟩ = some (.int .i64 p.g) := hb2.blk.cell 2 _ rfl
      have q3 : w2.cell? ⟨b, 3, none⟩ = some (.int .i64 p.l) := hb2.blk.cell 3 _ rfl
      have q4 : w2.cell? ⟨b, 4, none⟩ = some (.int .i64 p.c) := hb2.blk.cell 4 _ rfl
      go_wp2_with fail
      by_cases hc : code = 0
      · subst hc
        refine (fail_first b _ p bad w2 hb2 40 p).mono ?_
        rintro e w3 ⟨rfl, hb3, hf4⟩
        go_wp2_with fail
        go_ret
        refine ⟨rfl, ?_, hf3.mono (fun _ _ x => x.elim) |>.call hf4 (fun _ _ x => x)⟩
        rw [hfz]; exact hb3
      · have HC := Lib.hid hc
        clear hc
        refine (fail_again b _ p code bad w2 hb2 HC.out 40 p).mono ?_
        rintro e w3 ⟨rfl, hf4⟩
        go_wp2_with fail
        go_ret
        refine ⟨rfl, ?_, (hf3.callNo hf4).mono (fun _ _ x => x.elim)⟩
        rw [hfz, if_neg HC.out]; exact hb2.no hf4
set_option maxHeartbeats 400000 in
theorem class_some {cs : List Nat} {c : Nat} {t : List UInt8} (h : okc c = true) {w : World} {b : Nat} {p : Pl} {code : Int} {bad : Pl} (hb : Sc w b (c :: cs) t p code bad) (hT : Tb w) :
    Calls Tryz.prog 134 #[ptrV b] w fun e w' => e = .returned (.int .i64 (cls c)) ∧ Fr No w w' := by
  go_enter Tryz.func134, Tryz.ntmps134
  go_wp2_with fail
  refine (next_some h hb hT).mono ?_
  rintro e w1 ⟨rfl, hf⟩
  have hz : ¬ ((c : Int) < 0) := by omega
  go_wp2_with fail
  refine (Class_calls _ _).mono ?_
  rintro e w' ⟨rfl, rfl⟩
  go_wp2_with fail
  go_ret
  exact ⟨rfl, hf⟩
set_option maxHeartbeats 400000 in
theorem class_none {t : List UInt8} (h : dec t = none) {w : World} {b : Nat} {p : Pl} {code : Int} {bad : Pl} (hb : Sc w b [] t p code bad) (hT : Tb w) :
    Calls Tryz.prog 134 #[ptrV b] w fun e w' => e = .returned (.int .i64 (-1)) ∧ Sc w' b [] t p (fz t p code bad).1 (fz t p code bad).2 ∧ Fr (· = b) w w' := by
  go_enter Tryz.func134, Tryz.ntmps134
  go_wp2_with fail
  refine (next_none h hb hT).mono ?_
  rintro e w1 ⟨rfl, hs, hf⟩
  go_wp2_with fail
  go_ret
  exact ⟨rfl, hs, hf⟩
theorem tx_cut (c : Nat) (cs : List Nat) (t : List UInt8) : (tx (c :: cs) t).extract (enc c).length (tx (c :: cs) t).size = tx cs t := by
  rw [Lib.extract_eq]
  have : (tx (c :: cs) t).data.toList = enc c ++ (cs.flatMap enc ++ t) := by rw [tx_list]; simp
  have h3 := tx_cons_size (c := c) (cs := cs) (t := t)
  have h2 : (tx cs t).size = (cs.flatMap enc ++ t).length := by rw [Lib.size_eq, tx_list]
  rw [this, List.drop_left, List.take_of_length_le (by omega)]
  rfl
theorem pass_end {w : World} {b : Nat} {s : ByteArray} {p : Pl} {code : Int} {bad : Pl} (h : Blk w b (scO s p code bad)) (q : Pl) (W : World)
    (hW : W = (((w.setCell ⟨b, 1, none⟩ (.int .i64 q.b)).setCell ⟨b, 2, none⟩ (.int .i64 q.g)).setCell ⟨b, 3, none⟩ (.int .i64 q.l)).setCell ⟨b, 4, none⟩ (.int .i64 q.c)) :
    Blk W b (scO s q code bad) ∧ Fr (· = b) w W := by
  subst hW
  refine ⟨(((h.setOff 1 _).setOff 2 _).setOff 3 _).setOff 4 _, ?_⟩
  with_reducible repeat (first | refine Fr.setCell ?_ _ (fun _ => rfl) | exact Fr.refl _ _)
set_option maxHeartbeats 1000000 in
theorem pass_calls {cs : List Nat} {c : Nat} {t : List UInt8} (h : okc c = true) {w : World} {b : Nat} {p : Pl} {code : Int} {bad : Pl} (hp : p.fits 4096) (hsz : (tx (c :: cs) t).size ≤ 4096) (hb : Sc w b (c :: cs) t p code bad) (hT : Tb w) :
    Calls Tryz.prog 135 #[ptrV b] w fun e w' => e = .returned (.tuple #[]) ∧ Sc w' b cs t (behind p c) code bad ∧ Fr (· = b) w w' := by
  have hlt := hb.blk.lt
  have r0 : w.cell? ⟨b, 0, none⟩ = some (.string (tx (c :: cs) t)) := hb.blk.cell 0 _ rfl
  go_enter Tryz.func135, Tryz.ntmps135
  go_wp2_with fail
  refine (drune_calls _ w hT (go_tx h)).mono ?_
  rintro e w1 ⟨rfl, hf1⟩
  have hb1 := hb.no hf1
  have q1 : w1.cell? ⟨b, 1, none⟩ = some (.int .i64 p.b) := hb1.blk.cell 1 _ rfl
  have q2 : w1.cell? ⟨b, 2, none⟩ = some (.int .i64 p.g) := hb1.blk.cell 2 _ rfl
  have q3 : w1.cell? ⟨b, 3, none⟩ = some (.int .i64 p.l) := hb1.blk.cell 3 _ rfl
  have q4 : w1.cell? ⟨b, 4, none⟩ = some (.int .i64 p.c) := hb1.blk.cell 4 _ rfl
  go_wp2_with fail
  refine (behind_calls h p hp _).mono ?_
  rintro e w2 ⟨rfl, hf2⟩
  have hb2 := hb1.no hf2
  have hf3 := (hf1.callNo hf2).mono (S' := (· = b)) (fun _ _ x => x.elim)
  clear q1 q2 q3 q4 hb1 hf1 hf2
  have q0 : w2.cell? ⟨b, 0, none⟩ = some (.string (tx (c :: cs) t)) := hb2.blk.cell 0 _ rfl
  have q1 : w2.cell? ⟨b, 1, none⟩ = some (.int .i64 p.b) := hb2.blk.cell 1 _ rfl
  have q2 : w2.cell? ⟨b, 2, none⟩ = some (.int .i64 p.g) := hb2.blk.cell 2 _ rfl
  have q3 : w2.cell? ⟨b, 3, none⟩ = some (.int .i64 p.l) := hb2.blk.cell 3 _ rfl
  have q4 : w2.cell? ⟨b, 4, none⟩ = some (.int .i64 p.c) := hb2.blk.cell 4 _ rfl
  have f0 := hb2.blk.free 0
  have f1 := hb2.blk.free 1
  have f2 := hb2.blk.free 2
  have f3 := hb2.blk.free 3
  have f4 := hb2.blk.free 4
  have hcs := tx_cons_size (c := c) (cs := cs) (t := t)
  have hcut := tx_cut c cs t
  simp only [plA]
  go_upto_region 2 with (fail)
  obtain ⟨e1, e2⟩ := pass_end hb2.blk (behind p c) _ rfl
  generalize (((w2.setCell ⟨b, 1, none⟩ (.int .i64 (behind p c).b)).setCell ⟨b, 2, none⟩ (.int .i64 (behind p c).g)).setCell ⟨b, 3, none⟩ (.int .i64 (behind p c).l)).setCell ⟨b, 4, none⟩ (.int .i64 (behind p c).c) = w3 at e1 e2 ⊢
  have k0 : w3.cell? ⟨b, 0, none⟩ = some (.string (tx (c :: cs) t)) := e1.cell 0 _ rfl
  have n0 := e1.free 0
  have hf4 := hf3.call e2 (fun _ _ x => x)
  clear hb2 q0 q1 q2 q3 q4 f0 f1 f2 f3 f4 hf3 e2
  go_wp2_with fail
  go_end0
  refine ⟨rfl, ?_, hf4.setCell _ (fun _ => rfl)⟩
  rw [← hcs, hcut]
  exact e1.setOff 0 _
end Go.Proofs.YtlklijpjacmgpaaGreatDoor

namespace Go.Proofs.YtlklijpjacmgpaaGreatDoor
open Go.RowKit
set_option linter.unusedVariables false
set_option linter.unusedSimpArgs false

theorem fz_fz (t : List UInt8) (p : Pl) (c : Int) (b : Pl) : fz t p (fz t p c b).1 (fz t p c b).2 = fz t p c b := by
  unfold fz
  by_cases ht : t = []
  · simp [ht]
  · by_cases hc : c = 0
    · simp [ht, hc]
    · simp [ht, hc]
/-- the error behind blanks: none where a code point stands -/
def bk (l : List Nat) (t : List UInt8) (p : Pl) : Int × Pl := if l = [] then fz t p 0 zeroPl else (0, zeroPl)
/-- the scanner stands ahead of rest; no error yet, but for what stands behind all -/
def Stands (w : World) (b : Nat) (rest : List Nat) (t : List UInt8) (p : Pl) : Prop := ∃ C B, Sc w b rest t p C B ∧ (rest ≠ [] → C = 0 ∧ B = zeroPl) ∧ fz t p C B = fz t p 0 zeroPl
theorem Stands.begin {w : World} {b : Nat} {rest : List Nat} {t : List UInt8} {p : Pl} (h : Sc w b rest t p 0 zeroPl) : Stands w b rest t p := ⟨0, zeroPl, h, fun _ => ⟨rfl, rfl⟩, rfl⟩
theorem Stands.no {w w' : World} {b : Nat} {rest : List Nat} {t : List UInt8} {p : Pl} (h : Stands w b rest t p) (f : Fr No w w') : Stands w' b rest t p := by
  obtain ⟨C, B, h1, h2, h3⟩ := h
  exact ⟨C, B, h1.no f, h2, h3⟩
theorem Stands.some {w : World} {b c : Nat} {r : List Nat} {t : List UInt8} {p : Pl} (h : Stands w b (c :: r) t p) : Sc w b (c :: r) t p 0 zeroPl := by
  obtain ⟨C, B, h1, h2, h3⟩ := h
  obtain ⟨rfl, rfl⟩ := h2 (by simp)
  exact h1
theorem Stands.ne {w : World} {b : Nat} {rest : List Nat} {t : List UInt8} {p : Pl} (h : Stands w b rest t p) (hT : Tb w) : ¬ (0 = b) ∧ ¬ (1 = b) := by
  obtain ⟨C, B, h1, h2, h3⟩ := h
  exact hT.sc h1
theorem class_none' {t : List UInt8} (h : dec t = none) {w : World} {b : Nat} {p : Pl} (hb : Stands w b [] t p) (hT : Tb w) :
    Calls Tryz.prog 134 #[ptrV b] w fun e w' => e = .returned (.int .i64 (-1)) ∧ Sc w' b [] t p (fz t p 0 zeroPl).1 (fz t p 0 zeroPl).2 ∧ Fr (· = b) w w' := by
  obtain ⟨C, B, h1, h2, h3⟩ := hb
  rw [← h3]
  exact class_none h h1 hT
theorem next_none' {t : List UInt8} (h : dec t = none) {w : World} {b : Nat} {p : Pl} (hb : Stands w b [] t p) (hT : Tb w) :
    Calls Tryz.prog 136 #[ptrV b] w fun e w' => e = .returned (.int .i64 (-1)) ∧ Sc w' b [] t p (fz t p 0 zeroPl).1 (fz t p 0 zeroPl).2 ∧ Fr (· = b) w w' := by
  obtain ⟨C, B, h1, h2, h3⟩ := hb
  rw [← h3]
  exact next_none h h1 hT
theorem Stands.fz {w : World} {b : Nat} {t : List UInt8} {p : Pl} (h : Sc w b [] t p (fz t p 0 zeroPl).1 (fz t p 0 zeroPl).2) : Stands w b [] t p :=
  ⟨_, _, h, fun h => absurd rfl h, fz_fz t p 0 zeroPl⟩
/-- what next tells -/
def hd (l : List Nat) : Int := match l with
  | [] => -1
  | c :: _ => c
theorem next_at {S : ByteArray} {pre rest : List Nat} {t : List UInt8} (T : Txt S.data.toList (pre ++ rest) t) {w : World} {b : Nat} {p : Pl} (hb : Stands w b rest t p) (hT : Tb w) :
    Calls Tryz.prog 136 #[ptrV b] w fun e w' => e = .returned (.int .i64 (hd rest)) ∧ Stands w' b rest t p ∧ Fr (· = b) w w' := by
  cases rest with
  | nil => exact (next_none' T.stop hb hT).mono fun e w' ⟨h1, h2, h3⟩ => ⟨h1, .fz h2, h3⟩
  | cons c r => exact (next_some (T.ok c (by simp)) hb.some hT).mono fun e w' ⟨h1, h2⟩ => ⟨h1, hb.no h2, h2.mono (fun _ _ x => x.elim)⟩
theorem pass_at {S : ByteArray} {pre r : List Nat} {c : Nat} {t : List UInt8} (T : Txt S.data.toList (pre ++ c :: r) t) (hS : S.size ≤ 4096) {w : World} {b : Nat} (hb : Stands w b (c :: r) t (along start pre)) (hT : Tb w) :
    Calls Tryz.prog 135 #[ptrV b] w fun e w' => e = .returned (.tuple #[]) ∧ Sc w' b r t (along start (pre ++ [c])) 0 zeroPl ∧ Fr (· = b) w w' := by
  have h := pass_calls (T.ok c (by simp)) (fits_pre T hS) (tx_size T hS) hb.some hT
  rw [along_append]
  exact h
theorem skip_nl {c : Nat} {r : List Nat} (h : cls c = 1) : skipC false (c :: r) = skipC false r := by
  by_cases h10 : c = 10
  · simp [skipC, h10]
  · simp [skipC, h10, h]
theorem skip_hash {c : Nat} {r : List Nat} (h : cls c = 6) : skipC false (c :: r) = skipC true (c :: r) := by
  have h10 : c ≠ 10 := by rintro rfl; revert h; decide
  simp [skipC, h10, h]
theorem skip_comment {c : Nat} {r : List Nat} (h : c ≠ 10) : skipC true (c :: r) = skipC true r := by
  simp [skipC, h]
theorem skip_line {r : List Nat} : skipC true (10 :: r) = skipC false (10 :: r) := by simp [skipC]
theorem skip_stop {c : Nat} {r : List Nat} (h1 : cls c ≠ 1) (h6 : cls c ≠ 6) : skipC false (c :: r) = c :: r := by
  have h10 : c ≠ 10 := by rintro rfl; revert h1; decide
  simp [skipC, h10, h1, h6]
theorem skipped_is {cs mid : List Nat} (h : cs = mid ++ skipC false cs) : skipped cs = mid := by
  have h2 := skipped_append cs
  exact List.append_cancel_right (h2.trans h)
set_option maxHeartbeats 2000000 in
theorem blanks_calls {S : ByteArray} {pre cs : List Nat} {t : List UInt8} (T : Txt S.data.toList (pre ++ cs) t) (hS : S.size ≤ 4096) {w : World} {b : Nat} (hb : Sc w b cs t (along start pre) 0 zeroPl) (hT : Tb w) :
    Calls Tryz.prog 103 #[ptrV b] w fun e w' => e = .returned (.tuple #[]) ∧ Sc w' b (skipC false cs) t (along start (pre ++ skipped cs)) (bk (skipC false cs) t (along start (pre ++ skipped cs))).1 (bk (skipC false cs) t (along start (pre ++ skipped cs))).2 ∧ Fr (· = b) w w' := by
  obtain ⟨hn0, hn1⟩ := hT.sc hb
  go_enter Tryz.func103, Tryz.ntmps103
  go_wp2_with fail
  go_loopg [2] cs.length (fun gk x2 wr => ∃ mid rest, cs = mid ++ rest ∧ gk = rest.length ∧ skipC false cs = skipC false rest ∧ Stands wr b rest t (along start (pre ++ mid)) ∧ Fr (· = b) w wr)
  case atStart => exact ⟨[], cs, rfl, rfl, rfl, by simpa using Stands.begin hb, Fr.refl _ _⟩
  case round =>
    obtain ⟨mid, rest, h1, h2, h3, hst, hf⟩ := hrel
    have T1 : Txt S.data.toList ((pre ++ mid) ++ rest) t := by rw [List.append_assoc, ← h1]; exact T
    have hTr := hT.fr hf hn0 hn1
    have A := Lib.hid (And.intro h1 (And.intro h2 h3))
    clear h1 h2 h3
    cases rest with
    | nil =>
      go_wp2_with fail
      refine (class_none' T1.stop hst hTr).mono ?_
      rintro e w1 ⟨rfl, hs1, hf1⟩
      go_wp2_with fail
      refine bodyPost_ret (results_none rfl _ _ _) rfl ?_
      obtain ⟨h1, h2, h3⟩ := A.out
      have h4 : skipC false cs = [] := by rw [h3]; rfl
      have h5 : skipped cs = mid := skipped_is (by rw [h4]; exact h1)
      rw [h4, h5]
      exact ⟨rfl, hs1, hf.call hf1 (fun _ _ x => x)⟩
    | cons c r =>
      go_wp2_with fail
      refine (class_some (T1.ok c (by simp)) hst.some hTr).mono ?_
      rintro e w1 ⟨rfl, hf1⟩
      have hst1 := hst.no hf1
      have hf2 := hf.callNo hf1
      have hT1 := hTr.no hf1
      clear hst hf hf1 hTr
      by_cases k1 : cls c = 1
      · have k1b : (cls c == 1) = true := by simpa using k1
        have K := Lib.hid k1
        clear k1
        go_wp2_with fail
        refine (pass_at T1 hS hst1 hT1).mono ?_
        rintro e w2 ⟨rfl, hs2, hf3⟩
        go_wp2_with fail
        obtain ⟨h1, h2, h3⟩ := A.out
        go_roundg r.length
        case measure => rw [h2]; simp
        case rel => exact ⟨mid ++ [c], r, by rw [h1]; simp, rfl, by rw [h3, skip_nl K.out], by rw [← List.append_assoc]; exact .begin hs2, hf2.call hf3 (fun _ _ x => x)⟩
      · have k1b : (cls c == 1) = false := by simpa using k1
        by_cases k6 : cls c = 6
        · have k6b : (cls c == 6) = true := by simpa using k6
          have K := Lib.hid k6
          clear k1 k6
          go_wp2_with fail
          refine (next_at T1 hst1 hT1).mono ?_
          rintro e w2 ⟨rfl, hst2, hf3⟩
          have hf4 := hf2.call hf3 (fun _ _ x => x)
          clear hst1 hf2 hf3 hT1
          go_wp2_with fail
          go_loopg [2] (r.length + 1) (fun gk2 x2 wr2 => ∃ mid2 rest2, cs = mid2 ++ rest2 ∧ gk2 = rest2.length ∧ x2 = .int .i64 (hd rest2) ∧ skipC false cs = skipC true rest2 ∧ (rest2 = c :: r ∨ rest2.length ≤ r.length) ∧ Stands wr2 b rest2 t (along start (pre ++ mid2)) ∧ Fr (· = b) w wr2)
          case atStart =>
            obtain ⟨h1, h2, h3⟩ := A.out
            exact ⟨mid, c :: r, h1, by simp, rfl, by rw [h3, skip_hash K.out], Or.inl rfl, hst2, hf4⟩
          case round =>
            obtain ⟨mid2, rest2, h1, h2, rfl, h3, h4, hst, hf⟩ := hrel
            have T2 : Txt S.data.toList ((pre ++ mid2) ++ rest2) t := by rw [List.append_assoc, ← h1]; exact T
            have hTr := hT.fr hf hn0 hn1
            have A2 := Lib.hid (And.intro h1 (And.intro h2 (And.intro h3 h4)))
            clear h1 h2 h3 h4
            cases rest2 with
            | nil =>
              have z1 : decide ((0 : Int) ≤ hd []) = false := rfl
              go_wp2_with fail
              go_roundg 0
              case measure => obtain ⟨h1, h2, h3⟩ := A.out; rw [h2]; simp
              case rel =>
                obtain ⟨h1, h2, h3, h4⟩ := A2.out
                exact ⟨mid2, [], h1, rfl, by rw [h3]; rfl, hst, hf⟩
            | cons d r2 =>
              have z1 : decide ((0 : Int) ≤ hd (d :: r2)) = true := by simp [hd]
              by_cases k10 : d = 10
              · have z2 : (hd (d :: r2) != 10) = false := by simp [hd, k10]
                have K10 := Lib.hid k10
                clear k10
                go_wp2_with fail
                go_roundg (r2.length + 1)
                case measure =>
                  obtain ⟨h1, h2, h3⟩ := A.out
                  obtain ⟨_, _, _, h4⟩ := A2.out
                  rw [h2]
                  rcases h4 with h4 | h4
                  · cases h4
                    have := K.out
                    rw [K10.out] at this
                    exact absurd this (by decide)
                  · simp at h4 ⊢; omega
                case rel =>
                  obtain ⟨h1, h2, h3, h4⟩ := A2.out
                  exact ⟨mid2, d :: r2, h1, by simp, by rw [h3, K10.out, skip_line], hst, hf⟩
              · have z2 : (hd (d :: r2) != 10) = true := by simp [hd]; omega
                have K10 := Lib.hid k10
                clear k10
                go_wp2_with fail
                refine (pass_at T2 hS hst hTr).mono ?_
                rintro e w3 ⟨rfl, hs3, hf3⟩
                have hf5 := hf.call hf3 (fun _ _ x => x)
                have T3 : Txt S.data.toList ((pre ++ mid2 ++ [d]) ++ r2) t := by simpa using T2
                have hT3 := hT.fr hf5 hn0 hn1
                clear hf hf3 hst hTr
                go_wp2_with fail
                refine (next_at T3 (.begin hs3) hT3).mono ?_
                rintro e w4 ⟨rfl, hst4, hf6⟩
                go_wp2_with fail
                obtain ⟨h1, h2, h3, h4⟩ := A2.out
                go_roundg r2.length
                case measure => rw [h2]; simp
                case rel =>
                  refine ⟨mid2 ++ [d], r2, by rw [h1]; simp, rfl, rfl, by rw [h3, skip_comment K10.out], Or.inr ?_, by rw [← List.append_assoc]; exact hst4, hf5.call hf6 (fun _ _ x => x)⟩
                  rcases h4 with h4 | h4
                  · cases h4; exact Nat.le_refl _
                  · simp at h4; omega
        · have k6b : (cls c == 6) = false := by simpa using k6
          have K := Lib.hid (And.intro k1 k6)
          clear k1 k6
          go_wp2_with fail
          refine bodyPost_ret (results_none rfl _ _ _) rfl ?_
          obtain ⟨h1, h2, h3⟩ := A.out
          have h4 : skipC false cs = c :: r := by rw [h3]; exact skip_stop K.out.1 K.out.2
          have h5 : skipped cs = mid := skipped_is (by rw [h4]; exact h1)
          rw [h4, h5]
          exact ⟨rfl, hst1.some, hf2⟩
end Go.Proofs.YtlklijpjacmgpaaGreatDoor

namespace Go.Proofs.YtlklijpjacmgpaaGreatDoor
open Go.RowKit
set_option linter.unusedVariables false
set_option linter.unusedSimpArgs false

/-- what class tells -/
def hc (l : List Nat) : Int := match l with
  | [] => -1
  | c :: _ => cls c
theorem class_at {S : ByteArray} {pre rest : List Nat} {t : List UInt8} (T : Txt S.data.toList (pre ++ rest) t) {w : World} {b : Nat} {p : Pl} (hb : Sc w b rest t p 0 zeroPl) (hT : Tb w) :
    Calls Tryz.prog 134 #[ptrV b] w fun e w' => e = .returned (.int .i64 (hc rest)) ∧ Sc w' b rest t p (bk rest t p).1 (bk rest t p).2 ∧ Fr (· = b) w w' := by
  cases rest with
  | nil => exact class_none' T.stop (.begin hb) hT
  | cons c r => exact (class_some (T.ok c (by simp)) hb hT).mono fun e w' ⟨h1, h2⟩ => ⟨h1, hb.no h2, h2.mono (fun _ _ x => x.elim)⟩
theorem tx_head {mid rest : List Nat} {t : List UInt8} : (tx (mid ++ rest) t).extract 0 ((tx (mid ++ rest) t).size - (tx rest t).size) = ⟨(mid.flatMap enc).toArray⟩ := by
  rw [Lib.extract_eq]
  have h1 : (tx (mid ++ rest) t).data.toList = mid.flatMap enc ++ (rest.flatMap enc ++ t) := by rw [tx_list]; simp
  have h2 : (tx rest t).size = (rest.flatMap enc ++ t).length := by rw [Lib.size_eq, tx_list]
  have h3 : (tx (mid ++ rest) t).size = (mid.flatMap enc).length + (rest.flatMap enc ++ t).length := by rw [Lib.size_eq, h1, List.length_append]
  rw [h1, h2, h3, List.drop_zero, Nat.sub_zero, Nat.add_sub_cancel, List.take_left]
theorem tx_mid_size {mid rest : List Nat} {t : List UInt8} : (tx rest t).size ≤ (tx (mid ++ rest) t).size := by
  rw [Lib.size_eq, Lib.size_eq, tx_list, tx_list]; simp
def nameQ (k : Int) : Bool := k == 2 || (k == 3 || k == 4)
def digQ (k : Int) : Bool := k == 3
set_option maxHeartbeats 400000 in
theorem in_name (c : Int) (w : World) : Calls Tryz.prog 138 #[.int .i64 c] w fun e w' => e = .returned (.bool (nameQ c)) ∧ w = w' := by
  by_cases h2 : (c == 2) = true
  · go_enter Tryz.func138, Tryz.ntmps138
    go_wp2
    go_ret
    exact ⟨ret_bool (by simp [nameQ, h2]), rfl⟩
  · have h2' : (c == 2) = false := by simpa using h2
    clear h2
    by_cases h3 : (c == 3) = true
    · go_enter Tryz.func138, Tryz.ntmps138
      go_wp2
      go_ret
      exact ⟨ret_bool (by simp [nameQ, h3]), rfl⟩
    · have h3' : (c == 3) = false := by simpa using h3
      clear h3
      go_enter Tryz.func138, Tryz.ntmps138
      go_wp2
      go_ret
      exact ⟨ret_bool (by simp [nameQ, h2', h3']), rfl⟩
set_option maxHeartbeats 400000 in
theorem in_digit (c : Int) (w : World) : Calls Tryz.prog 140 #[.int .i64 c] w fun e w' => e = .returned (.bool (digQ c)) ∧ w = w' := by
  go_enter Tryz.func140, Tryz.ntmps140
  go_wp2
  go_ret
  exact ⟨rfl, rfl⟩
set_option maxHeartbeats 2000000 in
theorem while_name
    {S : ByteArray} {pre cs : List Nat} {t : List UInt8} (T : Txt S.data.toList (pre ++ cs) t) (hS : S.size ≤ 4096) {w : World} {b : Nat} (hb : Sc w b cs t (along start pre) 0 zeroPl) (hT : Tb w) :
    Calls Tryz.prog 137 #[ptrV b, .func (.func 138) #[] #[]] w fun e w' => ∃ mid rest, cs = mid ++ rest ∧ (∀ c ∈ mid, nameQ (cls c) = true) ∧ (∀ c r, rest = c :: r → nameQ (cls c) = false) ∧
      e = .returned (.string ⟨(mid.flatMap enc).toArray⟩) ∧ Sc w' b rest t (along start (pre ++ mid)) (bk rest t (along start (pre ++ mid))).1 (bk rest t (along start (pre ++ mid))).2 ∧ Fr (· = b) w w' := by
  obtain ⟨hn0, hn1⟩ := hT.sc hb
  have r0 : w.cell? ⟨b, 0, none⟩ = some (.string (tx cs t)) := hb.blk.cell 0 _ rfl
  have hsz := tx_size T hS
  go_enter Tryz.func137, Tryz.ntmps137
  go_wp2_with fail
  refine (class_at T hb hT).mono ?_
  rintro e w1 ⟨rfl, hs1, hf1⟩
  go_wp2_with fail
  go_loopg [6] (cs.length) (fun gk x6 wr => ∃ mid rest, cs = mid ++ rest ∧ gk = rest.length ∧ x6 = .int .i64 (hc rest) ∧ (∀ c ∈ mid, nameQ (cls c) = true) ∧ Sc wr b rest t (along start (pre ++ mid)) (bk rest t (along start (pre ++ mid))).1 (bk rest t (along start (pre ++ mid))).2 ∧ Fr (· = b) w wr)
  case atStart => exact ⟨[], cs, rfl, rfl, rfl, by simp, by simpa using hs1, hf1⟩
  case round =>
    obtain ⟨mid, rest, h1, h2, rfl, h3, hs, hf⟩ := hrel
    have T1 : Txt S.data.toList ((pre ++ mid) ++ rest) t := by rw [List.append_assoc, ← h1]; exact T
    have hTr := hT.fr hf hn0 hn1
    have k0 : wr.cell? ⟨b, 0, none⟩ = some (.string (tx rest t)) := hs.blk.cell 0 _ rfl
    have hle : (tx rest t).size ≤ (tx cs t).size := by subst h1; exact tx_mid_size
    have A := Lib.hid (And.intro h1 (And.intro h2 h3))
    clear h1 h2 h3
    cases rest with
    | nil =>
      have z1 : decide ((0 : Int) ≤ hc []) = false := rfl
      go_wp2_with fail
      go_ret
      obtain ⟨h1, h2, h3⟩ := A.out
      refine ⟨mid, [], h1, h3, (fun c r h => by cases h), ?_, hs, hf⟩
      subst h1
      exact ret_str tx_head
    | cons c r =>
      have z1 : decide ((0 : Int) ≤ hc (c :: r)) = true := decide_eq_true (cls_range c).1
      have hcc : hc (c :: r) = cls c := rfl
      rw [hcc] at z1
      rw [hcc]
      clear hcc
      cases hqc : nameQ (cls c) with
      | false =>
        have HQ := Lib.hid hqc
        clear hqc
        go_wp2_with fail
        refine (in_name _ _).mono ?_
        rintro e w2 ⟨rfl, rfl⟩
        rw [HQ.out]
        go_wp2_with fail
        go_ret
        obtain ⟨h1, h2, h3⟩ := A.out
        refine ⟨mid, c :: r, h1, h3, (fun c' r' h => by cases h; exact HQ.out), ?_, hs, hf⟩
        subst h1
        exact ret_str tx_head
      | true =>
        have HQ := Lib.hid hqc
        clear hqc
        go_wp2_with fail
        refine (in_name _ _).mono ?_
        rintro e w2 ⟨rfl, rfl⟩
        rw [HQ.out]
        go_wp2_with fail
        refine (pass_at T1 hS (.begin hs) hTr).mono ?_
        rintro e w3 ⟨rfl, hs3, hf3⟩
        have T3 : Txt S.data.toList ((pre ++ mid ++ [c]) ++ r) t := by simpa using T1
        have hf4 := hf.call hf3 (fun _ _ x => x)
        have hT3 := hT.fr hf4 hn0 hn1
        go_wp2_with fail
        refine (class_at T3 hs3 hT3).mono ?_
        rintro e w4 ⟨rfl, hs4, hf5⟩
        go_wp2_with fail
        obtain ⟨h1, h2, h3⟩ := A.out
        go_roundg r.length
        case measure => rw [h2]; simp
        case rel =>
          refine ⟨mid ++ [c], r, by rw [h1]; simp, rfl, rfl, ?_, by rw [← List.append_assoc]; exact hs4, hf4.call hf5 (fun _ _ x => x)⟩
          intro d hd
          rcases List.mem_append.1 hd with hd | hd
          · exact h3 d hd
          · simp at hd; subst hd; exact HQ.out
set_option maxHeartbeats 2000000 in
theorem while_digit
    {S : ByteArray} {pre cs : List Nat} {t : List UInt8} (T : Txt S.data.toList (pre ++ cs) t) (hS : S.size ≤ 4096) {w : World} {b : Nat} (hb : Sc w b cs t (along start pre) 0 zeroPl) (hT : Tb w) :
    Calls Tryz.prog 137 #[ptrV b, .func (.func 140) #[] #[]] w fun e w' => ∃ mid rest, cs = mid ++ rest ∧ (∀ c ∈ mid, digQ (cls c) = true) ∧ (∀ c r, rest = c :: r → digQ (cls c) = false) ∧
      e = .returned (.string ⟨(mid.flatMap enc).toArray⟩) ∧ Sc w' b rest t (along start (pre ++ mid)) (bk rest t (along start (pre ++ mid))).1 (bk rest t (along start (pre ++ mid))).2 ∧ Fr (· = b) w w' := by
  obtain ⟨hn0, hn1⟩ := hT.sc hb
  have r0 : w.cell? ⟨b, 0, none⟩ = some (.string (tx cs t)) := hb.blk.cell 0 _ rfl
  have hsz := tx_size T hS
  go_enter Tryz.func137, Tryz.ntmps137
  go_wp2_with fail
  refine (class_at T hb hT).mono ?_
  rintro e w1 ⟨rfl, hs1, hf1⟩
  go_wp2_with fail
  go_loopg [6] (cs.length) (fun gk x6 wr => ∃ mid rest, cs = mid ++ rest ∧ gk = rest.length ∧ x6 = .int .i64 (hc rest) ∧ (∀ c ∈ mid, digQ (cls c) = true) ∧ Sc wr b rest t (along start (pre ++ mid)) (bk rest t (along start (pre ++ mid))).1 (bk rest t (along start (pre ++ mid))).2 ∧ Fr (· = b) w wr)
  case atStart => exact ⟨[], cs, rfl, rfl, rfl, by simp, by simpa using hs1, hf1⟩
  case round =>
    obtain ⟨mid, rest, h1, h2, rfl, h3, hs, hf⟩ := hrel
    have T1 : Txt S.data.toList ((pre ++ mid) ++ rest) t := by rw [List.append_assoc, ← h1]; exact T
    have hTr := hT.fr hf hn0 hn1
    have k0 : wr.cell? ⟨b, 0, none⟩ = some (.string (tx rest t)) := hs.blk.cell 0 _ rfl
    have hle : (tx rest t).size ≤ (tx cs t).size := by subst h1; exact tx_mid_size
    have A := Lib.hid (And.intro h1 (And.intro h2 h3))
    clear h1 h2 h3
    cases rest with
    | nil =>
      have z1 : decide ((0 : Int) ≤ hc []) = false := rfl
      go_wp2_with fail
      go_ret
      obtain ⟨h1, h2, h3⟩ := A.out
      refine ⟨mid, [], h1, h3, (fun c r h => by cases h), ?_, hs, hf⟩
      subst h1
      exact ret_str tx_head
    | cons c r =>
      have z1 : decide ((0 : Int) ≤ hc (c :: r)) = true := decide_eq_true (cls_range c).1
      have hcc : hc (c :: r) = cls c := rfl
      rw [hcc] at z1
      rw [hcc]
      clear hcc
      cases hqc : digQ (cls c) with
      | false =>
        have HQ := Lib.hid hqc
        clear hqc
        go_wp2_with fail
        refine (in_digit _ _).mono ?_
        rintro e w2 ⟨rfl, rfl⟩
        rw [HQ.out]
        go_wp2_with fail
        go_ret
        obtain ⟨h1, h2, h3⟩ := A.out
        refine ⟨mid, c :: r, h1, h3, (fun c' r' h => by cases h; exact HQ.out), ?_, hs, hf⟩
        subst h1
        exact ret_str tx_head
      | true =>
        have HQ := Lib.hid hqc
        clear hqc
        go_wp2_with fail
        refine (in_digit _ _).mono ?_
        rintro e w2 ⟨rfl, rfl⟩
        rw [HQ.out]
        go_wp2_with fail
        refine (pass_at T1 hS (.begin hs) hTr).mono ?_
        rintro e w3 ⟨rfl, hs3, hf3⟩
        have T3 : Txt S.data.toList ((pre ++ mid ++ [c]) ++ r) t := by simpa using T1
        have hf4 := hf.call hf3 (fun _ _ x => x)
        have hT3 := hT.fr hf4 hn0 hn1
        go_wp2_with fail
        refine (class_at T3 hs3 hT3).mono ?_
        rintro e w4 ⟨rfl, hs4, hf5⟩
        go_wp2_with fail
        obtain ⟨h1, h2, h3⟩ := A.out
        go_roundg r.length
        case measure => rw [h2]; simp
        case rel =>
          refine ⟨mid ++ [c], r, by rw [h1]; simp, rfl, rfl, ?_, by rw [← List.append_assoc]; exact hs4, hf4.call hf5 (fun _ _ x => x)⟩
          intro d hd
          rcases List.mem_append.1 hd with hd | hd
          · exact h3 d hd
          · simp at hd; subst hd; exact HQ.out
end Go.Proofs.YtlklijpjacmgpaaGreatDoor

namespace Go.Proofs.YtlklijpjacmgpaaGreatDoor
open Go.RowKit
set_option linter.unusedVariables false
set_option linter.unusedSimpArgs false

def SignHead (w : World) (b c : Nat) (r : List Nat) (t : List UInt8) (p : Pl) (s3 s4 : Value) (wx : World) : Prop :=
  s3 = .int .i64 c ∧ ∃ g : Nat, s4 = .pointer (some ⟨g, 0, none⟩) ∧ w.heap.size ≤ g ∧ Blk wx g (plO p) ∧ Sc wx b (c :: r) t p 0 zeroPl ∧ Tb wx ∧ Fr No w wx
theorem SignHead.of {w : World} {b c : Nat} {r : List Nat} {t : List UInt8} {p : Pl} {w1 : World} {g : Nat} (hg : w.heap.size ≤ g) (h : Blk w1 g (plO zeroPl)) (hs : Sc w1 b (c :: r) t p 0 zeroPl) (hT : Tb w1) (hf : Fr No w w1) (hbg : b < w.heap.size) (W : World)
    (hW : W = (((w1.setCell ⟨g, 0, none⟩ (.int .i64 p.b)).setCell ⟨g, 1, none⟩ (.int .i64 p.g)).setCell ⟨g, 2, none⟩ (.int .i64 p.l)).setCell ⟨g, 3, none⟩ (.int .i64 p.c)) :
    SignHead w b c r t p (.int .i64 c) (.pointer (some ⟨g, 0, none⟩)) W := by
  obtain ⟨e1, e2⟩ := pl_exit2 h hf (by omega) p W hW
  have hs' : Sc W b (c :: r) t p 0 zeroPl := by
    subst hW
    exact (((hs.blk.set_ne _ _ (by simp; omega)).set_ne _ _ (by simp; omega)).set_ne _ _ (by simp; omega)).set_ne _ _ (by simp; omega)
  have hn := hT.sc hs
  have hg2 : 0 ≠ g ∧ 1 ≠ g := by
    have hc0 := h.cell 0 _ rfl
    constructor
    · rintro rfl
      have := hT.1 0 (by omega)
      rw [hc0] at this; cases this
    · rintro rfl
      have := (hT.2 0 (by omega)).1
      rw [hc0] at this; cases this
  have hTW : Tb W := by
    subst hW
    exact hT.fr (S := (· = g)) (by with_reducible repeat (first | refine Fr.setCell ?_ _ (fun _ => rfl) | exact Fr.refl _ _)) hg2.1 hg2.2
  exact ⟨rfl, g, rfl, hg, e1, hs', hTW, e2⟩
theorem SignHead.new {w : World} {b c : Nat} {r : List Nat} {t : List UInt8} {p : Pl} {w1 : World} (hs : Sc w1 b (c :: r) t p 0 zeroPl) (hT : Tb w1) (hf : Fr No w w1) :
    SignHead w b c r t p (.int .i64 c) (.pointer (some ⟨w1.heap.size, 0, none⟩)) (w1.alloc (.cells #[.int .i64 p.b, .int .i64 p.g, .int .i64 p.l, .int .i64 p.c] 26)) :=
  ⟨rfl, w1.heap.size, rfl, hf.size, Blk.new w1 (plO p), Blk.alloc hs _, hT.no ((Fr.refl _ _).alloc _), hf.alloc _⟩
theorem sign_vals {c : Nat} (h : cls c = 5) : c = 43 ∨ c = 45 ∨ c = 42 ∨ c = 47 ∨ c = 37 ∨ c = 40 ∨ c = 41 ∨ c = 123 ∨ c = 125 ∨ c = 44 ∨ c = 59 ∨ c = 58 ∨ c = 61 ∨ c = 33 ∨ c = 63 ∨ c = 64 ∨ c = 183 ∨ c = 215 ∨ c = 247 ∨ c = 8722 ∨ c = 8788 ∨ c = 8800 := by
  have h2 : isSign c = true := by
    unfold cls at h
    repeat' split at h
    all_goals first
      | assumption
      | (exfalso; omega)
  simp only [isSign, decide_eq_true_eq] at h2
  omega
theorem sign_enc {c : Nat} (h : cls c = 5) : Utf8.encode (wrap32 (fold c)) = ⟨[UInt8.ofNat (fold c).toNat].toArray⟩ ∨ c = 8788 ∨ c = 8800 := by
  have := sign_vals h
  rcases this with rfl | rfl | rfl | rfl | rfl | rfl | rfl | rfl | rfl | rfl | rfl | rfl | rfl | rfl | rfl | rfl | rfl | rfl | rfl | rfl | rfl | rfl
  all_goals first
    | exact Or.inr (Or.inl rfl)
    | exact Or.inr (Or.inr rfl)
    | exact Or.inl (by kernel_rfl)
/-- what sign hands back -/
def SgOut (w : World) (b : Nat) (pre : List Nat) (c : Nat) (r : List Nat) (t : List UInt8) (e : Ending) (w' : World) : Prop :=
  match tk (c :: r) with
  | .ok k x m => e = .returned (.string ⟨x.toArray⟩) ∧ Sc w' b ((c :: r).drop m) t (along start (pre ++ (c :: r).take m)) 0 zeroPl ∧ Fr (· = b) w w'
  | .bad n => ∃ s rest q, e = .returned (.string s) ∧ Blk w' b (scO rest q n (along start pre)) ∧ Fr (· = b) w w'
set_option maxHeartbeats 2000000 in
theorem scsign_calls {S : ByteArray} {pre r : List Nat} {c : Nat} {t : List UInt8} (T : Txt S.data.toList (pre ++ c :: r) t) (hS : S.size ≤ 4096) {w : World} {b : Nat} (hb : Sc w b (c :: r) t (along start pre) 0 zeroPl) (hT : Tb w) (hcl : cls c = 5) :
    Calls Tryz.prog 141 #[ptrV b] w (SgOut w b pre c r t) := by
  have hc := T.ok c (by simp)
  have hlt := hb.blk.lt
  have hne : b ≠ w.heap.size := by omega
  have q1 : w.cell? ⟨b, 1, none⟩ = some (.int .i64 (along start pre).b) := hb.blk.cell 1 _ rfl
  have q2 : w.cell? ⟨b, 2, none⟩ = some (.int .i64 (along start pre).g) := hb.blk.cell 2 _ rfl
  have q3 : w.cell? ⟨b, 3, none⟩ = some (.int .i64 (along start pre).l) := hb.blk.cell 3 _ rfl
  have q4 : w.cell? ⟨b, 4, none⟩ = some (.int .i64 (along start pre).c) := hb.blk.cell 4 _ rfl
  go_enter Tryz.func141, Tryz.ntmps141
  go_upto_region 1 with (fail)
  go_cut [3, 4] (fun s3 s4 wx => SignHead w b c r t (along start pre) s3 s4 wx)
  case first =>
    go_region_with ((refine (next_some hc (b := b) (p := along start pre) (code := 0) (bad := zeroPl) (cs := r) (t := t) (by first | exact hb | exact Blk.drew hb | exact Blk.alloc hb _ | exact (Blk.drew hb).alloc _ | exact Blk.drew (Blk.alloc hb _)) (by first | exact hT | exact hT.no ((Fr.refl _ _).drew) | exact hT.no ((Fr.refl _ _).alloc _) | exact hT.no ((Fr.refl _ _).drew.alloc _) | exact hT.no (((Fr.refl _ _).alloc _).drew))).mono ?_; rintro e w1 ⟨rfl, hf1⟩; have hb1 : Sc w1 b (c :: r) t (along start pre) 0 zeroPl := Sc.no (by first | exact hb | exact Blk.drew hb | exact Blk.alloc hb _ | exact (Blk.drew hb).alloc _ | exact Blk.drew (Blk.alloc hb _)) hf1; have hlt1 := hb1.blk.lt; have hne1 : b ≠ w1.heap.size := by omega
                     have g1 : w1.cell? ⟨b, 1, none⟩ = some (.int .i64 (along start pre).b) := hb1.blk.cell 1 _ rfl
                     have g2 : w1.cell? ⟨b, 2, none⟩ = some (.int .i64 (along start pre).g) := hb1.blk.cell 2 _ rfl
                     have g3 : w1.cell? ⟨b, 3, none⟩ = some (.int .i64 (along start pre).l) := hb1.blk.cell 3 _ rfl
                     have g4 : w1.cell? ⟨b, 4, none⟩ = some (.int .i64 (along start pre).c) := hb1.blk.cell 4 _ rfl
                     try (have hz : Blk w1 w.heap.size (plO zeroPl) := (Blk.new w.drew (plO zeroPl)).fr hf1 (fun x => x); have z0 : w1.cell? ⟨w.heap.size, 0, none⟩ = some (.int .i64 0) := hz.cell 0 _ rfl; have z1 : w1.cell? ⟨w.heap.size, 1, none⟩ = some (.int .i64 0) := hz.cell 1 _ rfl; have z2 : w1.cell? ⟨w.heap.size, 2, none⟩ = some (.int .i64 0) := hz.cell 2 _ rfl; have z3 : w1.cell? ⟨w.heap.size, 3, none⟩ = some (.int .i64 0) := hz.cell 3 _ rfl; have y0 := hz.free 0; have y1 := hz.free 1; have y2 := hz.free 2; have y3 := hz.free 3)))
    all_goals go_wp2_with fail
    all_goals go_meet
    · exact SignHead.new hb1 (hT.no (((Fr.refl No w).drew).callNo hf1)) (((Fr.refl No w).drew).callNo hf1)
    · exact SignHead.new hb1 (hT.no (((Fr.refl No w).drew).callNo hf1)) (((Fr.refl No w).drew).callNo hf1)
    · exact SignHead.new hb1 (hT.no (((Fr.refl No w).drew).callNo hf1)) (((Fr.refl No w).drew).callNo hf1)
    · exact SignHead.of (Nat.le_refl _) hz hb1 (hT.no (((Fr.refl No w).drew.alloc _).callNo hf1)) (((Fr.refl No w).drew.alloc _).callNo hf1) hlt _ rfl
    · exact SignHead.of (Nat.le_refl _) hz hb1 (hT.no (((Fr.refl No w).drew.alloc _).callNo hf1)) (((Fr.refl No w).drew.alloc _).callNo hf1) hlt _ rfl
    · exact SignHead.of (Nat.le_refl _) hz hb1 (hT.no (((Fr.refl No w).drew.alloc _).callNo hf1)) (((Fr.refl No w).drew.alloc _).callNo hf1) hlt _ rfl
  case rest =>
    obtain ⟨rfl, g, rfl, hg, hg1, hs1, hT1, hf1⟩ := hcut
    clear q1 q2 q3 q4
    have hgb : ¬ (g = b) := by omega
    have HC := Lib.hid hcl
    clear hcl
    go_wp2_with fail
    refine (pass_at T hS (.begin hs1) hT1).mono ?_
    rintro e w2 ⟨rfl, hs2, hf2⟩
    obtain ⟨hn0, hn1⟩ := hT1.sc hs1
    have hT2 := hT1.fr hf2 hn0 hn1
    have hg2 := hg1.fr hf2 hgb
    have hf3 : Fr (· = b) w w2 := (hf1.mono (S' := (· = b)) (fun _ _ x => x.elim)).call hf2 (fun _ _ x => x)
    clear hg1 hs1 hT1 hf1 hf2
    have T2 : Txt S.data.toList ((pre ++ [c]) ++ r) t := by simpa using T
    by_cases k1 : c = 8788
    · have kb : ((c : Int) == 8788) = true := by simp [k1]
      have K := Lib.hid k1
      clear k1
      go_wp2_with fail
      go_ret
      have k1 := K.out
      subst k1
      unfold SgOut
      exact ⟨rfl, hs2, hf3⟩
    · have kb : ((c : Int) == 8788) = false := by simp; omega
      by_cases k2 : c = 8800
      · have kb2 : ((c : Int) == 8800) = true := by simp [k2]
        have K := Lib.hid k2
        clear k1 k2
        go_wp2_with fail
        go_ret
        have k1 := K.out
        subst k1
        unfold SgOut
        exact ⟨rfl, hs2, hf3⟩
      · have kb2 : ((c : Int) == 8800) = false := by simp; omega
        by_cases k3 : c = 58
        · subst k3
          cases hr : decide (hd r = 61) with
          | true =>
            have hr1 : hd r = 61 := of_decide_eq_true hr
            obtain ⟨r2, rfl⟩ : ∃ r2, r = 61 :: r2 := by
              cases r with
              | nil => cases hr1
              | cons x r2 =>
                have : x = 61 := by simp only [hd] at hr1; omega
                exact ⟨r2, by rw [this]⟩
            clear hr hr1
            have hz : (hd (61 :: r2) != 61) = false := rfl
            go_wp2_with fail
            refine (next_at T2 (.begin hs2) hT2).mono ?_
            rintro e w3 ⟨rfl, hst3, hf4⟩
            have hT3 := hT2.fr hf4 hn0 hn1
            have hf5 := hf3.call hf4 (fun _ _ x => x)
            clear hs2 hT2 hf3 hf4
            go_wp2_with fail
            refine (pass_at T2 hS hst3 hT3).mono ?_
            rintro e w4 ⟨rfl, hs4, hf6⟩
            go_wp2_with fail
            go_ret
            unfold SgOut
            exact ⟨ret_str rfl, by simpa using hs4, hf5.call hf6 (fun _ _ x => x)⟩
          | false =>
            have hr1 : hd r ≠ 61 := of_decide_eq_false hr
            have hz : (hd r != 61) = true := by simpa using hr1
            have HR := Lib.hid hr1
            clear hr hr1
            go_wp2_with fail
            refine (next_at T2 (.begin hs2) hT2).mono ?_
            rintro e w3 ⟨rfl, hst3, hf4⟩
            have hg3 := hg2.fr hf4 hgb
            have hf5 := hf3.call hf4 (fun _ _ x => x)
            obtain ⟨C, B, hs3, _, _⟩ := hst3
            clear hs2 hT2 hf3 hf4
            have y0 : w3.cell? ⟨g, 0, none⟩ = some (.int .i64 (along start pre).b) := hg3.cell 0 _ rfl
            have y1 : w3.cell? ⟨g, 1, none⟩ = some (.int .i64 (along start pre).g) := hg3.cell 1 _ rfl
            have y2 : w3.cell? ⟨g, 2, none⟩ = some (.int .i64 (along start pre).l) := hg3.cell 2 _ rfl
            have y3 : w3.cell? ⟨g, 3, none⟩ = some (.int .i64 (along start pre).c) := hg3.cell 3 _ rfl
            go_wp2_with fail
            refine (early_calls b _ _ C B w3 hs3 41 (along start pre)).mono ?_
            rintro e w4 ⟨rfl, hb4, hf6⟩
            go_wp2_with fail
            go_ret
            have htk : tk (58 :: r) = .bad 41 := by
              have hrr : ¬ r.head? = some 61 := by
                cases r with
                | nil => simp
                | cons x r2 => have := HR.out; simp [hd] at this ⊢; omega
              simp only [tk]
              rw [if_neg (by decide), if_neg (by decide), if_pos (by decide), if_neg (by decide), if_neg (by decide), if_pos (by decide), if_neg hrr]
            unfold SgOut
            rw [htk]
            exact ⟨_, _, _, rfl, hb4, hf5.call hf6 (fun _ _ x => x)⟩
        · have kb3 : ((c : Int) == 58) = false := by simp; omega
          by_cases k4 : c = 33
          · subst k4
            cases hr : decide (hd r = 61) with
            | true =>
              have hr1 : hd r = 61 := of_decide_eq_true hr
              obtain ⟨r2, rfl⟩ : ∃ r2, r = 61 :: r2 := by
                cases r with
                | nil => cases hr1
                | cons x r2 =>
                  have : x = 61 := by simp only [hd] at hr1; omega
                  exact ⟨r2, by rw [this]⟩
              clear hr hr1
              have hz : (hd (61 :: r2) != 61) = false := rfl
              go_wp2_with fail
              refine (next_at T2 (.begin hs2) hT2).mono ?_
              rintro e w3 ⟨rfl, hst3, hf4⟩
              have hT3 := hT2.fr hf4 hn0 hn1
              have hf5 := hf3.call hf4 (fun _ _ x => x)
              clear hs2 hT2 hf3 hf4
              go_wp2_with fail
              refine (pass_at T2 hS hst3 hT3).mono ?_
              rintro e w4 ⟨rfl, hs4, hf6⟩
              go_wp2_with fail
              go_ret
              unfold SgOut
              exact ⟨ret_str rfl, by simpa using hs4, hf5.call hf6 (fun _ _ x => x)⟩
            | false =>
              have hr1 : hd r ≠ 61 := of_decide_eq_false hr
              have hz : (hd r != 61) = true := by simpa using hr1
              have HR := Lib.hid hr1
              clear hr hr1
              go_wp2_with fail
              refine (next_at T2 (.begin hs2) hT2).mono ?_
              rintro e w3 ⟨rfl, hst3, hf4⟩
              have hg3 := hg2.fr hf4 hgb
              have hf5 := hf3.call hf4 (fun _ _ x => x)
              obtain ⟨C, B, hs3, _, _⟩ := hst3
              clear hs2 hT2 hf3 hf4
              have y0 : w3.cell? ⟨g, 0, none⟩ = some (.int .i64 (along start pre).b) := hg3.cell 0 _ rfl
              have y1 : w3.cell? ⟨g, 1, none⟩ = some (.int .i64 (along start pre).g) := hg3.cell 1 _ rfl
              have y2 : w3.cell? ⟨g, 2, none⟩ = some (.int .i64 (along start pre).l) := hg3.cell 2 _ rfl
              have y3 : w3.cell? ⟨g, 3, none⟩ = some (.int .i64 (along start pre).c) := hg3.cell 3 _ rfl
              go_wp2_with fail
              refine (early_calls b _ _ C B w3 hs3 41 (along start pre)).mono ?_
              rintro e w4 ⟨rfl, hb4, hf6⟩
              go_wp2_with fail
              go_ret
              have htk : tk (33 :: r) = .bad 41 := by
                have hrr : ¬ r.head? = some 61 := by
                  cases r with
                  | nil => simp
                  | cons x r2 => have := HR.out; simp [hd] at this ⊢; omega
                simp only [tk]
                rw [if_neg (by decide), if_neg (by decide), if_pos (by decide), if_neg (by decide), if_neg (by decide), if_pos (by decide), if_neg hrr]
              unfold SgOut
              rw [htk]
              exact ⟨_, _, _, rfl, hb4, hf5.call hf6 (fun _ _ x => x)⟩
          · have kb4 : ((c : Int) == 33) = false := by simp; omega
            have K := Lib.hid (And.intro k1 (And.intro k2 (And.intro k3 k4)))
            clear k1 k2 k3 k4
            go_wp2_with fail
            refine (Fold_calls _ _).mono ?_
            rintro e w' ⟨rfl, rfl⟩
            go_wp2_with fail
            go_ret
            obtain ⟨k1, k2, k3, k4⟩ := K.out
            have he : Utf8.encode (wrap32 (fold c)) = ⟨[UInt8.ofNat (fold c).toNat].toArray⟩ := by
              rcases sign_enc HC.out with h | h | h
              · exact h
              · exact absurd h k1
              · exact absurd h k2
            have htk : tk (c :: r) = .ok 3 [UInt8.ofNat (fold c).toNat] 1 := by
              have h5 := HC.out
              simp only [tk, h5]
              rw [if_neg (by decide), if_neg (by decide), if_pos (by decide), if_neg k1, if_neg k2, if_neg (by omega)]
            unfold SgOut
            rw [htk]
            exact ⟨ret_str he, hs2, hf3⟩
end Go.Proofs.YtlklijpjacmgpaaGreatDoor

