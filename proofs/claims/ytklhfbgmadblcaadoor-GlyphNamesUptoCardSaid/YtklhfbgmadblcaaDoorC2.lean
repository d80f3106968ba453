/- The program's scanner: broken, fail, early, next. -/
import Derived.Test.YtklhfbgmadblcaaDoorC1
namespace Go.Proofs.YtklhfbgmadblcaaDoor
open Go.RowKit
set_option linter.unusedVariables false
set_option linter.unusedSimpArgs false

/-- the tables of the decoder -/
def Tb (w : World) : Prop := Lib.Utf8Tabs 0 1 w
theorem Tb.fr {w w' : World} {S : Nat → Prop} (h : Tb w) (f : Fr S w w') (h0 : ¬ S 0) (h1 : ¬ S 1) : Tb w' := by
  have lt : ∀ {b i : Nat} {v : Value}, w.cell? ⟨b, i, none⟩ = some v → b < w.heap.size := fun {b i v} hc => by
    by_cases hb : b < w.heap.size
    · exact hb
    · simp [World.cell?, Array.getElem?_eq_none (Nat.le_of_not_lt hb)] at hc
  have keep : ∀ {b i : Nat} {v : Value}, ¬ S b → w.cell? ⟨b, i, none⟩ = some v → w'.cell? ⟨b, i, none⟩ = some v := fun {b i v} hb hc => by
    have := f.block b (lt hc) hb
    simp only [World.cell?] at hc ⊢
    rw [this]; exact hc
  exact ⟨fun c hc => keep h0 (h.1 c hc), fun i hi => ⟨keep h1 (h.2 i hi).1, keep h1 (h.2 i hi).2⟩⟩
theorem Tb.no {w w' : World} (h : Tb w) (f : Fr No w w') : Tb w' := h.fr f (fun x => x) (fun x => x)
theorem Tb.ne {w : World} {b : Nat} {s : ByteArray} (h : Tb w) (hc : w.cell? ⟨b, 0, none⟩ = some (.string s)) : ¬ (0 = b) ∧ ¬ (1 = b) := by
  constructor
  · rintro rfl
    have := h.1 0 (by omega)
    rw [hc] at this; cases this
  · rintro rfl
    have := (h.2 0 (by omega)).1
    rw [hc] at this; cases this

/-- what is left of a text -/
def tx (cs : List Nat) (t : List UInt8) : ByteArray := ⟨(cs.flatMap enc ++ t).toArray⟩
theorem tx_list (cs : List Nat) (t : List UInt8) : (tx cs t).data.toList = cs.flatMap enc ++ t := rfl
theorem tx_of {S : ByteArray} {cs : List Nat} {t : List UInt8} (T : Txt S.data.toList cs t) : S = tx cs t := by
  have := T.eq
  unfold tx
  rw [← this]
theorem tx_txt {l : List UInt8} {pre cs : List Nat} {t : List UInt8} (T : Txt l (pre ++ cs) t) : Txt (tx cs t).data.toList cs t :=
  ⟨rfl, fun c hc => T.ok c (List.mem_append_right _ hc), T.stop⟩
theorem tx_size {S : ByteArray} {pre cs : List Nat} {t : List UInt8} (T : Txt S.data.toList (pre ++ cs) t) (hS : S.size ≤ 4096) : (tx cs t).size ≤ 4096 := by
  have := T.len
  rw [Lib.size_eq] at hS ⊢
  rw [tx_list]
  simp only [List.flatMap_append, List.length_append] at this ⊢
  omega
theorem tx_cons_size {cs : List Nat} {c : Nat} {t : List UInt8} : (tx (c :: cs) t).size = (enc c).length + (tx cs t).size := by
  rw [Lib.size_eq, Lib.size_eq, tx_list, tx_list]; simp
theorem tx_pos {cs : List Nat} {c : Nat} {t : List UInt8} : 0 < (tx (c :: cs) t).size := by
  have := enc_pos c
  rw [tx_cons_size]; omega
theorem decode_tx {cs : List Nat} {c : Nat} {t : List UInt8} (h : okc c = true) : Utf8.decode (tx (c :: cs) t) 0 = (c, (enc c).length) := by
  obtain ⟨b, r, hbr⟩ : ∃ b r, (tx (c :: cs) t).data.toList = b :: r := by
    cases hq : (tx (c :: cs) t).data.toList with
    | nil =>
      have := tx_pos (c := c) (cs := cs) (t := t)
      rw [Lib.size_eq, hq] at this; simp at this
    | cons b r => exact ⟨b, r, rfl⟩
  rw [decode_head _ b r hbr, ← hbr, tx_list, List.flatMap_cons, List.append_assoc, dec_enc h]; rfl
theorem decode_bad {t : List UInt8} (h0 : t ≠ []) (h : dec t = none) : Utf8.decode (tx [] t) 0 = (65533, 1) := by
  obtain ⟨b, r, rfl⟩ : ∃ b r, t = b :: r := by
    cases t with
    | nil => exact absurd rfl h0
    | cons b r => exact ⟨b, r, rfl⟩
  rw [decode_head _ b r (by rw [tx_list]; rfl), h]; rfl
theorem go_tx {cs : List Nat} {c : Nat} {t : List UInt8} (h : okc c = true) : Lib.decodeGo (tx (c :: cs) t) = (c, (enc c).length) := by
  unfold Lib.decodeGo
  rw [if_neg (by have := tx_pos (c := c) (cs := cs) (t := t); omega), decode_tx h]
theorem go_bad {t : List UInt8} (h0 : t ≠ []) (h : dec t = none) : Lib.decodeGo (tx [] t) = (65533, 1) := by
  have : (tx [] t).size ≠ 0 := by
    rw [Lib.size_eq, tx_list]
    cases t with
    | nil => exact absurd rfl h0
    | cons b r => simp
  unfold Lib.decodeGo
  rw [if_neg this, decode_bad h0 h]

theorem drune_calls (s : ByteArray) (w : World) (hT : Tb w) {c n : Nat} (h : Lib.decodeGo s = (c, n)) :
    Calls Tryd.prog 67 #[.string s] w fun e w' => e = .returned (.tuple #[.int .i32 c, .int .i64 n]) ∧ Fr No w w' :=
  (Tryd.utf8_DecodeRuneInString s w hT).mono fun e w' hh => ⟨by rw [hh.1, h], Fr.of_below hh.2⟩

set_option maxHeartbeats 400000 in
/-- broken: false where a code point begins -/
theorem broken_no {cs : List Nat} {c : Nat} {t : List UInt8} (h : okc c = true) (w : World) (hT : Tb w) :
    Calls Tryd.prog 44 #[.string (tx (c :: cs) t), .int .i32 c] w fun e w' => e = .returned (.bool false) ∧ Fr No w w' := by
  by_cases he : c = 65533
  · subst he
    have hd := go_tx (cs := cs) (t := t) h
    have h3 : (enc 65533).length = 3 := rfl
    rw [h3] at hd
    go_enter Tryd.func44, Tryd.ntmps44
    go_wp2_with fail
    refine (drune_calls _ w hT hd).mono ?_
    rintro e w1 ⟨rfl, hf⟩
    go_wp2_with fail
    go_ret
    exact ⟨rfl, hf⟩
  · have hz : ((c : Int) != 65533) = true := by simp; omega
    go_enter Tryd.func44, Tryd.ntmps44
    go_wp2_with fail
    go_ret
    exact ⟨rfl, Fr.refl _ _⟩

set_option maxHeartbeats 400000 in
theorem broken_yes {t : List UInt8} (h0 : t ≠ []) (h : dec t = none) (w : World) (hT : Tb w) :
    Calls Tryd.prog 44 #[.string (tx [] t), .int .i32 65533] w fun e w' => e = .returned (.bool true) ∧ Fr No w w' := by
  have hd := go_bad h0 h
  go_enter Tryd.func44, Tryd.ntmps44
  go_wp2_with fail
  refine (drune_calls _ w hT hd).mono ?_
  rintro e w1 ⟨rfl, hf⟩
  go_wp2_with fail
  go_ret
  exact ⟨rfl, hf⟩

/-- the scanner: what is left, where that begins, the error and its place -/
def scO (s : ByteArray) (p : Pl) (code : Int) (bad : Pl) : Obj := .cells #[.string s, .int .i64 p.b, .int .i64 p.g, .int .i64 p.l, .int .i64 p.c, .int .i64 code, .int .i64 bad.b, .int .i64 bad.g, .int .i64 bad.l, .int .i64 bad.c] 69 (0, 0)
def Sc (w : World) (b : Nat) (cs : List Nat) (t : List UInt8) (p : Pl) (code : Int) (bad : Pl) : Prop := Blk w b (scO (tx cs t) p code bad)
theorem Sc.blk {w : World} {b : Nat} {cs : List Nat} {t : List UInt8} {p : Pl} {code : Int} {bad : Pl} (h : Sc w b cs t p code bad) : Blk w b (scO (tx cs t) p code bad) := h
theorem Sc.no {w w' : World} {b : Nat} {cs : List Nat} {t : List UInt8} {p : Pl} {code : Int} {bad : Pl} (h : Sc w b cs t p code bad) (f : Fr No w w') : Sc w' b cs t p code bad := Blk.fr h f (fun x => x)
theorem Tb.sc {w : World} {b : Nat} {cs : List Nat} {t : List UInt8} {p : Pl} {code : Int} {bad : Pl} (hT : Tb w) (h : Sc w b cs t p code bad) : ¬ (0 = b) ∧ ¬ (1 = b) :=
  hT.ne (h.blk.cell 0 _ rfl)

theorem set_bad {w : World} {b : Nat} {s : ByteArray} {p : Pl} {code : Int} {bad : Pl} (h : Blk w b (scO s p code bad)) (e : Int) (q : Pl) (W : World)
    (hW : W = ((((w.setCell ⟨b, 5, none⟩ (.int .i64 e)).setCell ⟨b, 6, none⟩ (.int .i64 q.b)).setCell ⟨b, 7, none⟩ (.int .i64 q.g)).setCell ⟨b, 8, none⟩ (.int .i64 q.l)).setCell ⟨b, 9, none⟩ (.int .i64 q.c)) :
    Blk W b (scO s p e q) ∧ Fr (· = b) w W := by
  subst hW
  refine ⟨((((h.setOff 5 _).setOff 6 _).setOff 7 _).setOff 8 _).setOff 9 _, ?_⟩
  with_reducible repeat (first | refine Fr.setCell ?_ _ (fun _ => rfl) | exact Fr.refl _ _)

set_option maxHeartbeats 1000000 in
theorem early_calls (b : Nat) (s : ByteArray) (p : Pl) (code : Int) (bad : Pl) (w : World) (hb : Blk w b (scO s p code bad)) (e0 : Int) (q : Pl) :
    Calls Tryd.prog 61 #[ptrV b, .int .i64 e0, .agg (plA q)] w fun e w' => e = .returned (.tuple #[]) ∧ Blk w' b (scO s p e0 q) ∧ Fr (· = b) w w' := by
  have hlt := hb.lt
  have hbn : Blk (w.alloc (.cells (plA q) 27 (0, 0))) b (scO s p code bad) := hb.alloc _
  have hq : Blk (w.alloc (.cells (plA q) 27 (0, 0))) w.heap.size (plO q) := Blk.new _ _
  have hf : Fr (· = b) w (w.alloc (.cells (plA q) 27 (0, 0))) := (Fr.refl _ _).alloc _
  go_enter Tryd.func61, Tryd.ntmps61
  go_wp2_with fail
  generalize w.alloc (.cells (plA q) 27 (0, 0)) = w1 at hbn hq hf ⊢
  have g0 : w1.cell? ⟨w.heap.size, 0, none⟩ = some (.int .i64 q.b) := hq.cell 0 _ rfl
  have g1 : w1.cell? ⟨w.heap.size, 1, none⟩ = some (.int .i64 q.g) := hq.cell 1 _ rfl
  have g2 : w1.cell? ⟨w.heap.size, 2, none⟩ = some (.int .i64 q.l) := hq.cell 2 _ rfl
  have g3 : w1.cell? ⟨w.heap.size, 3, none⟩ = some (.int .i64 q.c) := hq.cell 3 _ rfl
  have r5 : w1.cell? ⟨b, 5, none⟩ = some (.int .i64 code) := hbn.cell 5 _ rfl
  have r6 : w1.cell? ⟨b, 6, none⟩ = some (.int .i64 bad.b) := hbn.cell 6 _ rfl
  have r7 : w1.cell? ⟨b, 7, none⟩ = some (.int .i64 bad.g) := hbn.cell 7 _ rfl
  have r8 : w1.cell? ⟨b, 8, none⟩ = some (.int .i64 bad.l) := hbn.cell 8 _ rfl
  have r9 : w1.cell? ⟨b, 9, none⟩ = some (.int .i64 bad.c) := hbn.cell 9 _ rfl
  have f5 := hbn.free 5
  have f6 := hbn.free 6
  have f7 := hbn.free 7
  have f8 := hbn.free 8
  have f9 := hbn.free 9
  have hne : b ≠ w.heap.size := by omega
  have hne2 : w.heap.size ≠ b := by omega
  go_region
  go_wp2_with fail
  obtain ⟨e1, e2⟩ := set_bad hbn e0 q _ rfl
  go_end0
  exact ⟨rfl, e1.drew, hf.call e2.drew (fun _ _ x => x)⟩

set_option maxHeartbeats 1000000 in
theorem fail_first (b : Nat) (s : ByteArray) (p : Pl) (bad : Pl) (w : World) (hb : Blk w b (scO s p 0 bad)) (e0 : Int) (q : Pl) :
    Calls Tryd.prog 65 #[ptrV b, .int .i64 e0, .agg (plA q)] w fun e w' => e = .returned (.tuple #[]) ∧ Blk w' b (scO s p e0 q) ∧ Fr (· = b) w w' := by
  have hlt := hb.lt
  have hbn : Blk (w.alloc (.cells (plA q) 27 (0, 0))) b (scO s p 0 bad) := hb.alloc _
  have hq : Blk (w.alloc (.cells (plA q) 27 (0, 0))) w.heap.size (plO q) := Blk.new _ _
  have hf : Fr (· = b) w (w.alloc (.cells (plA q) 27 (0, 0))) := (Fr.refl _ _).alloc _
  go_enter Tryd.func65, Tryd.ntmps65
  go_upto_region 1 with (fail)
  generalize w.alloc (.cells (plA q) 27 (0, 0)) = w1 at hbn hq hf ⊢
  have g0 : w1.cell? ⟨w.heap.size, 0, none⟩ = some (.int .i64 q.b) := hq.cell 0 _ rfl
  have g1 : w1.cell? ⟨w.heap.size, 1, none⟩ = some (.int .i64 q.g) := hq.cell 1 _ rfl
  have g2 : w1.cell? ⟨w.heap.size, 2, none⟩ = some (.int .i64 q.l) := hq.cell 2 _ rfl
  have g3 : w1.cell? ⟨w.heap.size, 3, none⟩ = some (.int .i64 q.c) := hq.cell 3 _ rfl
  have r5 : w1.cell? ⟨b, 5, none⟩ = some (.int .i64 0) := hbn.cell 5 _ rfl
  have r6 : w1.cell? ⟨b, 6, none⟩ = some (.int .i64 bad.b) := hbn.cell 6 _ rfl
  have r7 : w1.cell? ⟨b, 7, none⟩ = some (.int .i64 bad.g) := hbn.cell 7 _ rfl
  have r8 : w1.cell? ⟨b, 8, none⟩ = some (.int .i64 bad.l) := hbn.cell 8 _ rfl
  have r9 : w1.cell? ⟨b, 9, none⟩ = some (.int .i64 bad.c) := hbn.cell 9 _ rfl
  have f5 := hbn.free 5
  have f6 := hbn.free 6
  have f7 := hbn.free 7
  have f8 := hbn.free 8
  have f9 := hbn.free 9
  have hne : b ≠ w.heap.size := by omega
  have hne2 : w.heap.size ≠ b := by omega
  go_wp2_with fail
  go_region
  go_wp2_with fail
  obtain ⟨e1, e2⟩ := set_bad hbn e0 q _ rfl
  go_end0
  exact ⟨rfl, e1.drew, hf.call e2.drew (fun _ _ x => x)⟩

set_option maxHeartbeats 1000000 in
theorem fail_again (b : Nat) (s : ByteArray) (p : Pl) (code : Int) (bad : Pl) (w : World) (hb : Blk w b (scO s p code bad)) (hc : code ≠ 0) (e0 : Int) (q : Pl) :
    Calls Tryd.prog 65 #[ptrV b, .int .i64 e0, .agg (plA q)] w fun e w' => e = .returned (.tuple #[]) ∧ Fr No w w' := by
  have hlt := hb.lt
  have hcz : (code == 0) = false := by simpa using hc
  have hbn : Blk (w.alloc (.cells (plA q) 27 (0, 0))) b (scO s p code bad) := hb.alloc _
  have hf : Fr No w (w.alloc (.cells (plA q) 27 (0, 0))) := (Fr.refl _ _).alloc _
  go_enter Tryd.func65, Tryd.ntmps65
  go_upto_region 1 with (fail)
  generalize w.alloc (.cells (plA q) 27 (0, 0)) = w1 at hbn hf ⊢
  have r5 : w1.cell? ⟨b, 5, none⟩ = some (.int .i64 code) := hbn.cell 5 _ rfl
  go_wp2_with fail
  go_end0
  exact ⟨rfl, hf⟩

/-- next, where a code point stands -/
theorem next_some {cs : List Nat} {c : Nat} {t : List UInt8} (h : okc c = true) {w : World} {b : Nat} {p : Pl} {code : Int} {bad : Pl} (hb : Sc w b (c :: cs) t p code bad) (hT : Tb w) :
    Calls Tryd.prog 57 #[ptrV b] w fun e w' => e = .returned (.int .i64 c) ∧ Fr No w w' := by
  have hlt := hb.blk.lt
  have hc := okc_lt h
  have hd := decode_tx (cs := cs) (t := t) h
  have hp := tx_pos (c := c) (cs := cs) (t := t)
  have r0 : w.cell? ⟨b, 0, none⟩ = some (.string (tx (c :: cs) t)) := hb.blk.cell 0 _ rfl
  go_enter Tryd.func57, Tryd.ntmps57
  go_wp2_with fail
  go_loopg [2] 0 (fun gk x2 wr => wr = w.iter (tx (c :: cs) t) 0 ∧ x2 = .int .i64 0)
  case atStart => exact ⟨rfl, rfl⟩
  case round =>
    obtain ⟨rfl, rfl⟩ := hrel
    have hit := World.iter_heap w (tx (c :: cs) t) 0
    have hnx : ∀ ty, (Instr.next (.pointer (some ⟨w.heap.size, 0, none⟩)) true ty).run Tryd.prog (w.iter (tx (c :: cs) t) 0) = _ := fun ty => Lib.run_next_any_at _ _ _ 0 ty hit hp
    rw [hd] at hnx
    have hf : Fr No w ((w.iter (tx (c :: cs) t) 0).iterAt w.heap.size (tx (c :: cs) t) (0 + (enc c).length)) := Fr.of_below (Lib.below_iterAt ((Below.refl _ w).alloc (Nat.le_refl _) _) (Nat.le_refl _) _ _)
    generalize (w.iter (tx (c :: cs) t) 0).iterAt w.heap.size (tx (c :: cs) t) (0 + (enc c).length) = w1 at hnx hf
    have hb1 := hb.no hf
    have hT1 := hT.no hf
    have r1 : w1.cell? ⟨b, 0, none⟩ = some (.string (tx (c :: cs) t)) := hb1.blk.cell 0 _ rfl
    go_wp2_with fail
    refine (broken_no h _ hT1).mono ?_
    rintro e w2 ⟨rfl, hf2⟩
    go_wp2_with fail
    go_ret
    exact ⟨by simp, hf.callNo hf2⟩

/-- the error, where nothing stands -/
def fz (t : List UInt8) (p : Pl) (code : Int) (bad : Pl) : Int × Pl := if t = [] then (code, bad) else if code = 0 then (40, p) else (code, bad)

set_option maxHeartbeats 400000 in
/-- next, where no code point stands -/
theorem next_none {t : List UInt8} (h : dec t = none) {w : World} {b : Nat} {p : Pl} {code : Int} {bad : Pl} (hb : Sc w b [] t p code bad) (hT : Tb w) :
    Calls Tryd.prog 57 #[ptrV b] w fun e w' => e = .returned (.int .i64 (-1)) ∧ Sc w' b [] t p (fz t p code bad).1 (fz t p code bad).2 ∧ Fr (· = b) w w' := by
  have hlt := hb.blk.lt
  have r0 : w.cell? ⟨b, 0, none⟩ = some (.string (tx [] t)) := hb.blk.cell 0 _ rfl
  by_cases ht : t = []
  · subst ht
    have hz : ¬ 0 < (tx [] []).size := by rw [Lib.size_eq, tx_list]; simp
    go_enter Tryd.func57, Tryd.ntmps57
    go_wp2_with fail
    go_loopg [2] 0 (fun gk x2 wr => wr = w.iter (tx [] []) 0 ∧ x2 = .int .i64 0)
    case atStart => exact ⟨rfl, rfl⟩
    case round =>
      obtain ⟨rfl, rfl⟩ := hrel
      have hit := World.iter_heap w (tx [] []) 0
      have hnx : ∀ ty, (Instr.next (.pointer (some ⟨w.heap.size, 0, none⟩)) true ty).run Tryd.prog (w.iter (tx [] []) 0) = _ := fun ty => Lib.run_next_end_at _ _ _ 0 ty hit hz
      go_wp2_with fail
      go_ret
      refine ⟨by simp, ?_, ?_⟩
      · simp only [fz, if_true]; exact hb.alloc _
      · exact (Fr.refl _ _).alloc _
  · have hd := decode_bad ht h
    have hp : 0 < (tx [] t).size := by
      rw [Lib.size_eq, tx_list]
      cases t with
      | nil => exact absurd rfl ht
      | cons b r => simp
    have hfz : fz t p code bad = if code = 0 then (40, p) else (code, bad) := if_neg ht
    have HT := Lib.hid ht
    clear ht
    go_enter Tryd.func57, Tryd.ntmps57
    go_wp2_with fail
    go_loopg [2] 0 (fun gk x2 wr => wr = w.iter (tx [] t) 0 ∧ x2 = .int .i64 0)
    case atStart => exact ⟨rfl, rfl⟩
    case round =>
      obtain ⟨rfl, rfl⟩ := hrel
      have hit := World.iter_heap w (tx [] t) 0
      have hnx : ∀ ty, (Instr.next (.pointer (some ⟨w.heap.size, 0, none⟩)) true ty).run Tryd.prog (w.iter (tx [] t) 0) = _ := fun ty => Lib.run_next_any_at _ _ _ 0 ty hit hp
      rw [hd] at hnx
      have hf : Fr No w ((w.iter (tx [] t) 0).iterAt w.heap.size (tx [] t) (0 + 1)) := Fr.of_below (Lib.below_iterAt ((Below.refl _ w).alloc (Nat.le_refl _) _) (Nat.le_refl _) _ _)
      generalize (w.iter (tx [] t) 0).iterAt w.heap.size (tx [] t) (0 + 1) = w1 at hnx hf
      have hb1 := hb.no hf
      have hT1 := hT.no hf
      have r1 : w1.cell? ⟨b, 0, none⟩ = some (.string (tx [] t)) := hb1.blk.cell 0 _ rfl
      go_wp2_with fail
      refine (broken_yes HT.out h _ hT1).mono ?_
      rintro e w2 ⟨rfl, hf2⟩
      have hb2 := hb1.no hf2
      have hf3 := hf.callNo hf2
      clear hb1 hf hf2 r1 hnx hit hT1
      have q1 : w2.cell? ⟨b, 1, none⟩ = some (.int .i64 p.b) := hb2.blk.cell 1 _ rfl
      have q2 : w2.cell? ⟨b, 2, none⟩ = some (.int .i64 p.g) := hb2.blk.cell 2 _ rfl
      have q3 : w2.cell? ⟨b, 3, none⟩ = some (.int .i64 p.l) := hb2.blk.cell 3 _ rfl
      have q4 : w2.cell? ⟨b, 4, none⟩ = some (.int .i64 p.c) := hb2.blk.cell 4 _ rfl
      go_wp2_with fail
      by_cases hc : code = 0
      · subst hc
        refine (fail_first b _ p bad w2 hb2 40 p).mono ?_
        rintro e w3 ⟨rfl, hb3, hf4⟩
        go_wp2_with fail
        go_ret
        refine ⟨rfl, ?_, hf3.mono (fun _ _ x => x.elim) |>.call hf4 (fun _ _ x => x)⟩
        rw [hfz]; exact hb3
      · have HC := Lib.hid hc
        clear hc
        refine (fail_again b _ p code bad w2 hb2 HC.out 40 p).mono ?_
        rintro e w3 ⟨rfl, hf4⟩
        go_wp2_with fail
        go_ret
        refine ⟨rfl, ?_, (hf3.callNo hf4).mono (fun _ _ x => x.elim)⟩
        rw [hfz, if_neg HC.out]; exact hb2.no hf4

set_option maxHeartbeats 400000 in
theorem class_some {cs : List Nat} {c : Nat} {t : List UInt8} (h : okc c = true) {w : World} {b : Nat} {p : Pl} {code : Int} {bad : Pl} (hb : Sc w b (c :: cs) t p code bad) (hT : Tb w) :
    Calls Tryd.prog 55 #[ptrV b] w fun e w' => e = .returned (.int .i64 (cls c)) ∧ Fr No w w' := by
  go_enter Tryd.func55, Tryd.ntmps55
  go_wp2_with fail
  refine (next_some h hb hT).mono ?_
  rintro e w1 ⟨rfl, hf⟩
  have hz : ¬ ((c : Int) < 0) := by omega
  go_wp2_with fail
  refine (Class_calls _ _).mono ?_
  rintro e w' ⟨rfl, rfl⟩
  go_wp2_with fail
  go_ret
  exact ⟨rfl, hf⟩

set_option maxHeartbeats 400000 in
theorem class_none {t : List UInt8} (h : dec t = none) {w : World} {b : Nat} {p : Pl} {code : Int} {bad : Pl} (hb : Sc w b [] t p code bad) (hT : Tb w) :
    Calls Tryd.prog 55 #[ptrV b] w fun e w' => e = .returned (.int .i64 (-1)) ∧ Sc w' b [] t p (fz t p code bad).1 (fz t p code bad).2 ∧ Fr (· = b) w w' := by
  go_enter Tryd.func55, Tryd.ntmps55
  go_wp2_with fail
  refine (next_none h hb hT).mono ?_
  rintro e w1 ⟨rfl, hs, hf⟩
  go_wp2_with fail
  go_ret
  exact ⟨rfl, hs, hf⟩

theorem tx_cut (c : Nat) (cs : List Nat) (t : List UInt8) : (tx (c :: cs) t).extract (enc c).length (tx (c :: cs) t).size = tx cs t := by
  rw [Lib.extract_eq]
  have : (tx (c :: cs) t).data.toList = enc c ++ (cs.flatMap enc ++ t) := by rw [tx_list]; simp
  have h3 := tx_cons_size (c := c) (cs := cs) (t := t)
  have h2 : (tx cs t).size = (cs.flatMap enc ++ t).length := by rw [Lib.size_eq, tx_list]
  rw [this, List.drop_left, List.take_of_length_le (by omega)]
  rfl

theorem pass_end {w : World} {b : Nat} {s : ByteArray} {p : Pl} {code : Int} {bad : Pl} (h : Blk w b (scO s p code bad)) (q : Pl) (W : World)
    (hW : W = (((w.setCell ⟨b, 1, none⟩ (.int .i64 q.b)).setCell ⟨b, 2, none⟩ (.int .i64 q.g)).setCell ⟨b, 3, none⟩ (.int .i64 q.l)).setCell ⟨b, 4, none⟩ (.int .i64 q.c)) :
    Blk W b (scO s q code bad) ∧ Fr (· = b) w W := by
  subst hW
  refine ⟨(((h.setOff 1 _).setOff 2 _).setOff 3 _).setOff 4 _, ?_⟩
  with_reducible repeat (first | refine Fr.setCell ?_ _ (fun _ => rfl) | exact Fr.refl _ _)

set_option maxHeartbeats 1000000 in
theorem pass_calls {cs : List Nat} {c : Nat} {t : List UInt8} (h : okc c = true) {w : World} {b : Nat} {p : Pl} {code : Int} {bad : Pl} (hp : p.fits 4096) (hsz : (tx (c :: cs) t).size ≤ 4096) (hb : Sc w b (c :: cs) t p code bad) (hT : Tb w) :
    Calls Tryd.prog 56 #[ptrV b] w fun e w' => e = .returned (.tuple #[]) ∧ Sc w' b cs t (behind p c) code bad ∧ Fr (· = b) w w' := by
  have hlt := hb.blk.lt
  have r0 : w.cell? ⟨b, 0, none⟩ = some (.string (tx (c :: cs) t)) := hb.blk.cell 0 _ rfl
  go_enter Tryd.func56, Tryd.ntmps56
  go_wp2_with fail
  refine (drune_calls _ w hT (go_tx h)).mono ?_
  rintro e w1 ⟨rfl, hf1⟩
  have hb1 := hb.no hf1
  have q1 : w1.cell? ⟨b, 1, none⟩ = some (.int .i64 p.b) := hb1.blk.cell 1 _ rfl
  have q2 : w1.cell? ⟨b, 2, none⟩ = some (.int .i64 p.g) := hb1.blk.cell 2 _ rfl
  have q3 : w1.cell? ⟨b, 3, none⟩ = some (.int .i64 p.l) := hb1.blk.cell 3 _ rfl
  have q4 : w1.cell? ⟨b, 4, none⟩ = some (.int .i64 p.c) := hb1.blk.cell 4 _ rfl
  go_wp2_with fail
  refine (behind_calls h p hp _).mono ?_
  rintro e w2 ⟨rfl, hf2⟩
  have hb2 := hb1.no hf2
  have hf3 := (hf1.callNo hf2).mono (S' := (· = b)) (fun _ _ x => x.elim)
  clear q1 q2 q3 q4 hb1 hf1 hf2
  have q0 : w2.cell? ⟨b, 0, none⟩ = some (.string (tx (c :: cs) t)) := hb2.blk.cell 0 _ rfl
  have q1 : w2.cell? ⟨b, 1, none⟩ = some (.int .i64 p.b) := hb2.blk.cell 1 _ rfl
  have q2 : w2.cell? ⟨b, 2, none⟩ = some (.int .i64 p.g) := hb2.blk.cell 2 _ rfl
  have q3 : w2.cell? ⟨b, 3, none⟩ = some (.int .i64 p.l) := hb2.blk.cell 3 _ rfl
  have q4 : w2.cell? ⟨b, 4, none⟩ = some (.int .i64 p.c) := hb2.blk.cell 4 _ rfl
  have f0 := hb2.blk.free 0
  have f1 := hb2.blk.free 1
  have f2 := hb2.blk.free 2
  have f3 := hb2.blk.free 3
  have f4 := hb2.blk.free 4
  have hcs := tx_cons_size (c := c) (cs := cs) (t := t)
  have hcut := tx_cut c cs t
  simp only [plA]
  go_upto_region 2 with (fail)
  obtain ⟨e1, e2⟩ := pass_end hb2.blk (behind p c) _ rfl
  generalize (((w2.setCell ⟨b, 1, none⟩ (.int .i64 (behind p c).b)).setCell ⟨b, 2, none⟩ (.int .i64 (behind p c).g)).setCell ⟨b, 3, none⟩ (.int .i64 (behind p c).l)).setCell ⟨b, 4, none⟩ (.int .i64 (behind p c).c) = w3 at e1 e2 ⊢
  have k0 : w3.cell? ⟨b, 0, none⟩ = some (.string (tx (c :: cs) t)) := e1.cell 0 _ rfl
  have n0 := e1.free 0
  have hf4 := hf3.call e2 (fun _ _ x => x)
  clear hb2 q0 q1 q2 q3 q4 f0 f1 f2 f3 f4 hf3 e2
  go_wp2_with fail
  go_end0
  refine ⟨rfl, ?_, hf4.setCell _ (fun _ => rfl)⟩
  rw [← hcs, hcut]
  exact e1.setOff 0 _

end Go.Proofs.YtklhfbgmadblcaaDoor
