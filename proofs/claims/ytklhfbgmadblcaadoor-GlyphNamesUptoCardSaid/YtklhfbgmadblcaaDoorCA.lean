/- The program's Scan. -/
import Derived.Test.YtklhfbgmadblcaaDoorC9
namespace Go.Proofs.YtklhfbgmadblcaaDoor
open Go.RowKit
set_option linter.unusedVariables false
set_option linter.unusedSimpArgs false

set_option maxHeartbeats 1000000 in
theorem Scan_long (s : ByteArray) (w : World) (h : 4096 < s.size) (hmax : s.size ≤ maxLen) :
    Calls Tryd.prog 19 #[.string s] w (ScanOut w (.bad 2 zeroPl)) := by
  unfold maxLen at hmax
  go_enter Tryd.func19, Tryd.ntmps19
  go_wp2_with fail
  have e1 : Blk _ w.heap.size (plO zeroPl) := Blk.new w (plO zeroPl)
  exact bodyPost_ret (results_ttc rfl _ _ _ _ rfl (load_pl e1 rfl)) rfl ⟨rfl, (Fr.refl No w).alloc _⟩

theorem PTok.fr {w : World} {b : Nat} {pre cs : List Nat} {t : List UInt8} {e : Ending} {w' : World} (h : PTok w b pre cs t e w') : Fr (· = b) w w' := by
  cases cs with
  | nil => exact h.2.2
  | cons c r =>
    unfold PTok at h
    simp only at h
    split at h
    · obtain ⟨_, _, _, _, _, _, h⟩ := h; exact h
    · obtain ⟨_, _, _, _, h, _⟩ := h; exact h

/-- what Scan's loop holds -/
def PsRel (s : ByteArray) (w wr : World) (b : Nat) (brk : Bool) (t : List UInt8) (R : Res) (gk : Nat) (x6 : Value) : Prop :=
  ∃ (pre cs : List Nat) (acc : List Tok) (a : Option Addr) (ca : Nat), x6 = .slice a acc.length ca ∧ Txt s.data.toList (pre ++ cs) t ∧ R = Res.pre acc (scan brk gk pre cs) ∧ cs.length < gk ∧ acc.length + gk ≤ 4097 ∧
    wr.ownsRow (b + 1) 37 6 (.slice a acc.length ca) acc.length (toksV acc) ∧ Sc wr b cs t (along start pre) 0 zeroPl ∧ Fr No w wr ∧ Blk wr w.heap.size (plO zeroPl) ∧ Tb wr

/-- the world behind the loop's token -/
structure PtW (w w4 : World) (b g : Nat) (s : ByteArray) (p : Pl) (code : Int) (bad : Pl) (k : Int) (x : ByteArray) (p2 : Pl) (a : Option Addr) (ca : Nat) (acc : List Tok) : Prop where
  sc : Blk w4 b (scO s p code bad)
  tk : Blk w4 g (tokO k x p2)
  res : Blk w4 w.heap.size (plO zeroPl)
  own : w4.ownsRow (b + 1) 37 6 (.slice a acc.length ca) acc.length (toksV acc)
  fr : Fr No w w4
  tb : Tb w4
  ne : ∀ k, (Value.slice a acc.length ca).ownBlock = some k → k < g
  gb : b < g
  hb : w.heap.size < b

theorem PtW.of {w w3 : World} {b : Nat} {s : ByteArray} {p : Pl} {code : Int} {bad : Pl} {k : Int} {x : ByteArray} {p2 : Pl} {a : Option Addr} {ca : Nat} {acc : List Tok}
    (h1 : Blk w3 b (scO s p code bad)) (h2 : Blk w3 w.heap.size (plO zeroPl)) (h3 : w3.ownsRow (b + 1) 37 6 (.slice a acc.length ca) acc.length (toksV acc)) (h4 : Fr No w w3) (h5 : Tb w3) (h6 : w.heap.size < b) :
    PtW w (w3.alloc (.cells #[.int .i64 k, .string x, .int .i64 p2.b, .int .i64 p2.g, .int .i64 p2.l, .int .i64 p2.c] 37)) b w3.heap.size s p code bad k x p2 a ca acc :=
  ⟨h1.alloc _, Blk.new w3 (tokO k x p2), h2.alloc _, h3.alloc _, h4.alloc _, h5.no ((Fr.refl _ _).alloc _), fun k hk => (h3.lt k hk).2, h1.lt, h6⟩

set_option maxRecDepth 100000 in
set_option maxHeartbeats 4000000 in
theorem Scan_short (s : ByteArray) (w : World) (hT : Tb w) (hS : s.size ≤ 4096) {cs : List Nat} {t : List UInt8} (T : Txt s.data.toList cs t) :
    Calls Tryd.prog 19 #[.string s] w (ScanOut w (scanOf cs t)) := by
  obtain ⟨i0, hi, hz0, hz1, hz2⟩ := info_parts info_tok
  have hcs : cs.length ≤ 4096 := by have := T.len_le; rw [← Lib.size_eq] at this; omega
  have hd : decide ((4096 : Int) < (s.size : Int)) = false := by simp; omega
  have hst := tx_of T
  have HST := Lib.hid hst
  clear hst
  go_enter Tryd.func19, Tryd.ntmps19
  go_wp2_with fail
  refine (start_calls _).mono ?_
  rintro e w1 ⟨rfl, hf1⟩
  have hblk0 : Blk w1 w.heap.size (plO zeroPl) := (Blk.new w (plO zeroPl)).fr hf1 (fun x => x)
  have hf := ((Fr.refl No w).alloc _).callNo hf1
  have hT1 := hT.no hf
  have hb0 : w.heap.size < w1.heap.size := hblk0.lt
  simp only [plA]
  go_upto_region 4 with (fail)
  obtain ⟨b, hbe⟩ : ∃ b, w1.heap.size = b := ⟨_, rfl⟩
  have hone : ∀ W, W = w1.alloc (scO s start 0 zeroPl) → Sc W b cs t (along start []) 0 zeroPl ∧ Blk W w.heap.size (plO zeroPl) ∧ Fr No w W ∧ Tb W := by
    rintro W rfl
    refine ⟨?_, hblk0.alloc _, hf.alloc _, hT1.no ((Fr.refl _ _).alloc _)⟩
    unfold Sc
    rw [← hbe, ← HST.out]
    exact Blk.new w1 _
  generalize hW : w1.alloc _ = w2
  obtain ⟨hsc, hblk, hf2, hT2⟩ := hone w2 (by rw [← hW]; rfl)
  have hws : w2.heap.size = b + 1 := by rw [← hW, ← hbe]; simp
  rw [hbe] at hb0 ⊢
  have HBE := Lib.hid hbe
  clear hone hW hf1 hblk0 hf hT1 hbe
  go_wp2_with fail
  go_loopg [6] (cs.length + 1) (fun gk x6 wr => PsRel s w wr b (!t.isEmpty) t (scanOf cs t) gk x6)
  case atStart => exact ⟨[], cs, [], none, 0, rfl, T, by rw [Res.pre_nil]; rfl, by omega, by simp; omega, World.ownsRow_nil _ _ _ _, hsc, hf2, hblk, hT2⟩
  case round =>
    obtain ⟨pre, cs1, acc, a, ca, rfl, T1, hR, hlen, hacc, ho, hsc, hf, hblk, hTr⟩ := hrel
    obtain ⟨n, rfl⟩ : ∃ n, gk = n + 1 := ⟨gk - 1, by omega⟩
    have HR := Lib.hid hR
    clear hR
    obtain ⟨hn0, hn1⟩ := hTr.sc hsc
    go_wp2_with fail
    refine (blanks_calls T1 hS hsc hTr).mono ?_
    rintro e w2 ⟨rfl, hs2, hf2⟩
    have hT2 := hTr.fr hf2 hn0 hn1
    have hblk2 := hblk.fr hf2 (by omega)
    have ho2 := own_fr ho hf2 (fun k hk => by have := (ho.lt k hk).1; omega)
    have hff2 := hf.call hf2 (fun k hk hkb => by omega)
    clear hblk ho hf hsc hf2 hTr
    have hsa := skipped_append cs1
    have T2 : Txt s.data.toList ((pre ++ skipped cs1) ++ skipC false cs1) t := by rw [List.append_assoc, hsa]; exact T1
    have hl2 := skipC_le cs1 false
    go_wp2_with fail
    refine (ptoken_calls T2 hS hs2 hT2).mono ?_
    intro e w3 hpt
    have hfr3 := hpt.fr
    have hblk3 := hblk2.fr hfr3 (by omega)
    have ho3 := own_fr ho2 hfr3 (fun k hk => by have := (ho2.lt k hk).1; omega)
    have hf3 := hff2.call hfr3 (fun k hk hkb => by omega)
    have hT3 := hT2.fr hfr3 hn0 hn1
    clear hblk2 ho2 hff2 hs2 hfr3 hT2
    cases hsk : skipC false cs1 with
    | nil =>
      rw [hsk] at hpt hsa T2
      unfold PTok at hpt
      obtain ⟨rfl, hs3, _⟩ := hpt
      have hscs : skipped cs1 = cs1 := by simpa using hsa
      have HS := Lib.hid (And.intro hscs hsk)
      simp only [tokA]
      by_cases ht : t = []
      · have hfz : fz t (along start (pre ++ skipped cs1)) 0 zeroPl = (0, zeroPl) := if_pos ht
        rw [hfz] at hs3
        have H4 := PtW.of (k := 0) (x := ⟨#[]⟩) (p2 := along start (pre ++ skipped cs1)) hs3 hblk3 ho3 hf3 hT3 hb0
        have HT := Lib.hid ht
        clear hfz hs3 hblk3 ho3 hf3 hT3 hsk hscs hsa ht
        go_upto_region 7 with (fail)
        generalize w3.alloc _ = w4 at H4 ⊢
        generalize w3.heap.size = g at H4 ⊢
        have hgb := H4.gb
        have hglt := H4.tk.lt
        have k0 : w4.cell? ⟨g, 0, none⟩ = some (.int .i64 0) := H4.tk.cell 0 _ rfl
        have k1 : w4.cell? ⟨g, 1, none⟩ = some (.string ⟨#[]⟩) := H4.tk.cell 1 _ rfl
        have k2 : w4.cell? ⟨g, 2, none⟩ = some (.int .i64 (along start (pre ++ skipped cs1)).b) := H4.tk.cell 2 _ rfl
        have k3 : w4.cell? ⟨g, 3, none⟩ = some (.int .i64 (along start (pre ++ skipped cs1)).g) := H4.tk.cell 3 _ rfl
        have k4 : w4.cell? ⟨g, 4, none⟩ = some (.int .i64 (along start (pre ++ skipped cs1)).l) := H4.tk.cell 4 _ rfl
        have k5 : w4.cell? ⟨g, 5, none⟩ = some (.int .i64 (along start (pre ++ skipped cs1)).c) := H4.tk.cell 5 _ rfl
        have c5 : w4.cell? ⟨b, 5, none⟩ = some (.int .i64 0) := H4.sc.cell 5 _ rfl
        go_upto_region 10 with ((at_builtin; go_loud (refine wpList_append_own _ rfl _ _ 25 rfl (b + 1) 37 i0 (.agg #[.int .i64 0, .string ⟨#[]⟩, .int .i64 0, .int .i64 0, .int .i64 0, .int .i64 0]) 6 56 Tryd.underlying25 hi hz0 hz1 hz2 rfl (by decide) _ _ _ rfl (H4.own.alloc _) ⟨w4.heap.size, 0, none⟩ 1 1 (tokC ⟨0, [], along start (pre ++ skipped cs1)⟩) rfl rfl ?c1 ?c2 ?c3 ?c4 ?c5 ?_; (case c1 => exact new_row _ _ _); (case c2 => exact tokC_one _); (case c3 => (unfold maxLen; omega)); (case c4 => omega); (case c5 => (simp; omega)); intro v6 w6 hown6 hgr6 _)))
        have g7 : w6.cell? ⟨g, 0, none⟩ = some (.int .i64 0) := hgr6.cell ((H4.tk.alloc (Obj.cells #[.int .i64 0, .string ⟨#[]⟩, .int .i64 (along start (pre ++ skipped cs1)).b, .int .i64 (along start (pre ++ skipped cs1)).g, .int .i64 (along start (pre ++ skipped cs1)).l, .int .i64 (along start (pre ++ skipped cs1)).c] 37)).cell 0 (.int .i64 0) rfl) (fun e => absurd (H4.ne _ e.symm) (Nat.lt_irrefl _))
        have hblk6 : Blk w6 w.heap.size (plO zeroPl) := (hgr6.block _ (H4.res.alloc _).lt (fun e => by have := (H4.own.lt _ e.symm).1; have := H4.hb; omega)).trans (H4.res.alloc _)
        have f6 := (H4.fr.alloc _).grown hgr6 (fun k hk hlt => by have := (H4.own.lt _ hk).1; have := H4.hb; omega)
        obtain ⟨a6, c6, rfl⟩ := own_form hown6
        have res0 : w6.cell? ⟨w.heap.size, 0, none⟩ = some (.int .i64 0) := hblk6.cell 0 _ rfl
        have rfz0 := hblk6.free 0
        have res1 : w6.cell? ⟨w.heap.size, 1, none⟩ = some (.int .i64 0) := hblk6.cell 1 _ rfl
        have rfz1 := hblk6.free 1
        have res2 : w6.cell? ⟨w.heap.size, 2, none⟩ = some (.int .i64 0) := hblk6.cell 2 _ rfl
        have rfz2 := hblk6.free 2
        have res3 : w6.cell? ⟨w.heap.size, 3, none⟩ = some (.int .i64 0) := hblk6.cell 3 _ rfl
        have rfz3 := hblk6.free 3
        go_wp2_with fail
        obtain ⟨e1, e2⟩ := pl_exit hblk6 f6 zeroPl _ rfl
        have hb9 := H4.hb
        have hown7 := (own_fr hown6 ((Fr.refl (· = w.heap.size) w6).setCell (a := ⟨w.heap.size, 0, none⟩) (.int .i64 0) (fun _ => rfl)) (fun k hk => by have := (hown6.lt _ hk).1; omega))
        have hown8 := (own_fr hown7 ((Fr.refl (· = w.heap.size) _).setCell (a := ⟨w.heap.size, 1, none⟩) (.int .i64 0) (fun _ => rfl)) (fun k hk => by have := (hown6.lt _ hk).1; omega))
        have hown9 := (own_fr hown8 ((Fr.refl (· = w.heap.size) _).setCell (a := ⟨w.heap.size, 2, none⟩) (.int .i64 0) (fun _ => rfl)) (fun k hk => by have := (hown6.lt _ hk).1; omega))
        have hownA := (own_fr hown9 ((Fr.refl (· = w.heap.size) _).setCell (a := ⟨w.heap.size, 3, none⟩) (.int .i64 0) (fun _ => rfl)) (fun k hk => by have := (hown6.lt _ hk).1; omega))
        refine bodyPost_ret (results_ttc rfl _ _ _ _ rfl (load_pl e1 rfl)) rfl ?_
        obtain ⟨a1, a2⟩ := HS.out
        have hres : scanOf cs t = .ok (acc ++ [⟨0, [], along start (pre ++ skipped cs1)⟩]) := by
          rw [HR.out]
          simp only [scan, a2, HT.out, Res.pre]
          rw [a1]
          rfl
        unfold ScanOut
        rw [hres]
        refine ⟨a6, c6, by rw [List.length_append]; rfl, ?_, e2⟩
        have := own_mono hownA (B' := w.heap.size) (by omega)
        simpa [toksV] using this
      · have hfz : fz t (along start (pre ++ skipped cs1)) 0 zeroPl = (40, along start (pre ++ skipped cs1)) := by unfold fz; rw [if_neg ht, if_pos rfl]
        rw [hfz] at hs3
        have H4 := PtW.of (k := 0) (x := ⟨#[]⟩) (p2 := along start (pre ++ skipped cs1)) hs3 hblk3 ho3 hf3 hT3 hb0
        have HT := Lib.hid ht
        clear hfz hs3 hblk3 ho3 hf3 hT3 hsk hscs hsa ht
        go_upto_region 7 with (fail)
        generalize w3.alloc _ = w4 at H4 ⊢
        generalize w3.heap.size = g at H4 ⊢
        have c5 : w4.cell? ⟨b, 5, none⟩ = some (.int .i64 40) := H4.sc.cell 5 _ rfl
        have c6 : w4.cell? ⟨b, 6, none⟩ = some (.int .i64 (along start (pre ++ skipped cs1)).b) := H4.sc.cell 6 _ rfl
        have c7 : w4.cell? ⟨b, 7, none⟩ = some (.int .i64 (along start (pre ++ skipped cs1)).g) := H4.sc.cell 7 _ rfl
        have c8 : w4.cell? ⟨b, 8, none⟩ = some (.int .i64 (along start (pre ++ skipped cs1)).l) := H4.sc.cell 8 _ rfl
        have c9 : w4.cell? ⟨b, 9, none⟩ = some (.int .i64 (along start (pre ++ skipped cs1)).c) := H4.sc.cell 9 _ rfl
        have res0 : w4.cell? ⟨w.heap.size, 0, none⟩ = some (.int .i64 0) := H4.res.cell 0 _ rfl
        have rfz0 := H4.res.free 0
        have res1 : w4.cell? ⟨w.heap.size, 1, none⟩ = some (.int .i64 0) := H4.res.cell 1 _ rfl
        have rfz1 := H4.res.free 1
        have res2 : w4.cell? ⟨w.heap.size, 2, none⟩ = some (.int .i64 0) := H4.res.cell 2 _ rfl
        have rfz2 := H4.res.free 2
        have res3 : w4.cell? ⟨w.heap.size, 3, none⟩ = some (.int .i64 0) := H4.res.cell 3 _ rfl
        have rfz3 := H4.res.free 3
        have hne : w.heap.size ≠ b := by have := H4.hb; omega
        have hne2 : b ≠ w.heap.size := by have := H4.hb; omega
        go_wp2_with fail
        go_region
        go_wp2_with fail
        obtain ⟨e1, e2⟩ := pl_exit H4.res H4.fr (along start (pre ++ skipped cs1)) _ rfl
        refine bodyPost_ret (results_ttc rfl _ _ _ _ rfl (load_pl e1.drew rfl)) rfl ?_
        obtain ⟨a1, a2⟩ := HS.out
        have hres : scanOf cs t = .bad 40 (along start (pre ++ skipped cs1)) := by
          rw [HR.out]
          have hte : (!t.isEmpty) = true := by simpa using HT.out
          simp only [scan, a2, hte, if_true, Res.pre]
          rw [a1]
        unfold ScanOut
        rw [hres]
        exact ⟨rfl, e2.drew⟩
    | cons c r =>
      rw [hsk] at hpt hsa T2 hl2
      have HS := Lib.hid (And.intro hsa hsk)
      clear hsa hsk
      simp only [List.length_cons] at hl2
      unfold PTok at hpt
      simp only at hpt
      cases htk : tk (c :: r) with
      | bad m =>
        rw [htk] at hpt
        obtain ⟨k, x, rest, q, rfl, hb3, _⟩ := hpt
        have hm := tk_bad htk
        have hm0 : (m != 0) = true := by simp; omega
        have HTK := Lib.hid htk
        simp only [tokA]
        have H4 := PtW.of (k := k) (x := x) (p2 := along start (pre ++ skipped cs1)) hb3 hblk3 ho3 hf3 hT3 hb0
        clear hb3 hblk3 ho3 hf3 hT3 htk hm
        go_upto_region 7 with (fail)
        generalize w3.alloc _ = w4 at H4 ⊢
        generalize w3.heap.size = g at H4 ⊢
        have c5 : w4.cell? ⟨b, 5, none⟩ = some (.int .i64 m) := H4.sc.cell 5 _ rfl
        have c6 : w4.cell? ⟨b, 6, none⟩ = some (.int .i64 (along start (pre ++ skipped cs1)).b) := H4.sc.cell 6 _ rfl
        have c7 : w4.cell? ⟨b, 7, none⟩ = some (.int .i64 (along start (pre ++ skipped cs1)).g) := H4.sc.cell 7 _ rfl
        have c8 : w4.cell? ⟨b, 8, none⟩ = some (.int .i64 (along start (pre ++ skipped cs1)).l) := H4.sc.cell 8 _ rfl
        have c9 : w4.cell? ⟨b, 9, none⟩ = some (.int .i64 (along start (pre ++ skipped cs1)).c) := H4.sc.cell 9 _ rfl
        have res0 : w4.cell? ⟨w.heap.size, 0, none⟩ = some (.int .i64 0) := H4.res.cell 0 _ rfl
        have rfz0 := H4.res.free 0
        have res1 : w4.cell? ⟨w.heap.size, 1, none⟩ = some (.int .i64 0) := H4.res.cell 1 _ rfl
        have rfz1 := H4.res.free 1
        have res2 : w4.cell? ⟨w.heap.size, 2, none⟩ = some (.int .i64 0) := H4.res.cell 2 _ rfl
        have rfz2 := H4.res.free 2
        have res3 : w4.cell? ⟨w.heap.size, 3, none⟩ = some (.int .i64 0) := H4.res.cell 3 _ rfl
        have rfz3 := H4.res.free 3
        have hne : w.heap.size ≠ b := by have := H4.hb; omega
        have hne2 : b ≠ w.heap.size := by have := H4.hb; omega
        go_wp2_with fail
        go_region
        go_wp2_with fail
        obtain ⟨e1, e2⟩ := pl_exit H4.res H4.fr (along start (pre ++ skipped cs1)) _ rfl
        refine bodyPost_ret (results_ttc rfl _ _ _ _ rfl (load_pl e1.drew rfl)) rfl ?_
        obtain ⟨a1, a2⟩ := HS.out
        have hres : scanOf cs t = .bad m (along start (pre ++ skipped cs1)) := by
          rw [HR.out]
          simp only [scan, a2, HTK.out, Res.pre]
        unfold ScanOut
        rw [hres]
        exact ⟨rfl, e2.drew⟩
      | ok k x m =>
        rw [htk] at hpt
        obtain ⟨C, B, rfl, hs3, _, hCB⟩ := hpt
        obtain ⟨m1, m2, hk⟩ := tk_ok htk
        have hk0 : (k == 0) = false := by simp; omega
        have HTK := Lib.hid htk
        simp only [tokA]
        have hcase : (C = 0 ∧ B = zeroPl) ∨ ((c :: r).drop m = [] ∧ t ≠ [] ∧ C = 40 ∧ B = along start (pre ++ skipped cs1 ++ (c :: r).take m)) := by
          rcases hCB with h | ⟨h1, h2⟩
          · exact Or.inl h
          · by_cases ht : t = []
            · unfold fz at h2
              rw [if_pos ht] at h2
              cases h2
              exact Or.inl ⟨rfl, rfl⟩
            · unfold fz at h2
              rw [if_neg ht, if_pos rfl] at h2
              cases h2
              exact Or.inr ⟨h1, ht, rfl, rfl⟩
        clear hCB htk hk
        rcases hcase with ⟨rfl, rfl⟩ | ⟨hdm, ht, rfl, rfl⟩
        · have H4 := PtW.of (k := k) (x := ⟨x.toArray⟩) (p2 := along start (pre ++ skipped cs1)) hs3 hblk3 ho3 hf3 hT3 hb0
          clear hs3 hblk3 ho3 hf3 hT3
          go_upto_region 7 with (fail)
          generalize w3.alloc _ = w4 at H4 ⊢
          generalize w3.heap.size = g at H4 ⊢
          have hgb := H4.gb
          have hglt := H4.tk.lt
          have k0 : w4.cell? ⟨g, 0, none⟩ = some (.int .i64 k) := H4.tk.cell 0 _ rfl
          have k1 : w4.cell? ⟨g, 1, none⟩ = some (.string ⟨x.toArray⟩) := H4.tk.cell 1 _ rfl
          have k2 : w4.cell? ⟨g, 2, none⟩ = some (.int .i64 (along start (pre ++ skipped cs1)).b) := H4.tk.cell 2 _ rfl
          have k3 : w4.cell? ⟨g, 3, none⟩ = some (.int .i64 (along start (pre ++ skipped cs1)).g) := H4.tk.cell 3 _ rfl
          have k4 : w4.cell? ⟨g, 4, none⟩ = some (.int .i64 (along start (pre ++ skipped cs1)).l) := H4.tk.cell 4 _ rfl
          have k5 : w4.cell? ⟨g, 5, none⟩ = some (.int .i64 (along start (pre ++ skipped cs1)).c) := H4.tk.cell 5 _ rfl
          have c5 : w4.cell? ⟨b, 5, none⟩ = some (.int .i64 0) := H4.sc.cell 5 _ rfl
          go_upto_region 10 with ((at_builtin; go_loud (refine wpList_append_own _ rfl _ _ 25 rfl (b + 1) 37 i0 (.agg #[.int .i64 0, .string ⟨#[]⟩, .int .i64 0, .int .i64 0, .int .i64 0, .int .i64 0]) 6 56 Tryd.underlying25 hi hz0 hz1 hz2 rfl (by decide) _ _ _ rfl (H4.own.alloc _) ⟨w4.heap.size, 0, none⟩ 1 1 (tokC ⟨k, x, along start (pre ++ skipped cs1)⟩) rfl rfl ?c1 ?c2 ?c3 ?c4 ?c5 ?_; (case c1 => exact new_row _ _ _); (case c2 => exact tokC_one _); (case c3 => (unfold maxLen; omega)); (case c4 => omega); (case c5 => (simp; omega)); intro v6 w6 hown6 hgr6 _)))
          have g7 : w6.cell? ⟨g, 0, none⟩ = some (.int .i64 k) := hgr6.cell ((H4.tk.alloc (Obj.cells #[.int .i64 k, .string ⟨x.toArray⟩, .int .i64 (along start (pre ++ skipped cs1)).b, .int .i64 (along start (pre ++ skipped cs1)).g, .int .i64 (along start (pre ++ skipped cs1)).l, .int .i64 (along start (pre ++ skipped cs1)).c] 37)).cell 0 (.int .i64 k) rfl) (fun e => absurd (H4.ne _ e.symm) (Nat.lt_irrefl _))
          have hblk6 : Blk w6 w.heap.size (plO zeroPl) := (hgr6.block _ (H4.res.alloc _).lt (fun e => by have := (H4.own.lt _ e.symm).1; have := H4.hb; omega)).trans (H4.res.alloc _)
          have f6 := (H4.fr.alloc _).grown hgr6 (fun k hk hlt => by have := (H4.own.lt _ hk).1; have := H4.hb; omega)
          obtain ⟨a6, c6, rfl⟩ := own_form hown6
          have hs6 : Blk w6 b _ := (hgr6.block _ (H4.sc.alloc _).lt (fun e => by have := (H4.own.lt _ e.symm).1; omega)).trans (H4.sc.alloc _)
          have hT6 : Tb w6 := hT.no f6
          go_wp2_with fail
          obtain ⟨a1, a2⟩ := HS.out
          go_roundg n
          case measure => omega
          case rel =>
            refine ⟨pre ++ skipped cs1 ++ (c :: r).take m, (c :: r).drop m, acc ++ [⟨k, x, along start (pre ++ skipped cs1)⟩], a6, c6, by simp, ?_, ?_, ?_, ?_, ?_, hs6, f6, hblk6, hT6⟩
            · rw [List.append_assoc (pre ++ skipped cs1), List.take_append_drop]; exact T2
            · rw [HR.out]
              simp only [scan, a2, HTK.out]
              rw [Res.pre_cons]
            · simp only [List.length_drop, List.length_cons]; omega
            · simp; omega
            · simpa [toksV] using hown6
        · obtain ⟨q, hq⟩ : ∃ q, along start (pre ++ skipped cs1 ++ (c :: r).take m) = q := ⟨_, rfl⟩
          rw [hq] at hs3
          have HQ := Lib.hid hq
          clear hq
          have H4 := PtW.of (k := k) (x := ⟨x.toArray⟩) (p2 := along start (pre ++ skipped cs1)) hs3 hblk3 ho3 hf3 hT3 hb0
          have HT := Lib.hid (And.intro hdm ht)
          clear hs3 hblk3 ho3 hf3 hT3 hdm ht
          go_upto_region 7 with (fail)
          generalize w3.alloc _ = w4 at H4 ⊢
          generalize w3.heap.size = g at H4 ⊢
          have c5 : w4.cell? ⟨b, 5, none⟩ = some (.int .i64 40) := H4.sc.cell 5 _ rfl
          have c6 : w4.cell? ⟨b, 6, none⟩ = some (.int .i64 (q).b) := H4.sc.cell 6 _ rfl
          have c7 : w4.cell? ⟨b, 7, none⟩ = some (.int .i64 (q).g) := H4.sc.cell 7 _ rfl
          have c8 : w4.cell? ⟨b, 8, none⟩ = some (.int .i64 (q).l) := H4.sc.cell 8 _ rfl
          have c9 : w4.cell? ⟨b, 9, none⟩ = some (.int .i64 (q).c) := H4.sc.cell 9 _ rfl
          have res0 : w4.cell? ⟨w.heap.size, 0, none⟩ = some (.int .i64 0) := H4.res.cell 0 _ rfl
          have rfz0 := H4.res.free 0
          have res1 : w4.cell? ⟨w.heap.size, 1, none⟩ = some (.int .i64 0) := H4.res.cell 1 _ rfl
          have rfz1 := H4.res.free 1
          have res2 : w4.cell? ⟨w.heap.size, 2, none⟩ = some (.int .i64 0) := H4.res.cell 2 _ rfl
          have rfz2 := H4.res.free 2
          have res3 : w4.cell? ⟨w.heap.size, 3, none⟩ = some (.int .i64 0) := H4.res.cell 3 _ rfl
          have rfz3 := H4.res.free 3
          have hne : w.heap.size ≠ b := by have := H4.hb; omega
          have hne2 : b ≠ w.heap.size := by have := H4.hb; omega
          go_wp2_with fail
          go_region
          go_wp2_with fail
          obtain ⟨e1, e2⟩ := pl_exit H4.res H4.fr (q) _ rfl
          refine bodyPost_ret (results_ttc rfl _ _ _ _ rfl (load_pl e1.drew rfl)) rfl ?_
          obtain ⟨a1, a2⟩ := HS.out
          obtain ⟨b1, b2⟩ := HT.out
          have hres : scanOf cs t = .bad 40 q := by
            rw [HR.out, ← HQ.out]
            obtain ⟨n', rfl⟩ : ∃ n', n = n' + 1 := ⟨n - 1, by omega⟩
            have hte : (!t.isEmpty) = true := by simpa using b2
            simp only [scan, a2, HTK.out, b1, skipC, hte, if_true, Res.cons, Res.pre, List.append_nil]
          unfold ScanOut
          rw [hres]
          exact ⟨rfl, e2.drew⟩
end Go.Proofs.YtklhfbgmadblcaaDoor
