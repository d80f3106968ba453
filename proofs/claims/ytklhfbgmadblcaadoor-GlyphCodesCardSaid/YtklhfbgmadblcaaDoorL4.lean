/- The walk of GlyphFirst. -/
import Derived.Test.YtklhfbgmadblcaaDoorP2
import Derived.Test.YtklhfbgmadblcaaDoorL3
namespace Go.Proofs.YtklhfbgmadblcaaDoor
open Go.RowKit
set_option linter.unusedVariables false
set_option linter.unusedSimpArgs false
attribute [local go_sem ↓] Go.wp_at_zero Go.wp_at_succ

theorem glyS_first {l m : List UInt8} (hlen : l.length + m.length + 1 ≤ 4096) {e : Int} {p : Pl} (h : glyS l = .bad e p) : glyS (l ++ 10 :: m) = .bad e p := by
  have T := txt_of l
  rw [glyS_eq T (by omega)] at h
  unfold glyOf at h
  by_cases ht : tlOf l = []
  · rw [if_pos ht] at h; cases h
  · have T3 : Txt (l ++ 10 :: m) (csOf l) (tlOf l ++ 10 :: m) := ⟨by
      have e := T.eq
      generalize csOf l = a at *
      generalize tlOf l = b at *
      rw [e]; simp, T.ok, dec_stop ht T.stop (by decide) m⟩
    rw [glyS_eq T3 (by simp; omega)]
    unfold glyOf
    rw [if_neg ht] at h
    rw [if_neg (by simp)]
    exact h

theorem Scan_g (s : ByteArray) (hs : s.size ≤ maxLen) (w : World) (hT : Tb w) : Calls Tryd.prog 19 #[.string s] w (ScanG w (scanS s.data.toList).toks (scanS s.data.toList).code (scanS s.data.toList).pl) := Scan_any s w hT hs
theorem Glyphs_g (s : ByteArray) (hs : s.size ≤ maxLen) (w : World) (hT : Tb w) : Calls Tryd.prog 25 #[.string s] w (GlyG w (glyS s.data.toList).gl (glyS s.data.toList).code (glyS s.data.toList).pl) := Glyphs_any s w hT hs

theorem two_scans {l m : List UInt8} (hlen : l.length + m.length + 1 ≤ 4096) : (scanS l).code = 0 ∨ (scanS (l ++ 10 :: m)).code = (scanS l).code ∧ (scanS (l ++ 10 :: m)).pl = (scanS l).pl := by
  cases h : scanS l with
  | ok l => exact Or.inl rfl
  | bad e p => exact Or.inr (by rw [scanS_first hlen h]; exact ⟨rfl, rfl⟩)
theorem two_glyphs {l m : List UInt8} (hlen : l.length + m.length + 1 ≤ 4096) : (glyS l).code = 0 ∨ (glyS (l ++ 10 :: m)).code = (glyS l).code ∧ (glyS (l ++ 10 :: m)).pl = (glyS l).pl := by
  cases h : glyS l with
  | ok l => exact Or.inl rfl
  | bad e p => exact Or.inr (by rw [glyS_first hlen h]; exact ⟨rfl, rfl⟩)

theorem cat_list (s m : ByteArray) : (s ++ ⟨#[10]⟩ ++ m).data.toList = s.data.toList ++ 10 :: m.data.toList := by simp
theorem cat_size (s m : ByteArray) : (s ++ ⟨#[10]⟩ ++ m).size = s.size + m.size + 1 := by rw [Lib.size_eq, cat_list, List.length_append, List.length_cons, ← Lib.size_eq, ← Lib.size_eq]; omega
theorem first_both (s m : ByteArray) (h : s.size + m.size + 1 ≤ 4096) : ∃ l1 n1 p1 l2 n2 p2 g1 k1 q1 g2 k2 q2,
    (∀ w, Tb w → Calls Tryd.prog 19 #[.string s] w (ScanG w l1 n1 p1)) ∧ (∀ w, Tb w → Calls Tryd.prog 19 #[.string (s ++ ⟨#[10]⟩ ++ m)] w (ScanG w l2 n2 p2)) ∧
    (∀ w, Tb w → Calls Tryd.prog 25 #[.string s] w (GlyG w g1 k1 q1)) ∧ (∀ w, Tb w → Calls Tryd.prog 25 #[.string (s ++ ⟨#[10]⟩ ++ m)] w (GlyG w g2 k2 q2)) ∧
    (n1 = 0 ∨ n2 = n1 ∧ p2 = p1) ∧ (k1 = 0 ∨ k2 = k1 ∧ q2 = q1) := by
  have hl := Lib.size_eq s
  have hml := Lib.size_eq m
  have hc := cat_size s m
  have h1 := two_scans (l := s.data.toList) (m := m.data.toList) (by omega)
  have h2 := two_glyphs (l := s.data.toList) (m := m.data.toList) (by omega)
  have m1 : s.size ≤ maxLen := by unfold maxLen; omega
  have m2 : (s ++ ⟨#[10]⟩ ++ m).size ≤ maxLen := by unfold maxLen; omega
  rw [← cat_list] at h1 h2
  exact ⟨_, _, _, _, _, _, _, _, _, _, _, _, Scan_g s m1, Scan_g _ m2, Glyphs_g s m1, Glyphs_g _ m2, h1, h2⟩

set_option maxRecDepth 100000 in
set_option maxHeartbeats 4000000 in
theorem law_first (s : ByteArray) (hs : s.size ≤ maxLen) (hr1 : s.size ≤ 140737488351232) (m : ByteArray) (hm : m.size ≤ maxLen) (hr2 : m.size ≤ 140737488351232) (w : World) (hT : Tb w) : Calls Tryd.prog 9 #[.string s, .string m] w fun e w' => e = .returned (.bool true) ∧ Fr No w w' := by
  by_cases hlen : s.size + m.size + 1 ≤ 4096
  · obtain ⟨l1, n1, p1, l2, n2, p2, g1, k1, q1, g2, k2, q2, S1, S2, G1, G2, hn, hk⟩ := first_both s m hlen
    have HS1 := Lib.hid S1
    have HS2 := Lib.hid S2
    have HG1 := Lib.hid G1
    have HG2 := Lib.hid G2
    have HN := Lib.hid (And.intro hn hk)
    clear S1 S2 G1 G2 hn hk
    go_enter Tryd.func9, Tryd.ntmps9
    go_wp2_with fail
    refine (awake_calls w hT).mono ?_
    rintro e w1 ⟨rfl, hf1⟩
    have hT1 := hT.no hf1
    go_wp2_with fail
    refine (HS1.out _ hT1).mono ?_
    rintro e w2 ⟨a1, c1, rfl, _, f2⟩
    have hf2 := hf1.callNo f2
    have b2 : Blk (w2.alloc (plO p1)) w2.heap.size (plO p1) := Blk.new w2 _
    have hf2' := hf2.alloc (plO p1)
    have hT2 := hT.no hf2'
    go_wp2_with fail
    refine (HS2.out _ hT2).mono ?_
    rintro e w3 ⟨a2, c2, rfl, _, f3⟩
    have hf3 := hf2'.callNo f3
    have b3 := (b2.fr f3 (fun x => x)).alloc (plO p2)
    have b3' : Blk (w3.alloc (plO p2)) w3.heap.size (plO p2) := Blk.new w3 _
    have l3 := (b2.fr f3 (fun x => x)).lt
    have hf3' := hf3.alloc (plO p2)
    have hT3 := hT.no hf3'
    clear b2 f2 f3 hf1 hT1 hf2 hf2' hT2
    go_wp2_with fail
    refine (HG1.out _ hT3).mono ?_
    rintro e w4 ⟨a3, c3, rfl, _, f4⟩
    have hf4 := hf3'.callNo f4
    have b4 := (b3.fr f4 (fun x => x)).alloc (plO q1)
    have b4' := (b3'.fr f4 (fun x => x)).alloc (plO q1)
    have b4'' : Blk (w4.alloc (plO q1)) w4.heap.size (plO q1) := Blk.new w4 _
    have l4 := (b3'.fr f4 (fun x => x)).lt
    have hf4' := hf4.alloc (plO q1)
    have hT4 := hT.no hf4'
    clear b3 b3' f4 hf3 hf3' hT3
    go_wp2_with fail
    refine (HG2.out _ hT4).mono ?_
    rintro e w5 ⟨a4, c4, rfl, _, f5⟩
    have hf5 := hf4'.callNo f5
    have b5 := b4.fr f5 (fun x => x)
    have b5' := b4'.fr f5 (fun x => x)
    have b5'' := b4''.fr f5 (fun x => x)
    have l5 := b5''.lt
    have hf5' := hf5.alloc (plO q2)
    clear b4 b4' b4'' f5 hf4 hf4' hT4
    have A1 := Blk.all b5
    have A2 := Blk.all b5'
    have A3 := Blk.all b5''
    have N1 : w2.heap.size < w5.heap.size := b5.lt
    have N2 : w3.heap.size < w5.heap.size := b5'.lt
    obtain ⟨hn, hk⟩ := HN.out
    by_cases hn0 : n1 = 0
    · subst hn0
      by_cases hk0 : k1 = 0
      · subst hk0
        go_wp2
        go_ret
        exact ⟨rfl, hf5'⟩
      · obtain ⟨hk1, hk2⟩ := hk.resolve_left hk0
        subst hk1 hk2
        have hz : (k2 == 0) = false := by simpa using hk0
        have HK := Lib.hid hk0
        clear hk0 hk hn
        go_wp2_with fail
        refine (place_same q2 _).mono ?_
        rintro e w6 ⟨rfl, f6⟩
        go_wp2
        go_ret
        exact ⟨by simp, hf5'.callNo f6⟩
    · obtain ⟨hn1, hn2⟩ := hn.resolve_left hn0
      subst hn1 hn2
      have hz : (n2 == 0) = false := by simpa using hn0
      have HN0 := Lib.hid hn0
      clear hn0 hn
      by_cases hk0 : k1 = 0
      · subst hk0
        clear hk
        go_wp2_with fail
        refine (place_same p2 _).mono ?_
        rintro e w6 ⟨rfl, f6⟩
        go_wp2
        go_ret
        exact ⟨by simp, hf5'.callNo f6⟩
      · obtain ⟨hk1, hk2⟩ := hk.resolve_left hk0
        subst hk1 hk2
        have hz2 : (k2 == 0) = false := by simpa using hk0
        have HK := Lib.hid hk0
        clear hk0 hk
        go_wp2_with fail
        refine (place_same p2 _).mono ?_
        rintro e w6 ⟨rfl, f6⟩
        have B1 := Blk.all (((b5'').alloc (plO q2)).fr f6 (fun x => x))
        have B2 := Blk.all (Blk.fr (Blk.new w5 (plO q2)) f6 (fun x => x))
        go_wp2_with fail
        refine (place_same q2 _).mono ?_
        rintro e w7 ⟨rfl, f7⟩
        go_wp2
        go_ret
        exact ⟨by simp, (hf5'.callNo f6).callNo f7⟩
  · go_enter Tryd.func9, Tryd.ntmps9
    go_wp2_with fail
    refine (awake_calls w hT).mono ?_
    rintro e w1 ⟨rfl, hf⟩
    go_wp2_with fail
    go_ret
    exact ⟨rfl, hf⟩
end Go.Proofs.YtklhfbgmadblcaaDoor
