/- The program's scanner: sign. -/
import Derived.Test.YtklhfbgmadblcaaDoorC4
import Derived.Deep.DeepCutAuto
import Derived.Deep.RegionHeld3
namespace Go.Proofs.YtklhfbgmadblcaaDoor
open Go.RowKit
set_option linter.unusedVariables false
set_option linter.unusedSimpArgs false

def SignHead (w : World) (b c : Nat) (r : List Nat) (t : List UInt8) (p : Pl) (s3 s4 : Value) (wx : World) : Prop :=
  s3 = .int .i64 c ∧ ∃ g : Nat, s4 = .pointer (some ⟨g, 0, none⟩) ∧ w.heap.size ≤ g ∧ Blk wx g (plO p) ∧ Sc wx b (c :: r) t p 0 zeroPl ∧ Tb wx ∧ Fr No w wx

theorem SignHead.of {w : World} {b c : Nat} {r : List Nat} {t : List UInt8} {p : Pl} {w1 : World} {g : Nat} (hg : w.heap.size ≤ g) (h : Blk w1 g (plO zeroPl)) (hs : Sc w1 b (c :: r) t p 0 zeroPl) (hT : Tb w1) (hf : Fr No w w1) (hbg : b < w.heap.size) (W : World)
    (hW : W = (((w1.setCell ⟨g, 0, none⟩ (.int .i64 p.b)).setCell ⟨g, 1, none⟩ (.int .i64 p.g)).setCell ⟨g, 2, none⟩ (.int .i64 p.l)).setCell ⟨g, 3, none⟩ (.int .i64 p.c)) :
    SignHead w b c r t p (.int .i64 c) (.pointer (some ⟨g, 0, none⟩)) W := by
  obtain ⟨e1, e2⟩ := pl_exit2 h hf (by omega) p W hW
  have hs' : Sc W b (c :: r) t p 0 zeroPl := by
    subst hW
    exact (((hs.blk.set_ne _ _ (by simp; omega)).set_ne _ _ (by simp; omega)).set_ne _ _ (by simp; omega)).set_ne _ _ (by simp; omega)
  have hn := hT.sc hs
  have hg2 : 0 ≠ g ∧ 1 ≠ g := by
    have hc0 := h.cell 0 _ rfl
    constructor
    · rintro rfl
      have := hT.1 0 (by omega)
      rw [hc0] at this; cases this
    · rintro rfl
      have := (hT.2 0 (by omega)).1
      rw [hc0] at this; cases this
  have hTW : Tb W := by
    subst hW
    exact hT.fr (S := (· = g)) (by with_reducible repeat (first | refine Fr.setCell ?_ _ (fun _ => rfl) | exact Fr.refl _ _)) hg2.1 hg2.2
  exact ⟨rfl, g, rfl, hg, e1, hs', hTW, e2⟩

theorem SignHead.new {w : World} {b c : Nat} {r : List Nat} {t : List UInt8} {p : Pl} {w1 : World} (hs : Sc w1 b (c :: r) t p 0 zeroPl) (hT : Tb w1) (hf : Fr No w w1) :
    SignHead w b c r t p (.int .i64 c) (.pointer (some ⟨w1.heap.size, 0, none⟩)) (w1.alloc (.cells #[.int .i64 p.b, .int .i64 p.g, .int .i64 p.l, .int .i64 p.c] 27)) :=
  ⟨rfl, w1.heap.size, rfl, hf.size, Blk.new w1 (plO p), Blk.alloc hs _, hT.no ((Fr.refl _ _).alloc _), hf.alloc _⟩

theorem sign_vals {c : Nat} (h : cls c = 5) : c = 43 ∨ c = 45 ∨ c = 42 ∨ c = 47 ∨ c = 37 ∨ c = 40 ∨ c = 41 ∨ c = 123 ∨ c = 125 ∨ c = 44 ∨ c = 59 ∨ c = 58 ∨ c = 61 ∨ c = 33 ∨ c = 63 ∨ c = 64 ∨ c = 183 ∨ c = 215 ∨ c = 247 ∨ c = 8722 ∨ c = 8788 ∨ c = 8800 := by
  have h2 : isSign c = true := by
    unfold cls at h
    repeat' split at h
    all_goals first
      | assumption
      | (exfalso; omega)
  simp only [isSign, decide_eq_true_eq] at h2
  omega
theorem sign_enc {c : Nat} (h : cls c = 5) : Utf8.encode (wrap32 (fold c)) = ⟨[UInt8.ofNat (fold c).toNat].toArray⟩ ∨ c = 8788 ∨ c = 8800 := by
  have := sign_vals h
  rcases this with rfl | rfl | rfl | rfl | rfl | rfl | rfl | rfl | rfl | rfl | rfl | rfl | rfl | rfl | rfl | rfl | rfl | rfl | rfl | rfl | rfl | rfl
  all_goals first
    | exact Or.inr (Or.inl rfl)
    | exact Or.inr (Or.inr rfl)
    | exact Or.inl (by kernel_rfl)

/-- what sign hands back -/
def SgOut (w : World) (b : Nat) (pre : List Nat) (c : Nat) (r : List Nat) (t : List UInt8) (e : Ending) (w' : World) : Prop :=
  match tk (c :: r) with
  | .ok k x m => e = .returned (.string ⟨x.toArray⟩) ∧ Sc w' b ((c :: r).drop m) t (along start (pre ++ (c :: r).take m)) 0 zeroPl ∧ Fr (· = b) w w'
  | .bad n => ∃ s rest q, e = .returned (.string s) ∧ Blk w' b (scO rest q n (along start pre)) ∧ Fr (· = b) w w'

set_option maxHeartbeats 2000000 in
theorem scsign_calls {S : ByteArray} {pre r : List Nat} {c : Nat} {t : List UInt8} (T : Txt S.data.toList (pre ++ c :: r) t) (hS : S.size ≤ 4096) {w : World} {b : Nat} (hb : Sc w b (c :: r) t (along start pre) 0 zeroPl) (hT : Tb w) (hcl : cls c = 5) :
    Calls Tryd.prog 64 #[ptrV b] w (SgOut w b pre c r t) := by
  have hc := T.ok c (by simp)
  have hlt := hb.blk.lt
  have hne : b ≠ w.heap.size := by omega
  have q1 : w.cell? ⟨b, 1, none⟩ = some (.int .i64 (along start pre).b) := hb.blk.cell 1 _ rfl
  have q2 : w.cell? ⟨b, 2, none⟩ = some (.int .i64 (along start pre).g) := hb.blk.cell 2 _ rfl
  have q3 : w.cell? ⟨b, 3, none⟩ = some (.int .i64 (along start pre).l) := hb.blk.cell 3 _ rfl
  have q4 : w.cell? ⟨b, 4, none⟩ = some (.int .i64 (along start pre).c) := hb.blk.cell 4 _ rfl
  go_enter Tryd.func64, Tryd.ntmps64
  go_upto_region 1 with (fail)
  go_cut [3, 4] (fun s3 s4 wx => SignHead w b c r t (along start pre) s3 s4 wx)
  case first =>
    go_region_with ((refine (next_some hc (b := b) (p := along start pre) (code := 0) (bad := zeroPl) (cs := r) (t := t) (by first | exact hb | exact Blk.drew hb | exact Blk.alloc hb _ | exact (Blk.drew hb).alloc _ | exact Blk.drew (Blk.alloc hb _)) (by first | exact hT | exact hT.no ((Fr.refl _ _).drew) | exact hT.no ((Fr.refl _ _).alloc _) | exact hT.no ((Fr.refl _ _).drew.alloc _) | exact hT.no (((Fr.refl _ _).alloc _).drew))).mono ?_; rintro e w1 ⟨rfl, hf1⟩; have hb1 : Sc w1 b (c :: r) t (along start pre) 0 zeroPl := Sc.no (by first | exact hb | exact Blk.drew hb | exact Blk.alloc hb _ | exact (Blk.drew hb).alloc _ | exact Blk.drew (Blk.alloc hb _)) hf1; have hlt1 := hb1.blk.lt; have hne1 : b ≠ w1.heap.size := by omega
                     have g1 : w1.cell? ⟨b, 1, none⟩ = some (.int .i64 (along start pre).b) := hb1.blk.cell 1 _ rfl
                     have g2 : w1.cell? ⟨b, 2, none⟩ = some (.int .i64 (along start pre).g) := hb1.blk.cell 2 _ rfl
                     have g3 : w1.cell? ⟨b, 3, none⟩ = some (.int .i64 (along start pre).l) := hb1.blk.cell 3 _ rfl
                     have g4 : w1.cell? ⟨b, 4, none⟩ = some (.int .i64 (along start pre).c) := hb1.blk.cell 4 _ rfl
                     try (have hz : Blk w1 w.heap.size (plO zeroPl) := (Blk.new w.drew (plO zeroPl)).fr hf1 (fun x => x); have z0 : w1.cell? ⟨w.heap.size, 0, none⟩ = some (.int .i64 0) := hz.cell 0 _ rfl; have z1 : w1.cell? ⟨w.heap.size, 1, none⟩ = some (.int .i64 0) := hz.cell 1 _ rfl; have z2 : w1.cell? ⟨w.heap.size, 2, none⟩ = some (.int .i64 0) := hz.cell 2 _ rfl; have z3 : w1.cell? ⟨w.heap.size, 3, none⟩ = some (.int .i64 0) := hz.cell 3 _ rfl; have y0 := hz.free 0; have y1 := hz.free 1; have y2 := hz.free 2; have y3 := hz.free 3)))
    all_goals go_wp2_with fail
    all_goals go_meet
    · exact SignHead.new hb1 (hT.no (((Fr.refl No w).drew).callNo hf1)) (((Fr.refl No w).drew).callNo hf1)
    · exact SignHead.new hb1 (hT.no (((Fr.refl No w).drew).callNo hf1)) (((Fr.refl No w).drew).callNo hf1)
    · exact SignHead.new hb1 (hT.no (((Fr.refl No w).drew).callNo hf1)) (((Fr.refl No w).drew).callNo hf1)
    · exact SignHead.of (Nat.le_refl _) hz hb1 (hT.no (((Fr.refl No w).drew.alloc _).callNo hf1)) (((Fr.refl No w).drew.alloc _).callNo hf1) hlt _ rfl
    · exact SignHead.of (Nat.le_refl _) hz hb1 (hT.no (((Fr.refl No w).drew.alloc _).callNo hf1)) (((Fr.refl No w).drew.alloc _).callNo hf1) hlt _ rfl
    · exact SignHead.of (Nat.le_refl _) hz hb1 (hT.no (((Fr.refl No w).drew.alloc _).callNo hf1)) (((Fr.refl No w).drew.alloc _).callNo hf1) hlt _ rfl
  case rest =>
    obtain ⟨rfl, g, rfl, hg, hg1, hs1, hT1, hf1⟩ := hcut
    clear q1 q2 q3 q4
    have hgb : ¬ (g = b) := by omega
    have HC := Lib.hid hcl
    clear hcl
    go_wp2_with fail
    refine (pass_at T hS (.begin hs1) hT1).mono ?_
    rintro e w2 ⟨rfl, hs2, hf2⟩
    obtain ⟨hn0, hn1⟩ := hT1.sc hs1
    have hT2 := hT1.fr hf2 hn0 hn1
    have hg2 := hg1.fr hf2 hgb
    have hf3 : Fr (· = b) w w2 := (hf1.mono (S' := (· = b)) (fun _ _ x => x.elim)).call hf2 (fun _ _ x => x)
    clear hg1 hs1 hT1 hf1 hf2
    have T2 : Txt S.data.toList ((pre ++ [c]) ++ r) t := by simpa using T
    by_cases k1 : c = 8788
    · have kb : ((c : Int) == 8788) = true := by simp [k1]
      have K := Lib.hid k1
      clear k1
      go_wp2_with fail
      go_ret
      have k1 := K.out
      subst k1
      unfold SgOut
      exact ⟨rfl, hs2, hf3⟩
    · have kb : ((c : Int) == 8788) = false := by simp; omega
      by_cases k2 : c = 8800
      · have kb2 : ((c : Int) == 8800) = true := by simp [k2]
        have K := Lib.hid k2
        clear k1 k2
        go_wp2_with fail
        go_ret
        have k1 := K.out
        subst k1
        unfold SgOut
        exact ⟨rfl, hs2, hf3⟩
      · have kb2 : ((c : Int) == 8800) = false := by simp; omega
        by_cases k3 : c = 58
        · subst k3
          cases hr : decide (hd r = 61) with
          | true =>
            have hr1 : hd r = 61 := of_decide_eq_true hr
            obtain ⟨r2, rfl⟩ : ∃ r2, r = 61 :: r2 := by
              cases r with
              | nil => cases hr1
              | cons x r2 =>
                have : x = 61 := by simp only [hd] at hr1; omega
                exact ⟨r2, by rw [this]⟩
            clear hr hr1
            have hz : (hd (61 :: r2) != 61) = false := rfl
            go_wp2_with fail
            refine (next_at T2 (.begin hs2) hT2).mono ?_
            rintro e w3 ⟨rfl, hst3, hf4⟩
            have hT3 := hT2.fr hf4 hn0 hn1
            have hf5 := hf3.call hf4 (fun _ _ x => x)
            clear hs2 hT2 hf3 hf4
            go_wp2_with fail
            refine (pass_at T2 hS hst3 hT3).mono ?_
            rintro e w4 ⟨rfl, hs4, hf6⟩
            go_wp2_with fail
            go_ret
            unfold SgOut
            exact ⟨ret_str rfl, by simpa using hs4, hf5.call hf6 (fun _ _ x => x)⟩
          | false =>
            have hr1 : hd r ≠ 61 := of_decide_eq_false hr
            have hz : (hd r != 61) = true := by simpa using hr1
            have HR := Lib.hid hr1
            clear hr hr1
            go_wp2_with fail
            refine (next_at T2 (.begin hs2) hT2).mono ?_
            rintro e w3 ⟨rfl, hst3, hf4⟩
            have hg3 := hg2.fr hf4 hgb
            have hf5 := hf3.call hf4 (fun _ _ x => x)
            obtain ⟨C, B, hs3, _, _⟩ := hst3
            clear hs2 hT2 hf3 hf4
            have y0 : w3.cell? ⟨g, 0, none⟩ = some (.int .i64 (along start pre).b) := hg3.cell 0 _ rfl
            have y1 : w3.cell? ⟨g, 1, none⟩ = some (.int .i64 (along start pre).g) := hg3.cell 1 _ rfl
            have y2 : w3.cell? ⟨g, 2, none⟩ = some (.int .i64 (along start pre).l) := hg3.cell 2 _ rfl
            have y3 : w3.cell? ⟨g, 3, none⟩ = some (.int .i64 (along start pre).c) := hg3.cell 3 _ rfl
            go_wp2_with fail
            refine (early_calls b _ _ C B w3 hs3 41 (along start pre)).mono ?_
            rintro e w4 ⟨rfl, hb4, hf6⟩
            go_wp2_with fail
            go_ret
            have htk : tk (58 :: r) = .bad 41 := by
              have hrr : ¬ r.head? = some 61 := by
                cases r with
                | nil => simp
                | cons x r2 => have := HR.out; simp [hd] at this ⊢; omega
              simp only [tk]
              rw [if_neg (by decide), if_neg (by decide), if_pos (by decide), if_neg (by decide), if_neg (by decide), if_pos (by decide), if_neg hrr]
            unfold SgOut
            rw [htk]
            exact ⟨_, _, _, rfl, hb4, hf5.call hf6 (fun _ _ x => x)⟩
        · have kb3 : ((c : Int) == 58) = false := by simp; omega
          by_cases k4 : c = 33
          · subst k4
            cases hr : decide (hd r = 61) with
            | true =>
              have hr1 : hd r = 61 := of_decide_eq_true hr
              obtain ⟨r2, rfl⟩ : ∃ r2, r = 61 :: r2 := by
                cases r with
                | nil => cases hr1
                | cons x r2 =>
                  have : x = 61 := by simp only [hd] at hr1; omega
                  exact ⟨r2, by rw [this]⟩
              clear hr hr1
              have hz : (hd (61 :: r2) != 61) = false := rfl
              go_wp2_with fail
              refine (next_at T2 (.begin hs2) hT2).mono ?_
              rintro e w3 ⟨rfl, hst3, hf4⟩
              have hT3 := hT2.fr hf4 hn0 hn1
              have hf5 := hf3.call hf4 (fun _ _ x => x)
              clear hs2 hT2 hf3 hf4
              go_wp2_with fail
              refine (pass_at T2 hS hst3 hT3).mono ?_
              rintro e w4 ⟨rfl, hs4, hf6⟩
              go_wp2_with fail
              go_ret
              unfold SgOut
              exact ⟨ret_str rfl, by simpa using hs4, hf5.call hf6 (fun _ _ x => x)⟩
            | false =>
              have hr1 : hd r ≠ 61 := of_decide_eq_false hr
              have hz : (hd r != 61) = true := by simpa using hr1
              have HR := Lib.hid hr1
              clear hr hr1
              go_wp2_with fail
              refine (next_at T2 (.begin hs2) hT2).mono ?_
              rintro e w3 ⟨rfl, hst3, hf4⟩
              have hg3 := hg2.fr hf4 hgb
              have hf5 := hf3.call hf4 (fun _ _ x => x)
              obtain ⟨C, B, hs3, _, _⟩ := hst3
              clear hs2 hT2 hf3 hf4
              have y0 : w3.cell? ⟨g, 0, none⟩ = some (.int .i64 (along start pre).b) := hg3.cell 0 _ rfl
              have y1 : w3.cell? ⟨g, 1, none⟩ = some (.int .i64 (along start pre).g) := hg3.cell 1 _ rfl
              have y2 : w3.cell? ⟨g, 2, none⟩ = some (.int .i64 (along start pre).l) := hg3.cell 2 _ rfl
              have y3 : w3.cell? ⟨g, 3, none⟩ = some (.int .i64 (along start pre).c) := hg3.cell 3 _ rfl
              go_wp2_with fail
              refine (early_calls b _ _ C B w3 hs3 41 (along start pre)).mono ?_
              rintro e w4 ⟨rfl, hb4, hf6⟩
              go_wp2_with fail
              go_ret
              have htk : tk (33 :: r) = .bad 41 := by
                have hrr : ¬ r.head? = some 61 := by
                  cases r with
                  | nil => simp
                  | cons x r2 => have := HR.out; simp [hd] at this ⊢; omega
                simp only [tk]
                rw [if_neg (by decide), if_neg (by decide), if_pos (by decide), if_neg (by decide), if_neg (by decide), if_pos (by decide), if_neg hrr]
              unfold SgOut
              rw [htk]
              exact ⟨_, _, _, rfl, hb4, hf5.call hf6 (fun _ _ x => x)⟩
          · have kb4 : ((c : Int) == 33) = false := by simp; omega
            have K := Lib.hid (And.intro k1 (And.intro k2 (And.intro k3 k4)))
            clear k1 k2 k3 k4
            go_wp2_with fail
            refine (Fold_calls _ _).mono ?_
            rintro e w' ⟨rfl, rfl⟩
            go_wp2_with fail
            go_ret
            obtain ⟨k1, k2, k3, k4⟩ := K.out
            have he : Utf8.encode (wrap32 (fold c)) = ⟨[UInt8.ofNat (fold c).toNat].toArray⟩ := by
              rcases sign_enc HC.out with h | h | h
              · exact h
              · exact absurd h k1
              · exact absurd h k2
            have htk : tk (c :: r) = .ok 3 [UInt8.ofNat (fold c).toNat] 1 := by
              have h5 := HC.out
              simp only [tk, h5]
              rw [if_neg (by decide), if_neg (by decide), if_pos (by decide), if_neg k1, if_neg k2, if_neg (by omega)]
            unfold SgOut
            rw [htk]
            exact ⟨ret_str he, hs2, hf3⟩
end Go.Proofs.YtklhfbgmadblcaaDoor
