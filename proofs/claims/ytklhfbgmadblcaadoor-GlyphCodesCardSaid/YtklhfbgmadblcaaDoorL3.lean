/- The walk of GlyphReads. -/
import Derived.Test.YtklhfbgmadblcaaDoorF2
namespace Go.Proofs.YtklhfbgmadblcaaDoor
open Go.RowKit
set_option linter.unusedVariables false
set_option linter.unusedSimpArgs false
attribute [local go_sem ↓] Go.wp_at_zero Go.wp_at_succ

theorem glysV_get : ∀ (l : List Gly) (i : Nat) (x : Gly) (k : Nat), l[i]? = some x → k < 6 → (glysV l)[i * 6 + k]? = (glyC x)[k]?
  | [], i, x, k, h, _ => by simp at h
  | y :: l, 0, x, k, h, hk => by
    simp at h; subst h
    simp only [glysV, List.flatMap_cons, Nat.zero_mul, Nat.zero_add]
    rw [List.getElem?_append_left (by simp [glyC]; omega)]
  | y :: l, i + 1, x, k, h, hk => by
    have := glysV_get l i x k (by simpa using h) hk
    simp only [glysV, List.flatMap_cons] at this ⊢
    rw [List.getElem?_append_right (by simp [glyC]; omega)]
    rw [← this]
    congr 1
    simp [glyC]; omega

/-- the cells of a glyph -/
structure GlyAt (w : World) (g o : Nat) (x : Gly) : Prop where
  k : w.cell? ⟨g, o, none⟩ = some (.int .i64 x.code)
  t : w.cell? ⟨g, o + 1, none⟩ = some (.int .i64 (cls x.code))
  b : w.cell? ⟨g, o + 2, none⟩ = some (.int .i64 x.at_.b)
  gl : w.cell? ⟨g, o + 3, none⟩ = some (.int .i64 x.at_.g)
  l : w.cell? ⟨g, o + 4, none⟩ = some (.int .i64 x.at_.l)
  c : w.cell? ⟨g, o + 5, none⟩ = some (.int .i64 x.at_.c)
theorem gly_at {w : World} {B g n cap : Nat} {xs : List Value} {l : List Gly} (h : w.ownsRow B 45 6 (.slice (some ⟨g, 0, none⟩) n cap) n xs) {i : Nat} (hd : xs.drop (i * 6) = (glysV l).drop (i * 6)) {x : Gly} (hx : l[i]? = some x) : GlyAt w g (i * 6) x := by
  have key : ∀ k, k < 6 → xs[i * 6 + k]? = (glyC x)[k]? := fun k hk => by
    rw [← glysV_get l i x k hx hk]
    have := congrArg (·[k]?) hd
    simpa [List.getElem?_drop] using this
  exact ⟨own_cell h (j := i * 6) (by have := key 0 (by omega); simpa [glyC] using this), own_cell h (by rw [key 1 (by omega)]; rfl), own_cell h (by rw [key 2 (by omega)]; rfl), own_cell h (by rw [key 3 (by omega)]; rfl), own_cell h (by rw [key 4 (by omega)]; rfl), own_cell h (by rw [key 5 (by omega)]; rfl)⟩

theorem gly_len (l : List UInt8) : (glyS l).gl.length ≤ 4096 := by
  unfold glyS
  split
  · simp [GRes.gl]
  · unfold glyOf
    have h2 := (txt_of l).len_le
    split
    · simp [GRes.gl, glys_len]; omega
    · simp [GRes.gl]

/-- what both hand back -/
def GlyG (w : World) (l : List Gly) (n : Int) (p : Pl) (e : Ending) (w' : World) : Prop :=
  ∃ a c, e = .returned (.tuple #[.slice a l.length c, .int .i64 n, .agg #[.int .i64 p.b, .int .i64 p.g, .int .i64 p.l, .int .i64 p.c]]) ∧ w'.ownsRow w.heap.size 45 6 (.slice a l.length c) l.length (glysV l) ∧ Fr No w w'
theorem both_glyphs (s : ByteArray) (hs : s.size ≤ maxLen) : ∃ l n p, l.length ≤ 4096 ∧ (∀ w, Tb w → Calls Tryd.prog 25 #[.string s] w (GlyG w l n p)) ∧ ∀ w, Calls Tryd.prog 24 #[.string s] w (GlyG w l n p) :=
  ⟨_, _, _, gly_len s.data.toList, fun w hT => Glyphs_any s w hT hs, fun w => rGlyphs_any s w hs⟩

set_option maxRecDepth 100000 in
set_option maxHeartbeats 4000000 in
theorem law_reads (s : ByteArray) (hs : s.size ≤ maxLen) (w : World) (hT : Tb w) : Calls Tryd.prog 6 #[.string s] w fun e w' => e = .returned (.bool true) ∧ Fr No w w' := by
  obtain ⟨l, n, p, hl, hS, hR⟩ := both_glyphs s hs
  have HS := Lib.hid hS
  have HR := Lib.hid hR
  clear hS hR
  go_enter Tryd.func6, Tryd.ntmps6
  go_wp2_with fail
  refine (awake_calls w hT).mono ?_
  rintro e w1 ⟨rfl, hf⟩
  go_wp2_with fail
  refine (HR.out _).mono ?_
  rintro e w2 ⟨a1, c1, rfl, ho1, hf1⟩
  have hf2 := hf.callNo hf1
  have hB1 := hf1.size
  go_wp2_with fail
  have ho2 := ho1.alloc (.cells #[.int .i64 p.b, .int .i64 p.g, .int .i64 p.l, .int .i64 p.c] 27 (0, 0))
  have hb2 := Blk.new w2 (.cells #[.int .i64 p.b, .int .i64 p.g, .int .i64 p.l, .int .i64 p.c] 27 (0, 0))
  have hf3 := hf2.alloc (.cells #[.int .i64 p.b, .int .i64 p.g, .int .i64 p.l, .int .i64 p.c] 27 (0, 0))
  have hT3 := hT.no hf3
  go_loopw [6] (fun i wr => ∃ k : Nat, k ≤ 2 ∧ i = .int .i64 k ∧ wr.ownsRow w1.heap.size 45 6 (.slice a1 l.length c1) l.length (glysV l) ∧ Blk wr w2.heap.size (plO p) ∧ Fr No w wr ∧ Tb wr) (fun i _ => 2 - (intOf i).toNat)
  case atStart => exact ⟨0, by omega, rfl, ho2, hb2, hf3, hT3⟩
  case round =>
    obtain ⟨k, hk, rfl, ho, hb, hfr, hT4⟩ := hrel
    have hfr0 := hfr.size
    clear ho2 hb2 hf3 hT3 ho1 hf1 hf2 hf
    by_cases hlt : k < 2
    · go_wp2_with fail
      refine (HS.out _ hT4).mono ?_
      rintro e w3 ⟨a2, c2, rfl, ho3, hf4⟩
      have hwl := fun k hk => (ho.lt k hk).2
      have hbl := hb.lt
      have ho4 := own_fr ho hf4 (fun _ _ x => x)
      have hb4 := hb.fr hf4 (fun x => x)
      have hf5 := hfr.callNo hf4
      have hT5 := hT4.no hf4
      clear ho hb hfr hT4
      go_wp2_with fail
      refine (Num_calls _ _).mono ?_
      rintro e w' ⟨rfl, rfl⟩
      have hlt3 := hb4.lt
      have hne3 : w2.heap.size ≠ w3.heap.size := by omega
      have gc := Blk.all hb4
      have hb5 := hb4.alloc (.cells #[.int .i64 p.b, .int .i64 p.g, .int .i64 p.l, .int .i64 p.c] 27 (0, 0))
      have hb6 := Blk.new w3 (.cells #[.int .i64 p.b, .int .i64 p.g, .int .i64 p.l, .int .i64 p.c] 27 (0, 0))
      have ho5 := ho4.alloc (.cells #[.int .i64 p.b, .int .i64 p.g, .int .i64 p.l, .int .i64 p.c] 27 (0, 0))
      have ho6 := ho3.alloc (.cells #[.int .i64 p.b, .int .i64 p.g, .int .i64 p.l, .int .i64 p.c] 27 (0, 0))
      have hf6 := hf5.alloc (.cells #[.int .i64 p.b, .int .i64 p.g, .int .i64 p.l, .int .i64 p.c] 27 (0, 0))
      go_wp2_with fail
      refine (place_same p _).mono ?_
      rintro e w4 ⟨rfl, hf7⟩
      have ho7 := own_fr ho5 hf7 (fun _ _ x => x)
      have ho8 := own_fr ho6 hf7 (fun _ _ x => x)
      have hf8 := hf6.callNo hf7
      have hb8 := hb5.fr hf7 (fun x => x)
      clear hb4 gc hb5 hb6 ho3 ho4 ho5 ho6 hf5 hf6
      go_wp2_with fail
      obtain ⟨wo, rfl⟩ : ∃ wo : World, wo = wr := ⟨_, rfl⟩
      go_loopw [10] (fun i wq => ∃ (j : Nat) (xs : List Value), j ≤ l.length ∧ i = .int .i64 j ∧ xs.drop (j * 6) = (glysV l).drop (j * 6) ∧ wq.ownsRow wo.heap.size 45 6 (.slice a2 l.length c2) l.length xs ∧
        wq.ownsRow w1.heap.size 45 6 (.slice a1 l.length c1) l.length (glysV l) ∧ Blk wq w2.heap.size (plO p) ∧ Fr No w wq ∧ Tb wq) (fun i _ => l.length - (intOf i).toNat)
      case atStart => exact ⟨0, _, by omega, rfl, rfl, ho8, ho7, hb8, hf8, hT.no hf8⟩
      case round =>
        obtain ⟨j, xs, hj, rfl, hdr, q1, q2, q3, q4, q5⟩ := hrel
        clear ho8 ho7 hb8 hf8 hT5 hf7
        by_cases hjl : j < l.length
        · rcases own_cases q1 with ⟨_, hn0, _⟩ | ⟨g, d, hs1, hgB, hgl, _⟩
          · omega
          simp only [Value.slice.injEq] at hs1
          obtain ⟨rfl, _, rfl⟩ := hs1
          rcases own_cases q2 with ⟨_, hn0, _⟩ | ⟨g2, d2, hs2, hgB2, hgl2, _⟩
          · omega
          simp only [Value.slice.injEq] at hs2
          obtain ⟨rfl, _, rfl⟩ := hs2
          obtain ⟨x, hx⟩ : ∃ x, l[j]? = some x := ⟨l[j], List.getElem?_eq_getElem hjl⟩
          obtain ⟨p0, p1, p2, p3, p4, p5⟩ := gly_at q1 hdr hx
          obtain ⟨r0, r1, r2, r3, r4, r5⟩ := gly_at q2 rfl hx
          have HX := Lib.hid (And.intro hx hdr)
          clear hx hdr
          have i0 : (0 : Int) ≤ (j : Int) := by omega
          have i1 : (j : Int) < (l.length : Int) := by omega
          have hg2 : g2 < wo.heap.size := hwl g2 rfl
          go_wp2_with fail
          go_region_held3 (fun w' => w'.cell? ⟨g, j * 6, none⟩ = some (.int .i64 x.code) ∧ w'.cell? ⟨g, j * 6 + 1, none⟩ = some (.int .i64 (cls x.code)) ∧ w'.cell? ⟨g, j * 6 + 2, none⟩ = some (.int .i64 x.at_.b) ∧ w'.cell? ⟨g, j * 6 + 3, none⟩ = some (.int .i64 x.at_.g) ∧ w'.cell? ⟨g, j * 6 + 4, none⟩ = some (.int .i64 x.at_.l) ∧ w'.cell? ⟨g, j * 6 + 5, none⟩ = some (.int .i64 x.at_.c) ∧ w'.cell? ⟨g2, j * 6, none⟩ = some (.int .i64 x.code) ∧ w'.cell? ⟨g2, j * 6 + 1, none⟩ = some (.int .i64 (cls x.code)) ∧ w'.cell? ⟨g2, j * 6 + 2, none⟩ = some (.int .i64 x.at_.b) ∧ w'.cell? ⟨g2, j * 6 + 3, none⟩ = some (.int .i64 x.at_.g) ∧ w'.cell? ⟨g2, j * 6 + 4, none⟩ = some (.int .i64 x.at_.l) ∧ w'.cell? ⟨g2, j * 6 + 5, none⟩ = some (.int .i64 x.at_.c)) (first | go_keep | (refine ⟨?_, ?_, ?_, ?_, ?_, ?_, ?_, ?_, ?_, ?_, ?_, ?_⟩ <;> exact hfp.cell (by assumption))) (first | (go_at_call 21; refine (place_same x.at_ _).mono ?_; rintro e w' ⟨rfl, hfp⟩))
          have u1 := own_fr (w := wr) (w' := w') q1 ((Fr.refl No wr).drew.callNo hfp) (fun _ _ x => x)
          have u2 := own_fr (w := wr) (w' := w') q2 ((Fr.refl No wr).drew.callNo hfp) (fun _ _ x => x)
          have u3 := q3.drew.fr hfp (fun x => x)
          have u4 := q4.drew.callNo hfp
          clear p0 p1 p2 p3 p4 p5 r0 r1 r2 r3 r4 r5 q1 q2 q3 q4 q5 hfp
          have gv : w'.cell? ⟨g, j * 6, none⟩ = some (.int .i64 x.code) := (gly_at u1 HX.out.2 HX.out.1).k
          have gf := own_free u1 (by omega) (j * 6)
          have e1 := own_set u1 (j * 6) (.int .i64 (-9))
          have e2 := own_fr u2 ((Fr.refl (· = g) _).setCell (a := ⟨g, j * 6, none⟩) (.int .i64 (-9)) (fun _ => rfl)) (fun k hk e => by have := hwl k hk; omega)
          have e3 := u3.set_ne ⟨g, j * 6, none⟩ (.int .i64 (-9)) (by simp; omega)
          have e4 := u4.setCell (a := ⟨g, j * 6, none⟩) (.int .i64 (-9)) (by simp; omega)
          have e5 := hT.no e4
          have e6 : (xs.set (j * 6) (.int .i64 (-9))).drop ((j + 1) * 6) = (glysV l).drop ((j + 1) * 6) := by
            rw [List.drop_set_of_lt (by omega)]
            have := congrArg (List.drop 6) HX.out.2
            simp only [List.drop_drop] at this
            rw [show (j + 1) * 6 = j * 6 + 6 by omega]
            exact this
          have HE := Lib.hid e6
          clear e6
          go_wp2
          go_roundw
          case rel => exact ⟨j + 1, _, by omega, by go_num, HE.out, e1, e2, e3, e4, e5⟩
          case measure => simp [intOf]; omega
        · go_wp2
          go_roundw
          case rel => exact ⟨k + 1, by omega, by go_num, q2, q3, q4, q5⟩
          case measure => simp [intOf]; omega
    · go_wp2
      go_ret
      exact ⟨rfl, hfr⟩
end Go.Proofs.YtklhfbgmadblcaaDoor
