/- The walk of GlyphScans. -/
import Derived.Test.YtklhfbgmadblcaaDoorE2
namespace Go.Proofs.YtklhfbgmadblcaaDoor
open Go.RowKit
set_option linter.unusedVariables false
set_option linter.unusedSimpArgs false

theorem scan_n_len : ∀ (n : Nat) (brk : Bool) (pre cs : List Nat), (scan brk n pre cs).toks.length ≤ n
  | 0, brk, pre, cs => by simp [scan, Res.toks]
  | n + 1, brk, pre, cs => by
    unfold scan
    split
    · split <;> simp [Res.toks]
    · split
      · simp [Res.toks]
      · rename_i c r _ _ _ _ m _
        have := scan_n_len n brk (pre ++ skipped cs ++ List.take m (c :: r)) (List.drop m (c :: r))
        cases hs : scan brk n (pre ++ skipped cs ++ List.take m (c :: r)) (List.drop m (c :: r)) with
        | bad e p => simp [Res.cons, Res.toks]
        | ok l => rw [hs] at this; simpa [Res.cons, Res.toks] using this
theorem scan_len (l : List UInt8) : (scanS l).toks.length ≤ 4097 := by
  unfold scanS
  split
  · simp [Res.toks]
  · unfold scanOf
    have h1 := scan_n_len ((csOf l).length + 1) (!(tlOf l).isEmpty) [] (csOf l)
    have h2 := (txt_of l).len_le
    omega

theorem Blk.all {w : World} {b : Nat} {cs : Array Value} {t : TypeId} {f : Nat × Nat} (h : Blk w b (.cells cs t f)) : ∀ i, w.cell? ⟨b, i, none⟩ = cs[i]? := fun i => by
  have h' : w.heap[b]? = _ := h
  simp [World.cell?, h']

theorem own_free {w : World} {B : Nat} {e : TypeId} {size g n cap : Nat} {xs : List Value} (h : w.ownsRow B e size (.slice (some ⟨g, 0, none⟩) n cap) n xs) (hn : 0 < n) (i : Nat) : w.frozen? ⟨g, i, none⟩ = false := by
  obtain ⟨h1, h2⟩ := h
  rcases h2 with ⟨h2, _⟩ | ⟨g', c, cur, hv, hg, hh, h4, h5, h6, h7⟩
  · cases h2
  · simp only [Value.slice.injEq, Option.some.injEq, Addr.mk.injEq, true_and, and_true] at hv
    obtain ⟨rfl, rfl⟩ := hv
    exact Blk.free (show Blk w g _ from hh) i

/-- what both Scans hand back -/
def ScanG (w : World) (l : List Tok) (n : Int) (p : Pl) (e : Ending) (w' : World) : Prop :=
  ∃ a c, e = .returned (.tuple #[.slice a l.length c, .int .i64 n, .agg #[.int .i64 p.b, .int .i64 p.g, .int .i64 p.l, .int .i64 p.c]]) ∧ w'.ownsRow w.heap.size 37 6 (.slice a l.length c) l.length (toksV l) ∧ Fr No w w'
theorem both_scans (s : ByteArray) (hs : s.size ≤ maxLen) : ∃ l n p, l.length ≤ 4097 ∧ (∀ w, Tb w → Calls Tryd.prog 19 #[.string s] w (ScanG w l n p)) ∧ ∀ w, Calls Tryd.prog 18 #[.string s] w (ScanG w l n p) :=
  ⟨_, _, _, scan_len s.data.toList, fun w hT => Scan_any s w hT hs, fun w => rScan_any s w hs⟩

set_option maxRecDepth 100000 in
set_option maxHeartbeats 2000000 in
theorem law_scans (s : ByteArray) (hs : s.size ≤ maxLen) (w : World) (hT : Tb w) : Calls Tryd.prog 4 #[.string s] w fun e w' => e = .returned (.bool true) ∧ Fr No w w' := by
  obtain ⟨l, n, p, hl, hS, hR⟩ := both_scans s hs
  have HS := Lib.hid hS
  have HR := Lib.hid hR
  clear hS hR
  go_enter Tryd.func4, Tryd.ntmps4
  go_wp2_with fail
  refine (awake_calls w hT).mono ?_
  rintro e w1 ⟨rfl, hf⟩
  go_wp2_with fail
  refine (HR.out _).mono ?_
  rintro e w2 ⟨a1, c1, rfl, ho1, hf1⟩
  have hf2 := hf.callNo hf1
  have hB1 := hf1.size
  go_wp2_with fail
  have ho2 := ho1.alloc (.cells #[.int .i64 p.b, .int .i64 p.g, .int .i64 p.l, .int .i64 p.c] 27 (0, 0))
  have hb2 := Blk.new w2 (.cells #[.int .i64 p.b, .int .i64 p.g, .int .i64 p.l, .int .i64 p.c] 27 (0, 0))
  have hf3 := hf2.alloc (.cells #[.int .i64 p.b, .int .i64 p.g, .int .i64 p.l, .int .i64 p.c] 27 (0, 0))
  have hT3 := hT.no hf3
  go_loopw [6] (fun i wr => ∃ k : Nat, k ≤ 2 ∧ i = .int .i64 k ∧ wr.ownsRow w1.heap.size 37 6 (.slice a1 l.length c1) l.length (toksV l) ∧ Blk wr w2.heap.size (plO p) ∧ Fr No w wr ∧ Tb wr) (fun i _ => 2 - (intOf i).toNat)
  case atStart => exact ⟨0, by omega, rfl, ho2, hb2, hf3, hT3⟩
  case round =>
    obtain ⟨k, hk, rfl, ho, hb, hfr, hT4⟩ := hrel
    have hfr0 := hfr.size
    clear ho2 hb2 hf3 hT3 ho1 hf1 hf2 hf
    by_cases hlt : k < 2
    · go_wp2_with fail
      refine (HS.out _ hT4).mono ?_
      rintro e w3 ⟨a2, c2, rfl, ho3, hf4⟩
      have hwl := fun k hk => (ho.lt k hk).2
      have hbl := hb.lt
      have ho4 := own_fr ho hf4 (fun _ _ x => x)
      have hb4 := hb.fr hf4 (fun x => x)
      have hf5 := hfr.callNo hf4
      have hT5 := hT4.no hf4
      clear ho hb hfr hT4
      go_wp2_with fail
      refine (Num_calls _ _).mono ?_
      rintro e w' ⟨rfl, rfl⟩
      have hlt3 := hb4.lt
      have hne3 : w2.heap.size ≠ w3.heap.size := by omega
      have gc := Blk.all hb4
      have hb5 := hb4.alloc (.cells #[.int .i64 p.b, .int .i64 p.g, .int .i64 p.l, .int .i64 p.c] 27 (0, 0))
      have hb6 := Blk.new w3 (.cells #[.int .i64 p.b, .int .i64 p.g, .int .i64 p.l, .int .i64 p.c] 27 (0, 0))
      go_wp2_with fail
      have ho5 := ho4.alloc (.cells #[.int .i64 p.b, .int .i64 p.g, .int .i64 p.l, .int .i64 p.c] 27 (0, 0))
      have ho6 := ho3.alloc (.cells #[.int .i64 p.b, .int .i64 p.g, .int .i64 p.l, .int .i64 p.c] 27 (0, 0))
      have hf6 := hf5.alloc (.cells #[.int .i64 p.b, .int .i64 p.g, .int .i64 p.l, .int .i64 p.c] 27 (0, 0))
      refine (place_same p _).mono ?_
      rintro e w4 ⟨rfl, hf7⟩
      have ho7 := own_fr ho5 hf7 (fun _ _ x => x)
      have ho8 := own_fr ho6 hf7 (fun _ _ x => x)
      have hf8 := hf6.callNo hf7
      have hb8 := hb5.fr hf7 (fun x => x)
      clear hb4 gc hb5 hb6 ho3 ho4 ho5 ho6 hf5 hf6
      go_wp2_with fail
      refine (same_true l _ _ _ _ _ _ _ (by omega) ho8 ho7).mono ?_
      rintro e w5 ⟨rfl, hf9⟩
      have ho9 := own_fr ho7 hf9 (fun _ _ x => x)
      have hoA := own_fr ho8 hf9 (fun _ _ x => x)
      have hfA := hf8.callNo hf9
      have hbA := hb8.fr hf9 (fun x => x)
      clear ho7 ho8 hf8 hb8
      go_wp2_with fail
      go_loopw [10] (fun i wq => ∃ (j : Nat) (xs : List Value), j ≤ l.length ∧ i = .int .i64 j ∧ wq.ownsRow wr.heap.size 37 6 (.slice a2 l.length c2) l.length xs ∧
        wq.ownsRow w1.heap.size 37 6 (.slice a1 l.length c1) l.length (toksV l) ∧ Blk wq w2.heap.size (plO p) ∧ Fr No w wq ∧ Tb wq) (fun i _ => l.length - (intOf i).toNat)
      case atStart => exact ⟨0, _, by omega, rfl, hoA, ho9, hbA, hfA, hT.no hfA⟩
      case round =>
        obtain ⟨j, xs, hj, rfl, q1, q2, q3, q4, q5⟩ := hrel
        by_cases hjl : j < l.length
        · rcases own_cases q1 with ⟨_, hn0, _⟩ | ⟨g, d, hs1, hgB, hgl, _⟩
          · omega
          simp only [Value.slice.injEq] at hs1
          obtain ⟨rfl, _, rfl⟩ := hs1
          obtain ⟨v, hv⟩ : ∃ v, xs[j * 6 + 1]? = some v := ⟨xs[j * 6 + 1]'(by have := q1.1; omega), List.getElem?_eq_getElem _⟩
          have gv := own_cell q1 hv
          have gf := own_free q1 (by omega) (j * 6 + 1)
          have i0 : (0 : Int) ≤ (j : Int) := by omega
          have i1 : (j : Int) < (l.length : Int) := by omega
          have e1 := own_set q1 (j * 6 + 1) (.string ⟨#[109, 105, 110, 101]⟩)
          have hw0 := hfr0
          have e2 := own_fr q2 ((Fr.refl (· = g) _).setCell (a := ⟨g, j * 6 + 1, none⟩) (.string ⟨#[109, 105, 110, 101]⟩) (fun _ => rfl)) (fun k hk e => by have := hwl k hk; omega)
          have e3 := q3.set_ne ⟨g, j * 6 + 1, none⟩ (.string ⟨#[109, 105, 110, 101]⟩) (by simp; omega)
          have e4 := q4.setCell (a := ⟨g, j * 6 + 1, none⟩) (.string ⟨#[109, 105, 110, 101]⟩) (by simp; omega)
          have e5 := hT.no e4
          have HV := Lib.hid hv
          clear hv
          go_wp2
          go_roundw
          case rel => exact ⟨j + 1, _, by omega, by go_num, e1, e2, e3, e4, e5⟩
          case measure => simp [intOf]; omega
        · go_wp2
          go_roundw
          case rel => exact ⟨k + 1, by omega, by go_num, q2, q3, q4, q5⟩
          case measure => simp [intOf]; omega
    · go_wp2
      go_ret
      exact ⟨rfl, hfr⟩
end Go.Proofs.YtklhfbgmadblcaaDoor
