/- GlyphNames: texts that came in, the tokens made of them, the reference's Join. -/
import Derived.Test.YtklhfbgmadblcaaDoorS2
import Derived.Test.YtklhfbgmadblcaaDoorN1
import Derived.Test.YtklhfbgmadblcaaDoorRows
import Derived.ProofKit
import Derived.SliceStrings
namespace Go.Proofs.YtklhfbgmadblcaaDoor
open Go.RowKit
set_option linter.unusedVariables false
set_option linter.unusedSimpArgs false
attribute [local go_sem ↓] Go.wp_at_zero Go.wp_at_succ

/-- a slice of strings that came in -/
def IsStrs (w : World) (v : Value) (z : List ByteArray) : Prop :=
  ∃ a cap, v = .slice a z.length cap ∧ (0 < z.length → ∃ b off, a = some ⟨b, off, none⟩ ∧ ∀ i x, z[i]? = some x → w.cell? ⟨b, off + i, none⟩ = some (.string x))
/-- what the texts weigh -/
def bulkZ : List ByteArray → Nat
  | [] => 0
  | x :: z => x.size + 1 + bulkZ z
theorem bulkZ_append (y z : List ByteArray) : bulkZ (y ++ z) = bulkZ y + bulkZ z := by
  induction y with
  | nil => simp [bulkZ]
  | cons x y ih => simp only [List.cons_append, bulkZ, ih]; omega
theorem bulkZ_len (z : List ByteArray) : z.length ≤ bulkZ z := by
  induction z with
  | nil => simp
  | cons x z ih => simp only [bulkZ, List.length_cons]; omega
theorem bulkZ_strs {H : Type} (z : List ByteArray) : Rows.uptoBulkAll (H := H) (Go.ChangeShapes.strs z) = bulkZ z := by
  induction z with
  | nil => simp [Go.ChangeShapes.strs, bulkZ, Rows.uptoBulkAll]
  | cons x z ih =>
    have hx := Lib.size_eq x
    simp only [Go.ChangeShapes.strs, List.map_cons, Rows.uptoBulkAll, Rows.uptoBulk, bulkZ] at ih ⊢
    rw [ih]
    omega
set_option maxRecDepth 100000 in
open Go.ChangeShapes Go.WideShapes Go.ChangeAt in
theorem strs_of_arg {H : Type} {enc : TypeId × Value → H} {W : World} {base : Nat} {sp : Nat → Bool} {v : Value} {d : DataW H} {p : List MemPlace} (hv : Value.okWide Tryd.prog W .any base 50 v) (h : DataW.Trod enc Tryd.prog W 0 sp true 50 v d p) : ∃ z, IsStrs W v z ∧ bulkZ z ≤ Rows.uptoBulk d := by
  obtain ⟨a0, len0, cap0, rfl⟩ := okWide_slice Tryd.underlying50 hv
  obtain ⟨fuel, hf⟩ := h
  rcases open_strings Tryd.underlying50 Tryd.underlying9 (by kernel_rfl) hf with ⟨hcs, _⟩ | ⟨x, l, c, ss, hcs, _, hl, hm, hz, hx, hcell, hwz⟩
  · simp [Value.cells] at hcs
    obtain ⟨rfl, rfl, rfl⟩ := hcs
    exact ⟨[], ⟨none, 0, rfl, fun h => absurd h (Nat.lt_irrefl 0)⟩, Nat.zero_le _⟩
  · simp [Value.cells] at hcs
    obtain ⟨rfl, rfl, rfl⟩ := hcs
    have hzl : len0 ≤ ss.length := by rw [hz]; split <;> omega
    have hlen : (ss.take len0).length = len0 := by rw [List.length_take]; omega
    simp only [Prod.mk.injEq] at hx
    obtain ⟨rfl, _⟩ := hx
    refine ⟨ss.take len0, ⟨some x, cap0, by rw [hlen], fun h0 => ?_⟩, ?_⟩
    · rw [hlen] at h0
      obtain ⟨b, off, spot⟩ := x
      have hspot : spot = none := by simpa [Addr.add] using World.cell?_spot (hcell 0 (by omega))
      subst hspot
      refine ⟨b, off, rfl, fun i y hy => ?_⟩
      rw [List.getElem?_take] at hy
      split at hy
      · rename_i hi
        rw [← add_plain, hcell i (by omega)]
        simp [List.getD, hy]
      · cases hy
    · simp only [Rows.uptoBulk]
      rw [bulkZ_strs]
      omega

/-- the tokens that the law makes -/
def toksFrom : Nat → List ByteArray → List Tok
  | _, [] => []
  | i, x :: z => ⟨i, x.data.toList, zeroPl⟩ :: toksFrom (i + 1) z
theorem toksFrom_snoc : ∀ (i : Nat) (z : List ByteArray) (x : ByteArray), toksFrom i (z ++ [x]) = toksFrom i z ++ [⟨(i + z.length : Nat), x.data.toList, zeroPl⟩]
  | i, [], x => by simp [toksFrom]
  | i, y :: z, x => by
    simp only [List.cons_append, toksFrom, toksFrom_snoc (i + 1) z x, List.length_cons]
    rw [show i + 1 + z.length = i + (z.length + 1) by omega]
theorem toksFrom_len : ∀ (i : Nat) (z : List ByteArray), (toksFrom i z).length = z.length
  | i, [] => rfl
  | i, x :: z => by simp [toksFrom, toksFrom_len (i + 1) z]
theorem toksFrom_take (z : List ByteArray) (k : Nat) (x : ByteArray) (h : z[k]? = some x) : toksFrom 0 (z.take (k + 1)) = toksFrom 0 (z.take k) ++ [⟨k, x.data.toList, zeroPl⟩] := by
  have hk : k < z.length := (List.getElem?_eq_some_iff.1 h).1
  rw [List.take_add_one, h, Option.toList_some, toksFrom_snoc, List.length_take, Nat.min_eq_left (by omega), Nat.zero_add]
theorem joinT_bulk : ∀ (i : Nat) (z : List ByteArray), (joinT (toksFrom i z)).length ≤ bulkZ z
  | i, [] => by simp [toksFrom, joinT]
  | i, [x] => by
    have := Lib.size_eq x
    simp [toksFrom, joinT, bulkZ]
  | i, x :: y :: z => by
    have ih := joinT_bulk (i + 1) (y :: z)
    have := Lib.size_eq x
    simp only [toksFrom, joinT, bulkZ, List.length_append, List.length_cons, List.length_nil] at ih ⊢
    omega

set_option maxRecDepth 100000 in
set_option maxHeartbeats 2000000 in
theorem rJoin_calls (l : List Tok) (B : Nat) (a : Option Addr) (c : Nat) (w : World) (hl : l.length ≤ 1000000000000) (hj : (joinT l).length ≤ 140737488355328) (h : w.ownsRow B 37 6 (.slice a l.length c) l.length (toksV l)) :
    Calls Tryd.prog 31 #[.slice a l.length c] w fun e w' => e = .returned (.string ⟨(joinT l).toArray⟩) ∧ Fr No w w' := by
  go_enter Tryd.func31, Tryd.ntmps31
  go_wp2_with fail
  go_loopg [3, 4] l.length (fun r x3 x4 wr => ∃ k : Nat, r = l.length - k ∧ k ≤ l.length ∧ x4 = .int .i64 k ∧ x3 = .string ⟨(joinT (l.take k)).toArray⟩ ∧ Fr No w wr)
  case atStart => exact ⟨0, rfl, by omega, rfl, by simp [joinT], Fr.refl _ _⟩
  case round =>
    obtain ⟨k, hr, hk, rfl, rfl, hf⟩ := hrel
    have HR := Lib.hid hr
    clear hr
    by_cases hlt : k < l.length
    · have ho := own_fr h hf (fun _ _ x => x)
      rcases own_cases ho with ⟨_, hn0, _⟩ | ⟨g, d, hs1, hgB, hgl, _⟩
      · omega
      simp only [Value.slice.injEq] at hs1
      obtain ⟨rfl, _, rfl⟩ := hs1
      obtain ⟨x, hx⟩ : ∃ x, l[k]? = some x := ⟨l[k], List.getElem?_eq_getElem hlt⟩
      obtain ⟨p0, p1, p2, p3, p4, p5⟩ := tok_at ho hx
      have hjt := joinT_take l k x hx
      have hjl := joinT_le l (k + 1)
      have hj1 : (joinT (l.take k)).length + (if k = 0 then 0 else 1) + x.text.length ≤ 140737488355328 := by
        have h1 := congrArg List.length hjt
        simp only [List.length_append] at h1
        split
        · rename_i h0; rw [if_pos h0] at h1; simp at h1; omega
        · rename_i h0; rw [if_neg h0] at h1; simp at h1; omega
      have HJ := Lib.hid (And.intro hjt hjl)
      clear hx hjt hjl p0 p2 p3 p4 p5 ho
      obtain ⟨J, hJ⟩ : ∃ J, joinT (l.take k) = J := ⟨_, rfl⟩
      rw [hJ] at hj1 ⊢
      rw [hJ] at HJ
      have hJz : (⟨J.toArray⟩ : ByteArray).size = J.length := by rw [Lib.size_eq]
      have hxz : (⟨x.text.toArray⟩ : ByteArray).size = x.text.length := by rw [Lib.size_eq]
      have i0 : (0 : Int) ≤ (k : Int) := by omega
      have i1 : (k : Int) < (l.length : Int) := by omega
      by_cases h0 : k = 0
      · have hz : decide (0 < k) = false := by simp; omega
        rw [if_pos h0] at hj1
        have HK := Lib.hid h0
        clear h0
        go_wp2_with fail
        go_roundg (l.length - (k + 1))
        case measure => rw [HR.out]; omega
        case rel =>
          refine ⟨k + 1, rfl, by omega, by go_num, ?_, hf⟩
          rw [HJ.out.1, if_pos HK.out]
          congr 1
      · have hz : decide (0 < k) = true := by simp; omega
        rw [if_neg h0] at hj1
        have HK := Lib.hid h0
        clear h0
        go_wp2_with fail
        go_roundg (l.length - (k + 1))
        case measure => rw [HR.out]; omega
        case rel =>
          refine ⟨k + 1, rfl, by omega, by go_num, ?_, hf⟩
          rw [HJ.out.1, if_neg HK.out]
          congr 1
          apply ByteArray.ext
          simp
    · obtain rfl : k = l.length := by omega
      rw [List.take_length]
      go_wp2_with fail
      go_ret
      exact ⟨rfl, hf⟩
end Go.Proofs.YtklhfbgmadblcaaDoor
