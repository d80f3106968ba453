/- Cells of blocks and owned rows. -/
import Derived.Test.YtlklijpjacmgpaaGreatDoorGa
import Derived.Deep.RegionHeld3
import Derived.Deep.DrawnRows
import Derived.Deep.AppendLies
namespace Go.Proofs.YtlklijpjacmgpaaGreatDoor
open Go.RowKit
set_option linter.unusedVariables false
set_option linter.unusedSimpArgs false
attribute [local go_sem ↓] Go.wp_at_zero Go.wp_at_succ

theorem Fr.cell {w w' : World} (f : Fr No w w') {a : Addr} {v : Value} (h : w.cell? a = some v) : w'.cell? a = some v := by
  have hlt : a.block < w.heap.size := by
    rcases Nat.lt_or_ge a.block w.heap.size with hh | hh
    · exact hh
    · simp [World.cell?, hh] at h
  exact (World.cell?_of_block (f.block a.block hlt (fun x => x))).trans h
theorem own_set {w : World} {B : Nat} {e : TypeId} {size g n cap : Nat} {xs : List Value} (h : w.ownsRow B e size (.slice (some ⟨g, 0, none⟩) n cap) n xs) (i : Nat) (u : Value) :
    (w.setCell ⟨g, i, none⟩ u).ownsRow B e size (.slice (some ⟨g, 0, none⟩) n cap) n (xs.set i u) := by
  obtain ⟨h1, h2⟩ := h
  refine ⟨by rw [List.length_set]; exact h1, ?_⟩
  rcases h2 with ⟨h2, _⟩ | ⟨g', c, cur, hv, hg, hh, h4, h5, h6, h7⟩
  · cases h2
  · simp only [Value.slice.injEq, Option.some.injEq, Addr.mk.injEq, true_and, and_true] at hv
    obtain ⟨rfl, rfl⟩ := hv
    refine Or.inr ⟨g, cap, cur.setIfInBounds i u, rfl, hg, Blk.setOff (show Blk w g _ from hh) i u, h4, h5, by simpa using h6, ?_⟩
    rw [← h7, Array.toList_setIfInBounds, List.take_set]
theorem toksV_get : ∀ (l : List Tok) (i : Nat) (x : Tok) (k : Nat), l[i]? = some x → k < 6 → (toksV l)[i * 6 + k]? = (tokC x)[k]?
  | [], i, x, k, h, _ => by simp at h
  | y :: l, 0, x, k, h, hk => by
    simp at h; subst h
    simp only [toksV, List.flatMap_cons, Nat.zero_mul, Nat.zero_add]
    rw [List.getElem?_append_left (by simp [tokC]; omega)]
  | y :: l, i + 1, x, k, h, hk => by
    have := toksV_get l i x k (by simpa using h) hk
    simp only [toksV, List.flatMap_cons] at this ⊢
    rw [List.getElem?_append_right (by simp [tokC]; omega)]
    rw [← this]
    congr 1
    simp [tokC]; omega
/-- the cells of a token -/
structure TokAt (w : World) (g o : Nat) (x : Tok) : Prop where
  k : w.cell? ⟨g, o, none⟩ = some (.int .i64 x.kind)
  t : w.cell? ⟨g, o + 1, none⟩ = some (.string ⟨x.text.toArray⟩)
  b : w.cell? ⟨g, o + 2, none⟩ = some (.int .i64 x.at_.b)
  gl : w.cell? ⟨g, o + 3, none⟩ = some (.int .i64 x.at_.g)
  l : w.cell? ⟨g, o + 4, none⟩ = some (.int .i64 x.at_.l)
  c : w.cell? ⟨g, o + 5, none⟩ = some (.int .i64 x.at_.c)
theorem tok_at {w : World} {B g n cap : Nat} {l : List Tok} (h : w.ownsRow B 83 6 (.slice (some ⟨g, 0, none⟩) n cap) n (toksV l)) {i : Nat} {x : Tok} (hx : l[i]? = some x) : TokAt w g (i * 6) x :=
  ⟨own_cell h (j := i * 6) (by have := toksV_get l i x 0 hx (by omega); simpa [tokC] using this), own_cell h (by rw [toksV_get l i x 1 hx (by omega)]; rfl), own_cell h (by rw [toksV_get l i x 2 hx (by omega)]; rfl), own_cell h (by rw [toksV_get l i x 3 hx (by omega)]; rfl), own_cell h (by rw [toksV_get l i x 4 hx (by omega)]; rfl), own_cell h (by rw [toksV_get l i x 5 hx (by omega)]; rfl)⟩
end Go.Proofs.YtlklijpjacmgpaaGreatDoor

namespace Go.Proofs.YtlklijpjacmgpaaGreatDoor
open Go.RowKit
set_option linter.unusedVariables false
set_option linter.unusedSimpArgs false

theorem Blk.all {w : World} {b : Nat} {cs : Array Value} {t : TypeId} {f : Nat × Nat} (h : Blk w b (.cells cs t f)) : ∀ i, w.cell? ⟨b, i, none⟩ = cs[i]? := fun i => by
  have h' : w.heap[b]? = _ := h
  simp [World.cell?, h']
theorem own_free {w : World} {B : Nat} {e : TypeId} {size g n cap : Nat} {xs : List Value} (h : w.ownsRow B e size (.slice (some ⟨g, 0, none⟩) n cap) n xs) (hn : 0 < n) (i : Nat) : w.frozen? ⟨g, i, none⟩ = false := by
  obtain ⟨h1, h2⟩ := h
  rcases h2 with ⟨h2, _⟩ | ⟨g', c, cur, hv, hg, hh, h4, h5, h6, h7⟩
  · cases h2
  · simp only [Value.slice.injEq, Option.some.injEq, Addr.mk.injEq, true_and, and_true] at hv
    obtain ⟨rfl, rfl⟩ := hv
    exact Blk.free (show Blk w g _ from hh) i
end Go.Proofs.YtlklijpjacmgpaaGreatDoor

namespace Go.Proofs.YtlklijpjacmgpaaGreatDoor
open Go.RowKit
set_option linter.unusedVariables false
set_option linter.unusedSimpArgs false
attribute [local go_sem ↓] Go.wp_at_zero Go.wp_at_succ

theorem Blk.frees {w : World} {b : Nat} {cs : Array Value} {t : TypeId} (h : Blk w b (.cells cs t (0, 0))) : ∀ i, w.frozen? ⟨b, i, none⟩ = false := fun i => h.free i
end Go.Proofs.YtlklijpjacmgpaaGreatDoor

namespace Go.Proofs.YtlklijpjacmgpaaGreatDoor
open Go.RowKit
set_option linter.unusedVariables false
set_option linter.unusedSimpArgs false

theorem and_mask (n : Int) : ∃ m : Nat, bits .and .i64 n 4611686018427387903 = (m : Int) ∧ m ≤ 4611686018427387903 := by
  have h : (BitVec.ofInt 64 n &&& BitVec.ofInt 64 4611686018427387903).toNat ≤ 4611686018427387903 := by
    rw [BitVec.toNat_and]
    exact Nat.le_trans Nat.and_le_right (by decide)
  refine ⟨(BitVec.ofInt 64 n &&& BitVec.ofInt 64 4611686018427387903).toNat, ?_, h⟩
  show IntKind.i64.wrap ((BitVec.ofInt 64 n &&& BitVec.ofInt 64 4611686018427387903).toNat : Int) = _
  generalize (BitVec.ofInt 64 n &&& BitVec.ofInt 64 4611686018427387903).toNat = k at *
  rw [IntKind.wrap_i64]
  omega
end Go.Proofs.YtlklijpjacmgpaaGreatDoor

namespace Go.Proofs.YtlklijpjacmgpaaGreatDoor
open Go.RowKit
set_option linter.unusedVariables false
set_option linter.unusedSimpArgs false
set_option exponentiation.threshold 5000
attribute [local go_sem ↓] Go.wp_at_zero Go.wp_at_succ

theorem own_lit (w : World) (xs : List Value) (e : TypeId) (hl : xs.length ≤ maxLen) : (w.alloc (.cells xs.toArray e (0, 0))).ownsRow w.heap.size e 1 (.slice (some ⟨w.heap.size, 0, none⟩) xs.length xs.length) xs.length xs :=
  ⟨by omega, Or.inr ⟨w.heap.size, xs.length, xs.toArray, rfl, Nat.le_refl _, Blk.new w _, Nat.le_refl _, hl, by simp, by simp⟩⟩
end Go.Proofs.YtlklijpjacmgpaaGreatDoor

namespace Go.Proofs.YtlklijpjacmgpaaGreatDoor
open Go
set_option linter.unusedVariables false
set_option linter.unusedSimpArgs false

/-! the pieces of tokens -/
theorem decText_codes (v : Nat) : ∀ b ∈ decText v, 48 ≤ b.toNat ∧ b.toNat ≤ 57 := by
  intro b hb
  unfold decText at hb
  split at hb
  · simp at hb; subst hb; decide
  · rw [List.mem_map] at hb
    obtain ⟨d, hd, rfl⟩ := hb
    have := dig_lt (b := 10) (by omega) v d (by simpa using hd)
    simp only [UInt8.toNat_ofNat']
    omega
theorem digVal_decText (v : Nat) : digVal ((decText v).map UInt8.toNat) = v := by
  unfold decText
  split
  · rename_i h; subst h; rfl
  · rw [digVal_val]
    have : ∀ l : List Nat, (∀ d ∈ l, d < 10) → (((l.reverse.map fun d => UInt8.ofNat (48 + d)).map UInt8.toNat).reverse.map (· - 48)) = l := by
      intro l hl
      rw [List.map_map, ← List.map_reverse, List.reverse_reverse, List.map_map]
      conv => rhs; rw [← List.map_id l]
      apply List.map_congr_left
      intro d hd
      have := hl d hd
      simp only [Function.comp, UInt8.toNat_ofNat', id]
      omega
    rw [this _ (dig_lt (by omega) v), valB_dig (by omega)]
end Go.Proofs.YtlklijpjacmgpaaGreatDoor

