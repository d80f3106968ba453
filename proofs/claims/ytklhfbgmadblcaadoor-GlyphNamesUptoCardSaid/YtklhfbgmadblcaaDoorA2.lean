/- The reference's reader: what its functions compute. -/
import Derived.Test.YtklhfbgmadblcaaDoorA1
import Derived.Test.YtklhfbgmadblcaaDoorStr
import Derived.Deep.QuietTactic
import Derived.BigQuiet
namespace Go.Proofs.YtklhfbgmadblcaaDoor
open Go.RowKit
set_option linter.unusedVariables false
set_option linter.unusedSimpArgs false

def acc (r : List UInt8) (v : Nat) : Nat → Option Nat
  | 0 => some v
  | k + 1 => (acc r v k).bind fun u => (con r[k]?).map fun x => u * 64 + x

def ptR : Option (Nat × Nat) → Nat × Nat
  | some p => p
  | none => (0, 0)

def fin (n least : Nat) (v : Nat) : Option (Nat × Nat) := if least ≤ v ∧ okc v = true then some (v, n) else none

theorem dec_two {b : UInt8} {r : List UInt8} (h : 192 ≤ b.toNat ∧ b.toNat ≤ 223) : dec (b :: r) = (acc r (b.toNat - 192) 1).bind (fin 2 128) := by
  have hb := b.toNat_lt
  simp only [dec, acc, Option.bind_some]
  rw [if_neg (by omega), if_pos (by omega)]
  cases hx : con r[0]? with
  | none => rfl
  | some x =>
    have := con_lt hx
    simp only [Option.bind_some, Option.map_some, fin]
    have e : b.toNat % 32 * 64 + x = (b.toNat - 192) * 64 + x := by omega
    rw [e]
    have ho : okc ((b.toNat - 192) * 64 + x) = true := okc_iff.2 (by omega)
    simp [ho]
theorem dec_three {b : UInt8} {r : List UInt8} (h : 224 ≤ b.toNat ∧ b.toNat ≤ 239) : dec (b :: r) = (acc r (b.toNat - 224) 2).bind (fin 3 2048) := by
  have hb := b.toNat_lt
  simp only [dec, acc, Option.bind_some]
  rw [if_neg (by omega), if_neg (by omega), if_pos (by omega)]
  cases hx : con r[0]? with
  | none => rfl
  | some x =>
    have := con_lt hx
    cases hy : con r[1]? with
    | none => simp
    | some y =>
      have := con_lt hy
      simp only [Option.bind_some, Option.map_some, fin]
      have e : b.toNat % 16 * 4096 + x * 64 + y = ((b.toNat - 224) * 64 + x) * 64 + y := by omega
      rw [e]
theorem dec_four {b : UInt8} {r : List UInt8} (h : 240 ≤ b.toNat ∧ b.toNat ≤ 247) : dec (b :: r) = (acc r (b.toNat - 240) 3).bind (fin 4 65536) := by
  have hb := b.toNat_lt
  simp only [dec, acc, Option.bind_some]
  rw [if_neg (by omega), if_neg (by omega), if_neg (by omega), if_pos (by omega)]
  cases hx : con r[0]? with
  | none => rfl
  | some x =>
    have := con_lt hx
    cases hy : con r[1]? with
    | none => simp
    | some y =>
      have := con_lt hy
      cases hz : con r[2]? with
      | none => simp
      | some z =>
        have := con_lt hz
        simp only [Option.bind_some, Option.map_some, fin]
        have e : b.toNat % 8 * 262144 + x * 4096 + y * 64 + z = (((b.toNat - 240) * 64 + x) * 64 + y) * 64 + z := by omega
        rw [e]
theorem dec_else {b : UInt8} {r : List UInt8} (h1 : 128 ≤ b.toNat) (h2 : b.toNat < 192 ∨ 247 < b.toNat) : dec (b :: r) = none := by
  have hb := b.toNat_lt
  simp only [dec]
  rw [if_neg (by omega), if_neg (by omega), if_neg (by omega), if_neg (by omega)]
theorem dec_one {b : UInt8} {r : List UInt8} (h1 : b.toNat < 128) : dec (b :: r) = some (b.toNat, 1) := by
  simp only [dec]; rw [if_pos h1]

theorem drop_at {S : ByteArray} {i : Nat} (h : i < S.size) : S.data.toList.drop i = S[i] :: S.data.toList.drop (i + 1) := by
  rw [List.drop_eq_getElem_cons (by rw [← Lib.size_eq]; exact h)]
  rfl

abbrev ptrV (b : Nat) : Value := .pointer (some ⟨b, 0, none⟩)
def rdO (S : ByteArray) (p : Pl) : Obj := .cells #[.string S, .int .i64 p.b, .int .i64 p.g, .int .i64 p.l, .int .i64 p.c] 63 (0, 0)

end Go.Proofs.YtklhfbgmadblcaaDoor
