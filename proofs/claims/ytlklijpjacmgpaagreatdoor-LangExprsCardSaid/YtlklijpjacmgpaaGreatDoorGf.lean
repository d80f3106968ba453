/- Cells of tokens that a call owns; Scan in one form. -/
import Derived.Test.YtlklijpjacmgpaaGreatDoorGh
import Derived.Test.YtlklijpjacmgpaaGreatDoorGd
import Derived.Deep.RegionHeld3
import Derived.Deep.DrawnRows
namespace Go.Proofs.YtlklijpjacmgpaaGreatDoor
open Go.RowKit
set_option linter.unusedVariables false
set_option linter.unusedSimpArgs false

theorem dec2 : decText 2 = [50] := by
  unfold decText
  rw [if_neg (by omega), dig_pos (by omega) (by omega), show 2 / 10 = 0 from rfl, dig_zero]
  rfl
set_option exponentiation.threshold 2000 in
theorem awake_scan : scanOf [945, 32, 8788, 32, 50, 120] [] = .ok [⟨1, [206, 177], ⟨0, 0, 1, 1⟩⟩, ⟨3, [58, 61], ⟨3, 2, 1, 3⟩⟩, ⟨2, [50], ⟨7, 4, 1, 5⟩⟩, ⟨1, [120], ⟨8, 5, 1, 6⟩⟩, ⟨0, [], ⟨9, 6, 1, 7⟩⟩] := by
  have h : ¬ (2 ^ 1024 ≤ 2) := by decide +kernel
  simp [scanOf, scan, skipC, skipped, tk, part, digit, cls, isBlank, isLetter, isDigit, isMark, isSign, digVal, dec2, Res.cons, enc, along, behind, start, h]
theorem awake_txt : Txt (⟨#[206, 177, 32, 226, 137, 148, 32, 50, 120]⟩ : ByteArray).data.toList [945, 32, 8788, 32, 50, 120] [] :=
  ⟨rfl, by decide, rfl⟩
end Go.Proofs.YtlklijpjacmgpaaGreatDoor

namespace Go.Proofs.YtlklijpjacmgpaaGreatDoor
open Go.RowKit
set_option linter.unusedVariables false
set_option linter.unusedSimpArgs false
attribute [local go_sem ↓] Go.wp_at_zero Go.wp_at_succ

set_option maxHeartbeats 1000000 in
theorem place_same (p : Pl) (w : World) : Calls Tryz.prog 10 #[.agg (plA p), .agg (plA p)] w fun e w' => e = .returned (.bool true) ∧ Fr No w w' := by
  unfold plA
  go_enter Tryz.func10, Tryz.ntmps10
  go_wp2
  go_ret
  exact ⟨by simp, ((Fr.refl No w).alloc _).alloc _⟩
/-- what Scan hands back, in one form -/
def Res.toks : Res → List Tok
  | .bad _ _ => []
  | .ok l => l
def Res.code : Res → Int
  | .bad n _ => n
  | .ok _ => 0
def Res.pl : Res → Pl
  | .bad _ p => p
  | .ok _ => zeroPl
def ScanGot (w : World) (r : Res) (e : Ending) (w' : World) : Prop :=
  ∃ a c, e = .returned (.tuple #[.slice a r.toks.length c, .int .i64 r.code, .agg (plA r.pl)]) ∧ w'.ownsRow w.heap.size 83 6 (.slice a r.toks.length c) r.toks.length (toksV r.toks) ∧ Fr No w w'
theorem ScanOut.got {w : World} {r : Res} {e : Ending} {w' : World} (h : ScanOut w r e w') : ScanGot w r e w' := by
  cases r with
  | bad n p => exact ⟨none, 0, h.1, World.ownsRow_nil _ _ _ _, h.2⟩
  | ok l => exact h
/-- a text's code points, and what is left -/
noncomputable def csOf (l : List UInt8) : List Nat := (Txt.ex l).choose
noncomputable def tlOf (l : List UInt8) : List UInt8 := (Txt.ex l).choose_spec.choose
theorem txt_of (l : List UInt8) : Txt l (csOf l) (tlOf l) := (Txt.ex l).choose_spec.choose_spec
/-- what Scan answers to a text -/
noncomputable def scanS (l : List UInt8) : Res := if 4096 < l.length then .bad 2 zeroPl else scanOf (csOf l) (tlOf l)
theorem scanS_eq {l : List UInt8} {cs : List Nat} {t : List UInt8} (T : Txt l cs t) (h : l.length ≤ 4096) : scanS l = scanOf cs t := by
  unfold scanS
  rw [if_neg (by omega)]
  obtain ⟨e1, e2⟩ := (txt_of l).uniq T
  rw [e1, e2]
theorem Scan_any (s : ByteArray) (w : World) (hT : Tb w) (hs : s.size ≤ maxLen) : Calls Tryz.prog 62 #[.string s] w (ScanGot w (scanS s.data.toList)) := by
  have hl := Lib.size_eq s
  by_cases h : 4096 < s.size
  · have e : scanS s.data.toList = .bad 2 zeroPl := if_pos (by omega)
    rw [e]
    exact (Scan_long s w h hs).mono fun _ _ h => h.got
  · rw [scanS_eq (txt_of _) (by omega)]
    exact (Scan_short s w hT (by omega) (txt_of _)).mono fun _ _ h => h.got
/-- kind and text -/
def Tok.kt (x : Tok) : Int × List UInt8 := (x.kind, x.text)
end Go.Proofs.YtlklijpjacmgpaaGreatDoor

namespace Go.Proofs.YtlklijpjacmgpaaGreatDoor
open Go.RowKit
set_option linter.unusedVariables false
set_option linter.unusedSimpArgs false

theorem scan_n_len : ∀ (n : Nat) (brk : Bool) (pre cs : List Nat), (scan brk n pre cs).toks.length ≤ n
  | 0, brk, pre, cs => by simp [scan, Res.toks]
  | n + 1, brk, pre, cs => by
    unfold scan
    split
    · split <;> simp [Res.toks]
    · split
      · simp [Res.toks]
      · rename_i c r _ _ _ _ m _
        have := scan_n_len n brk (pre ++ skipped cs ++ List.take m (c :: r)) (List.drop m (c :: r))
        cases hs : scan brk n (pre ++ skipped cs ++ List.take m (c :: r)) (List.drop m (c :: r)) with
        | bad e p => simp [Res.cons, Res.toks]
        | ok l => rw [hs] at this; simpa [Res.cons, Res.toks] using this
theorem scan_len (l : List UInt8) : (scanS l).toks.length ≤ 4097 := by
  unfold scanS
  split
  · simp [Res.toks]
  · unfold scanOf
    have h1 := scan_n_len ((csOf l).length + 1) (!(tlOf l).isEmpty) [] (csOf l)
    have h2 := (txt_of l).len_le
    omega
/-- what both Scans hand back -/
def ScanG (w : World) (l : List Tok) (n : Int) (p : Pl) (e : Ending) (w' : World) : Prop :=
  ∃ a c, e = .returned (.tuple #[.slice a l.length c, .int .i64 n, .agg #[.int .i64 p.b, .int .i64 p.g, .int .i64 p.l, .int .i64 p.c]]) ∧ w'.ownsRow w.heap.size 83 6 (.slice a l.length c) l.length (toksV l) ∧ Fr No w w'
end Go.Proofs.YtlklijpjacmgpaaGreatDoor

