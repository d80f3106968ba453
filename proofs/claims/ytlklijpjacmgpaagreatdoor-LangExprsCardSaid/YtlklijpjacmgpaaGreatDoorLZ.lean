/- Printing: Write, condition, kind, head; Printing: a statement's blocks. -/
import Derived.Test.YtlklijpjacmgpaaGreatDoorLX
import Derived.Deep.DrawnRows
namespace Go.Proofs.YtlklijpjacmgpaaGreatDoor
open Go.RowKit
set_option linter.unusedVariables false
set_option linter.unusedSimpArgs false
attribute [local go_sem ↓] Go.wp_at_zero Go.wp_at_succ

theorem below_fr {B : Nat} {w w' : World} (h : Below B w w') : Fr (fun k => B ≤ k) w w' := ⟨h.os, h.tape, h.output, h.size, fun k hk hn => h.block k (by omega)⟩
theorem sb_new (w : World) : SB w.heap.size w.heap.size (.pointer none) [] (w.alloc (.cells #[.pointer none, .slice none 0 0] 101 (0, 0))) :=
  ⟨Nat.le_refl _, .slice none 0 0, Blk.new w _, World.ownsRow_nil _ _ _ _, by simp [Value.ownBlock]⟩
set_option maxRecDepth 100000 in
set_option maxHeartbeats 1000000 in
theorem Write_calls {n : Nd} {v : Value} {B0 : Nat} {w : World} (hok : n.ok) (hn : NdIs w B0 n v) (hl : (wrS n).length ≤ 1000000000) :
    Calls Tryz.prog 25 #[v] w fun e w' => e = .returned (.string ⟨(wrS n).toArray⟩) ∧ Fr No w w' := by
  have hal := (Fr.refl No w).alloc (.cells #[.pointer none, .slice none 0 0] 101 (0, 0))
  have hw := wr_all n.sz n v B0 w.heap.size w.heap.size (.pointer none) [] _ (Nat.le_refl _) hok (hn.keep hal (fun _ _ x => x)) (sb_new w) (Or.inl rfl) (by simpa using hl) (by rw [alloc_size]; omega)
  have HW := Lib.hid hw
  clear hw hn
  go_enter Tryz.func25, Tryz.ntmps25
  go_wp2_with fail
  refine HW.out.mono ?_
  rintro e w1 ⟨rfl, hb1, hf1⟩
  have hf2 : Fr No w w1 := hal.call hf1 (fun k hk e => absurd e.2 (by omega))
  rw [List.nil_append] at hb1
  go_wp2_with fail
  refine (Tryz.Builder_String_any w.heap.size w.heap.size (wrS n) w1 (Or.inr hb1) hf2.size).mono ?_
  rintro e w2 ⟨rfl, hb2⟩
  have hf3 : Fr No w w2 := hf2.call (below_fr hb2) (fun k hk e => by omega)
  go_wp2_with fail
  go_ret
  exact ⟨rfl, hf3⟩
/-- a condition as it is written -/
def cdS (l r : Nd) (eq : Bool) : List UInt8 := wrS l ++ (if eq then [32, 61, 32] else [32, 33, 61, 32]) ++ wrS r
set_option maxRecDepth 100000 in
set_option maxHeartbeats 2000000 in
theorem condition_calls {l r : Nd} {y z : Value} {eq : Bool} {B0 : Nat} {w : World} (hokl : l.ok) (hokr : r.ok) (hy : NdIs w B0 l y) (hz : NdIs w B0 r z) (hl : (cdS l r eq).length ≤ 1000000000) :
    Calls Tryz.prog 128 #[.agg #[y, z, .bool eq]] w fun e w' => e = .returned (.string ⟨(cdS l r eq).toArray⟩) ∧ Fr No w w' := by
  obtain ⟨ty, xy, rfl⟩ := hy.form
  obtain ⟨tz, xz, rfl⟩ := hz.form
  unfold cdS at hl ⊢
  simp only [List.length_append] at hl
  have hWl := fun (W : World) (f : Fr No w W) => Write_calls hokl (hy.keep f (fun _ _ x => x)) (by omega)
  have hWr := fun (W : World) (f : Fr No w W) => Write_calls hokr (hz.keep f (fun _ _ x => x)) (by omega)
  obtain ⟨L, hL⟩ : ∃ L, wrS l = L := ⟨_, rfl⟩
  obtain ⟨R, hR⟩ : ∃ R, wrS r = R := ⟨_, rfl⟩
  rw [hL] at hWl hl ⊢
  rw [hR] at hWr hl ⊢
  have hLl : L.length ≤ 1000000000 := by omega
  have hRl : R.length ≤ 1000000000 := by omega
  have HW := Lib.hid (And.intro hWl hWr)
  clear hWl hWr hL hR hl hy hz
  have hal := (Fr.refl No w).alloc (.cells #[.iface ty (.agg xy), .iface tz (.agg xz), .bool eq] 168 (0, 0))
  have hN := Blk.new w (.cells #[.iface ty (.agg xy), .iface tz (.agg xz), .bool eq] 168 (0, 0))
  have hald := hal.drew
  have hNd : ∀ i, (w.alloc (.cells #[.iface ty (.agg xy), .iface tz (.agg xz), .bool eq] 168 (0, 0))).drew.cell? ⟨w.heap.size, i, none⟩ = (#[.iface ty (.agg xy), .iface tz (.agg xz), .bool eq] : Array Value)[i]? := Blk.all hN.drew
  cases eq with
  | true =>
    go_enter Tryz.func128, Tryz.ntmps128
    go_wp2_with fail
    obtain ⟨W1, hW1⟩ : ∃ W1, w.alloc (.cells #[.iface ty (.agg xy), .iface tz (.agg xz), .bool true] 168 (0, 0)) = W1 := ⟨_, rfl⟩
    obtain ⟨N, hNe⟩ : ∃ N, w.heap.size = N := ⟨_, rfl⟩
    rw [hW1] at hal hN hald hNd ⊢
    rw [hNe] at hN hNd ⊢
    have HX := Lib.hid (And.intro hW1 hNe)
    clear hW1 hNe
    first | (go_region_with (first | (go_at_call 25; ((with_reducible refine (HW.out.1 _ hald).mono ?_); rintro e w2 ⟨rfl, hf2⟩; have hM2 : ∀ i, w2.cell? ⟨N, i, none⟩ = (#[.iface ty (.agg xy), .iface tz (.agg xz), .bool true] : Array Value)[i]? := Blk.all (hN.drew.fr hf2 (fun x => x)); have hf12 := hald.callNo hf2)) | (go_at_call 25; ((with_reducible refine (HW.out.2 _ hf12).mono ?_); rintro e w3 ⟨rfl, hf3⟩; have hM3 : ∀ i, w3.cell? ⟨N, i, none⟩ = (#[.iface ty (.agg xy), .iface tz (.agg xz), .bool true] : Array Value)[i]? := Blk.all ((hN.drew.fr hf2 (fun x => x)).fr hf3 (fun x => x)))))) | fail
    all_goals go_wp2_with fail
    all_goals go_ret
    all_goals exact ⟨congrArg (fun x => Ending.returned (.string x)) (by simp [ByteArray.mk_append_mk]), hf12.callNo hf3⟩
  | false =>
    go_enter Tryz.func128, Tryz.ntmps128
    go_wp2_with fail
    obtain ⟨W1, hW1⟩ : ∃ W1, w.alloc (.cells #[.iface ty (.agg xy), .iface tz (.agg xz), .bool false] 168 (0, 0)) = W1 := ⟨_, rfl⟩
    obtain ⟨N, hNe⟩ : ∃ N, w.heap.size = N := ⟨_, rfl⟩
    rw [hW1] at hal hN hald hNd ⊢
    rw [hNe] at hN hNd ⊢
    have HX := Lib.hid (And.intro hW1 hNe)
    clear hW1 hNe
    first | (go_region_with (first | (go_at_call 25; ((with_reducible refine (HW.out.1 _ hald).mono ?_); rintro e w2 ⟨rfl, hf2⟩; have hM2 : ∀ i, w2.cell? ⟨N, i, none⟩ = (#[.iface ty (.agg xy), .iface tz (.agg xz), .bool false] : Array Value)[i]? := Blk.all (hN.drew.fr hf2 (fun x => x)); have hf12 := hald.callNo hf2)) | (go_at_call 25; ((with_reducible refine (HW.out.2 _ hf12).mono ?_); rintro e w3 ⟨rfl, hf3⟩; have hM3 : ∀ i, w3.cell? ⟨N, i, none⟩ = (#[.iface ty (.agg xy), .iface tz (.agg xz), .bool false] : Array Value)[i]? := Blk.all ((hN.drew.fr hf2 (fun x => x)).fr hf3 (fun x => x)))))) | fail
    all_goals go_wp2_with fail
    all_goals go_ret
    all_goals exact ⟨congrArg (fun x => Ending.returned (.string x)) (by simp [ByteArray.mk_append_mk]), hf12.callNo hf3⟩
theorem sa_Set_Set (x : Array Value) (w : World) : (Instr.typeAssert (.iface 220 (.agg x)) 141 220 true).run Tryz.prog w = .ok (.tuple #[.agg x, .bool true]) w := by kernel_rfl
theorem sa_Set_Skip (x : Array Value) (w : World) : (Instr.typeAssert (.iface 204 (.agg x)) 141 220 true).run Tryz.prog w = .ok (.tuple #[.agg #[.int .i64 0, .int .i64 0, .int .i64 0, .int .i64 0, .int .i64 0, .string ⟨#[]⟩, .nilIface], .bool false]) w := by kernel_rfl
theorem sa_Skip_Skip (x : Array Value) (w : World) : (Instr.typeAssert (.iface 204 (.agg x)) 141 204 true).run Tryz.prog w = .ok (.tuple #[.agg x, .bool true]) w := by kernel_rfl
theorem sa_Set_Stop (x : Array Value) (w : World) : (Instr.typeAssert (.iface 205 (.agg x)) 141 220 true).run Tryz.prog w = .ok (.tuple #[.agg #[.int .i64 0, .int .i64 0, .int .i64 0, .int .i64 0, .int .i64 0, .string ⟨#[]⟩, .nilIface], .bool false]) w := by kernel_rfl
theorem sa_Skip_Stop (x : Array Value) (w : World) : (Instr.typeAssert (.iface 205 (.agg x)) 141 204 true).run Tryz.prog w = .ok (.tuple #[.agg #[.int .i64 0, .int .i64 0, .int .i64 0, .int .i64 0], .bool false]) w := by kernel_rfl
theorem sa_Stop_Stop (x : Array Value) (w : World) : (Instr.typeAssert (.iface 205 (.agg x)) 141 205 true).run Tryz.prog w = .ok (.tuple #[.agg x, .bool true]) w := by kernel_rfl
theorem sa_Set_Mark (x : Array Value) (w : World) : (Instr.typeAssert (.iface 222 (.agg x)) 141 220 true).run Tryz.prog w = .ok (.tuple #[.agg #[.int .i64 0, .int .i64 0, .int .i64 0, .int .i64 0, .int .i64 0, .string ⟨#[]⟩, .nilIface], .bool false]) w := by kernel_rfl
theorem sa_Skip_Mark (x : Array Value) (w : World) : (Instr.typeAssert (.iface 222 (.agg x)) 141 204 true).run Tryz.prog w = .ok (.tuple #[.agg #[.int .i64 0, .int .i64 0, .int .i64 0, .int .i64 0], .bool false]) w := by kernel_rfl
theorem sa_Stop_Mark (x : Array Value) (w : World) : (Instr.typeAssert (.iface 222 (.agg x)) 141 205 true).run Tryz.prog w = .ok (.tuple #[.agg #[.int .i64 0, .int .i64 0, .int .i64 0, .int .i64 0], .bool false]) w := by kernel_rfl
theorem sa_Mark_Mark (x : Array Value) (w : World) : (Instr.typeAssert (.iface 222 (.agg x)) 141 222 true).run Tryz.prog w = .ok (.tuple #[.agg x, .bool true]) w := by kernel_rfl
theorem sa_Set_Choose (x : Array Value) (w : World) : (Instr.typeAssert (.iface 163 (.agg x)) 141 220 true).run Tryz.prog w = .ok (.tuple #[.agg #[.int .i64 0, .int .i64 0, .int .i64 0, .int .i64 0, .int .i64 0, .string ⟨#[]⟩, .nilIface], .bool false]) w := by kernel_rfl
theorem sa_Skip_Choose (x : Array Value) (w : World) : (Instr.typeAssert (.iface 163 (.agg x)) 141 204 true).run Tryz.prog w = .ok (.tuple #[.agg #[.int .i64 0, .int .i64 0, .int .i64 0, .int .i64 0], .bool false]) w := by kernel_rfl
theorem sa_Stop_Choose (x : Array Value) (w : World) : (Instr.typeAssert (.iface 163 (.agg x)) 141 205 true).run Tryz.prog w = .ok (.tuple #[.agg #[.int .i64 0, .int .i64 0, .int .i64 0, .int .i64 0], .bool false]) w := by kernel_rfl
theorem sa_Mark_Choose (x : Array Value) (w : World) : (Instr.typeAssert (.iface 163 (.agg x)) 141 222 true).run Tryz.prog w = .ok (.tuple #[.agg #[.int .i64 0, .int .i64 0, .int .i64 0, .int .i64 0, .string ⟨#[]⟩], .bool false]) w := by kernel_rfl
theorem sa_Choose_Choose (x : Array Value) (w : World) : (Instr.typeAssert (.iface 163 (.agg x)) 141 163 true).run Tryz.prog w = .ok (.tuple #[.agg x, .bool true]) w := by kernel_rfl
theorem sa_Set_Loop (x : Array Value) (w : World) : (Instr.typeAssert (.iface 166 (.agg x)) 141 220 true).run Tryz.prog w = .ok (.tuple #[.agg #[.int .i64 0, .int .i64 0, .int .i64 0, .int .i64 0, .int .i64 0, .string ⟨#[]⟩, .nilIface], .bool false]) w := by kernel_rfl
theorem sa_Skip_Loop (x : Array Value) (w : World) : (Instr.typeAssert (.iface 166 (.agg x)) 141 204 true).run Tryz.prog w = .ok (.tuple #[.agg #[.int .i64 0, .int .i64 0, .int .i64 0, .int .i64 0], .bool false]) w := by kernel_rfl
theorem sa_Stop_Loop (x : Array Value) (w : World) : (Instr.typeAssert (.iface 166 (.agg x)) 141 205 true).run Tryz.prog w = .ok (.tuple #[.agg #[.int .i64 0, .int .i64 0, .int .i64 0, .int .i64 0], .bool false]) w := by kernel_rfl
theorem sa_Mark_Loop (x : Array Value) (w : World) : (Instr.typeAssert (.iface 166 (.agg x)) 141 222 true).run Tryz.prog w = .ok (.tuple #[.agg #[.int .i64 0, .int .i64 0, .int .i64 0, .int .i64 0, .string ⟨#[]⟩], .bool false]) w := by kernel_rfl
theorem sa_Choose_Loop (x : Array Value) (w : World) : (Instr.typeAssert (.iface 166 (.agg x)) 141 163 true).run Tryz.prog w = .ok (.tuple #[.agg #[.int .i64 0, .int .i64 0, .int .i64 0, .int .i64 0, .slice none 0 0], .bool false]) w := by kernel_rfl
theorem sa_Loop_Loop (x : Array Value) (w : World) : (Instr.typeAssert (.iface 166 (.agg x)) 141 166 true).run Tryz.prog w = .ok (.tuple #[.agg x, .bool true]) w := by kernel_rfl
theorem sa_Set_If (x : Array Value) (w : World) : (Instr.typeAssert (.iface 173 (.agg x)) 141 220 true).run Tryz.prog w = .ok (.tuple #[.agg #[.int .i64 0, .int .i64 0, .int .i64 0, .int .i64 0, .int .i64 0, .string ⟨#[]⟩, .nilIface], .bool false]) w := by kernel_rfl
theorem sa_Skip_If (x : Array Value) (w : World) : (Instr.typeAssert (.iface 173 (.agg x)) 141 204 true).run Tryz.prog w = .ok (.tuple #[.agg #[.int .i64 0, .int .i64 0, .int .i64 0, .int .i64 0], .bool false]) w := by kernel_rfl
theorem sa_Stop_If (x : Array Value) (w : World) : (Instr.typeAssert (.iface 173 (.agg x)) 141 205 true).run Tryz.prog w = .ok (.tuple #[.agg #[.int .i64 0, .int .i64 0, .int .i64 0, .int .i64 0], .bool false]) w := by kernel_rfl
theorem sa_Mark_If (x : Array Value) (w : World) : (Instr.typeAssert (.iface 173 (.agg x)) 141 222 true).run Tryz.prog w = .ok (.tuple #[.agg #[.int .i64 0, .int .i64 0, .int .i64 0, .int .i64 0, .string ⟨#[]⟩], .bool false]) w := by kernel_rfl
theorem sa_Choose_If (x : Array Value) (w : World) : (Instr.typeAssert (.iface 173 (.agg x)) 141 163 true).run Tryz.prog w = .ok (.tuple #[.agg #[.int .i64 0, .int .i64 0, .int .i64 0, .int .i64 0, .slice none 0 0], .bool false]) w := by kernel_rfl
theorem sa_Loop_If (x : Array Value) (w : World) : (Instr.typeAssert (.iface 173 (.agg x)) 141 166 true).run Tryz.prog w = .ok (.tuple #[.agg #[.int .i64 0, .int .i64 0, .int .i64 0, .int .i64 0, .slice none 0 0], .bool false]) w := by kernel_rfl
theorem sa_If_If (x : Array Value) (w : World) : (Instr.typeAssert (.iface 173 (.agg x)) 141 173 true).run Tryz.prog w = .ok (.tuple #[.agg x, .bool true]) w := by kernel_rfl
theorem sa_Set_While (x : Array Value) (w : World) : (Instr.typeAssert (.iface 170 (.agg x)) 141 220 true).run Tryz.prog w = .ok (.tuple #[.agg #[.int .i64 0, .int .i64 0, .int .i64 0, .int .i64 0, .int .i64 0, .string ⟨#[]⟩, .nilIface], .bool false]) w := by kernel_rfl
theorem sa_Skip_While (x : Array Value) (w : World) : (Instr.typeAssert (.iface 170 (.agg x)) 141 204 true).run Tryz.prog w = .ok (.tuple #[.agg #[.int .i64 0, .int .i64 0, .int .i64 0, .int .i64 0], .bool false]) w := by kernel_rfl
theorem sa_Stop_While (x : Array Value) (w : World) : (Instr.typeAssert (.iface 170 (.agg x)) 141 205 true).run Tryz.prog w = .ok (.tuple #[.agg #[.int .i64 0, .int .i64 0, .int .i64 0, .int .i64 0], .bool false]) w := by kernel_rfl
theorem sa_Mark_While (x : Array Value) (w : World) : (Instr.typeAssert (.iface 170 (.agg x)) 141 222 true).run Tryz.prog w = .ok (.tuple #[.agg #[.int .i64 0, .int .i64 0, .int .i64 0, .int .i64 0, .string ⟨#[]⟩], .bool false]) w := by kernel_rfl
theorem sa_Choose_While (x : Array Value) (w : World) : (Instr.typeAssert (.iface 170 (.agg x)) 141 163 true).run Tryz.prog w = .ok (.tuple #[.agg #[.int .i64 0, .int .i64 0, .int .i64 0, .int .i64 0, .slice none 0 0], .bool false]) w := by kernel_rfl
theorem sa_Loop_While (x : Array Value) (w : World) : (Instr.typeAssert (.iface 170 (.agg x)) 141 166 true).run Tryz.prog w = .ok (.tuple #[.agg #[.int .i64 0, .int .i64 0, .int .i64 0, .int .i64 0, .slice none 0 0], .bool false]) w := by kernel_rfl
theorem sa_If_While (x : Array Value) (w : World) : (Instr.typeAssert (.iface 170 (.agg x)) 141 173 true).run Tryz.prog w = .ok (.tuple #[.agg #[.int .i64 0, .int .i64 0, .int .i64 0, .int .i64 0, .nilIface, .nilIface, .bool false, .slice none 0 0, .pointer none], .bool false]) w := by kernel_rfl
theorem sh_Set (x : Array Value) (w : World) : (Instr.typeAssert (.iface 220 (.agg x)) 141 220 false).run Tryz.prog w = .ok (.agg x) w := by kernel_rfl
theorem sh_Mark (x : Array Value) (w : World) : (Instr.typeAssert (.iface 222 (.agg x)) 141 222 false).run Tryz.prog w = .ok (.agg x) w := by kernel_rfl
theorem sh_If (x : Array Value) (w : World) : (Instr.typeAssert (.iface 173 (.agg x)) 141 173 false).run Tryz.prog w = .ok (.agg x) w := by kernel_rfl
theorem sh_While (x : Array Value) (w : World) : (Instr.typeAssert (.iface 170 (.agg x)) 141 170 false).run Tryz.prog w = .ok (.agg x) w := by kernel_rfl
theorem sf_Set (p0 p1 p2 p3 k s e : Value) (w : World) : (Instr.field 220 (.agg #[p0, p1, p2, p3, k, s, e]) 2).run Tryz.prog w = .ok s w := by kernel_rfl
theorem sf_Mark (p0 p1 p2 p3 s : Value) (w : World) : (Instr.field 222 (.agg #[p0, p1, p2, p3, s]) 1).run Tryz.prog w = .ok s w := by kernel_rfl
theorem sf_If (p0 p1 p2 p3 y z b t e : Value) (w : World) : (Instr.field 173 (.agg #[p0, p1, p2, p3, y, z, b, t, e]) 1).run Tryz.prog w = .ok (.agg #[y, z, b]) w := by kernel_rfl
theorem sf_While (p0 p1 p2 p3 y z b t : Value) (w : World) : (Instr.field 170 (.agg #[p0, p1, p2, p3, y, z, b, t]) 1).run Tryz.prog w = .ok (.agg #[y, z, b]) w := by kernel_rfl
theorem ElsIs.form {w : World} {B : Nat} {e : Els} {v : Value} (h : ElsIs w B e v) : ∃ p, v = .pointer p := by
  cases e with
  | none => simp only [ElsIs] at h; exact ⟨_, h⟩
  | some p b => simp only [ElsIs] at h; obtain ⟨g, _, _, _, _, rfl, _⟩ := h; exact ⟨_, rfl⟩
/-- the kind of a statement's line -/
def kdS : Sm → Int
  | .set _ _ _ none => 3
  | .set _ _ _ (some _) => 2
  | .skip _ => 4
  | .stop _ => 5
  | .mark _ _ => 6
  | .choose _ _ => 7
  | .loop _ _ => 9
  | .iff .. => 10
  | .whil .. => 12

set_option maxRecDepth 100000 in
set_option maxHeartbeats 2000000 in
theorem kind_calls {s : Sm} {v : Value} {B : Nat} {w : World} (h : SmIs w B s v) : Calls Tryz.prog 83 #[v] w fun e w' => e = .returned (.int .i64 (kdS s)) ∧ Fr No w w' := by
  cases s with
  | set p k x e =>
    cases e with
    | none =>
      simp only [SmIs] at h
      subst h
      have s0 := sa_Set_Set
      go_enter Tryz.func83, Tryz.ntmps83
      go_wp2_with fail
      go_ret
      exact ⟨rfl, (Fr.refl No w).alloc _⟩
    | some n =>
      simp only [SmIs] at h
      obtain ⟨y, hy, rfl⟩ := h
      obtain ⟨ty, xy, rfl⟩ := hy.form
      have s0 := sa_Set_Set
      go_enter Tryz.func83, Tryz.ntmps83
      go_wp2_with fail
      go_ret
      exact ⟨rfl, (Fr.refl No w).alloc _⟩
  | skip p =>
    simp only [SmIs] at h
    subst h
    have s0 := sa_Set_Skip
    have s1 := sa_Skip_Skip
    go_enter Tryz.func83, Tryz.ntmps83
    go_wp2_with fail
    go_ret
    exact ⟨rfl, (Fr.refl No w).alloc _⟩
  | stop p =>
    simp only [SmIs] at h
    subst h
    have s0 := sa_Set_Stop
    have s1 := sa_Skip_Stop
    have s2 := sa_Stop_Stop
    go_enter Tryz.func83, Tryz.ntmps83
    go_wp2_with fail
    go_ret
    exact ⟨rfl, (Fr.refl No w).alloc _⟩
  | mark p x =>
    simp only [SmIs] at h
    subst h
    have s0 := sa_Set_Mark
    have s1 := sa_Skip_Mark
    have s2 := sa_Stop_Mark
    have s3 := sa_Mark_Mark
    go_enter Tryz.func83, Tryz.ntmps83
    go_wp2_with fail
    go_ret
    exact ⟨rfl, (Fr.refl No w).alloc _⟩
  | choose p b =>
    simp only [SmIs] at h
    obtain ⟨a, n, c, vs, _, _, rfl⟩ := h
    have s0 := sa_Set_Choose
    have s1 := sa_Skip_Choose
    have s2 := sa_Stop_Choose
    have s3 := sa_Mark_Choose
    have s4 := sa_Choose_Choose
    go_enter Tryz.func83, Tryz.ntmps83
    go_wp2_with fail
    go_ret
    exact ⟨rfl, (Fr.refl No w).alloc _⟩
  | loop p b =>
    simp only [SmIs] at h
    obtain ⟨a, n, c, vs, _, _, rfl⟩ := h
    have s0 := sa_Set_Loop
    have s1 := sa_Skip_Loop
    have s2 := sa_Stop_Loop
    have s3 := sa_Mark_Loop
    have s4 := sa_Choose_Loop
    have s5 := sa_Loop_Loop
    go_enter Tryz.func83, Tryz.ntmps83
    go_wp2_with fail
    go_ret
    exact ⟨rfl, (Fr.refl No w).alloc _⟩
  | iff p l r eq t e =>
    simp only [SmIs] at h
    obtain ⟨y, z, a, n, c, vs, ev, hy, hz, _, _, he, rfl⟩ := h
    obtain ⟨ty, xy, rfl⟩ := hy.form
    obtain ⟨tz, xz, rfl⟩ := hz.form
    obtain ⟨pe, rfl⟩ := he.form
    have s0 := sa_Set_If
    have s1 := sa_Skip_If
    have s2 := sa_Stop_If
    have s3 := sa_Mark_If
    have s4 := sa_Choose_If
    have s5 := sa_Loop_If
    have s6 := sa_If_If
    go_enter Tryz.func83, Tryz.ntmps83
    go_wp2_with fail
    go_ret
    exact ⟨rfl, (Fr.refl No w).alloc _⟩
  | whil p l r eq b =>
    simp only [SmIs] at h
    obtain ⟨y, z, a, n, c, vs, hy, hz, _, _, rfl⟩ := h
    obtain ⟨ty, xy, rfl⟩ := hy.form
    obtain ⟨tz, xz, rfl⟩ := hz.form
    have s0 := sa_Set_While
    have s1 := sa_Skip_While
    have s2 := sa_Stop_While
    have s3 := sa_Mark_While
    have s4 := sa_Choose_While
    have s5 := sa_Loop_While
    have s6 := sa_If_While
    go_enter Tryz.func83, Tryz.ntmps83
    go_wp2_with fail
    go_ret
    exact ⟨rfl, Fr.refl _ _⟩

/-- a statement's line -/
def hdS : Sm → List UInt8
  | .set _ _ x none => x ++ [32, 58, 61, 32, 97, 110, 121]
  | .set _ _ x (some e) => x ++ [32, 58, 61, 32] ++ wrS e
  | .skip _ => skip_
  | .stop _ => stop_
  | .mark _ x => [109, 97, 114, 107, 32] ++ x
  | .choose _ _ => choose_
  | .loop _ _ => loop_
  | .iff _ l r eq _ _ => [105, 102, 32] ++ cdS l r eq
  | .whil _ l r eq _ => [119, 104, 105, 108, 101, 32] ++ cdS l r eq
/-- a statement whose expressions the parser reads (without its blocks) -/
def Sm.ok1 : Sm → Prop
  | .set _ _ _ (some e) => e.ok
  | .iff _ l r _ _ _ => l.ok ∧ r.ok
  | .whil _ l r _ _ => l.ok ∧ r.ok
  | _ => True
set_option maxRecDepth 100000 in
set_option maxHeartbeats 4000000 in
theorem head_calls {s : Sm} {v : Value} {B : Nat} {w : World} (h : SmIs w B s v) (hok : s.ok1) (hl : (hdS s).length ≤ 1000000000) : Calls Tryz.prog 84 #[v] w fun e w' => e = .returned (.string ⟨(hdS s).toArray⟩) ∧ Fr No w w' := by
  have hk := kind_calls h
  cases s with
  | set p k x e =>
    cases e with
    | none =>
      simp only [kdS] at hk
      simp only [SmIs] at h
      subst h
      simp only [hdS, List.length_append] at hl ⊢
      have hx : x.length ≤ 1000000000 := by omega
      have HK := Lib.hid hk
      clear hk hl
      have s1 := sh_Set
      have s2 := sf_Set
      go_enter Tryz.func84, Tryz.ntmps84
      go_wp2_with fail
      refine HK.out.mono ?_
      rintro e w1 ⟨rfl, hf1⟩
      go_wp2_with fail
      go_ret
      exact ⟨congrArg (fun x => Ending.returned (.string x)) (by simp [ByteArray.mk_append_mk]), hf1⟩
    | some n =>
      simp only [kdS] at hk
      simp only [SmIs] at h
      obtain ⟨y, hy, rfl⟩ := h
      simp only [hdS, List.length_append] at hl ⊢
      have hW := fun (W : World) (f : Fr No w W) => Write_calls hok (hy.keep f (fun _ _ x => x)) (by omega)
      obtain ⟨ty, xy, rfl⟩ := hy.form
      obtain ⟨D, hD⟩ : ∃ D, wrS n = D := ⟨_, rfl⟩
      rw [hD] at hW hl ⊢
      have hx : x.length ≤ 1000000000 := by omega
      have hDl : D.length ≤ 1000000000 := by omega
      have HK := Lib.hid hk
      have HW := Lib.hid hW
      clear hk hW hy hD hl
      have s1 := sh_Set
      go_enter Tryz.func84, Tryz.ntmps84
      go_wp2_with fail
      refine HK.out.mono ?_
      rintro e w1 ⟨rfl, hf1⟩
      go_wp2_with fail
      have hal := (hf1.alloc (.cells #[.int .i64 p.b, .int .i64 p.g, .int .i64 p.l, .int .i64 p.c, .int .i64 k, .string ⟨x.toArray⟩, .iface ty (.agg xy)] 220 (0, 0))).drew
      have hN := (Blk.new w1 (.cells #[.int .i64 p.b, .int .i64 p.g, .int .i64 p.l, .int .i64 p.c, .int .i64 k, .string ⟨x.toArray⟩, .iface ty (.agg xy)] 220 (0, 0))).drew
      obtain ⟨W1, hW1⟩ : ∃ W1, w1.alloc (.cells #[.int .i64 p.b, .int .i64 p.g, .int .i64 p.l, .int .i64 p.c, .int .i64 k, .string ⟨x.toArray⟩, .iface ty (.agg xy)] 220 (0, 0)) = W1 := ⟨_, rfl⟩
      obtain ⟨N, hNe⟩ : ∃ N, w1.heap.size = N := ⟨_, rfl⟩
      rw [hW1] at hal hN ⊢
      rw [hNe] at hN ⊢
      have HX := Lib.hid (And.intro hW1 hNe)
      clear hW1 hNe
      have R1 : ∀ i, W1.drew.cell? ⟨N, i, none⟩ = (#[.int .i64 p.b, .int .i64 p.g, .int .i64 p.l, .int .i64 p.c, .int .i64 k, .string ⟨x.toArray⟩, .iface ty (.agg xy)] : Array Value)[i]? := Blk.all hN
      first | (go_region_with ((go_at_call 25; ((with_reducible refine (HW.out _ hal).mono ?_); rintro e w2 ⟨rfl, hf2⟩; have hM2 : ∀ i, w2.cell? ⟨N, i, none⟩ = (#[.int .i64 p.b, .int .i64 p.g, .int .i64 p.l, .int .i64 p.c, .int .i64 k, .string ⟨x.toArray⟩, .iface ty (.agg xy)] : Array Value)[i]? := Blk.all (hN.fr hf2 (fun x => x)))))) | fail
      all_goals go_wp2_with fail
      all_goals go_ret
      all_goals exact ⟨congrArg (fun x => Ending.returned (.string x)) (by simp [ByteArray.mk_append_mk]), hal.callNo hf2⟩
  | skip p =>
    simp only [kdS] at hk
    simp only [SmIs] at h
    subst h
    have HK := Lib.hid hk
    clear hk
    simp only [hdS] at hl ⊢
    go_enter Tryz.func84, Tryz.ntmps84
    go_wp2_with fail
    refine HK.out.mono ?_
    rintro e w1 ⟨rfl, hf1⟩
    go_wp2_with fail
    go_ret
    exact ⟨rfl, hf1⟩
  | stop p =>
    simp only [kdS] at hk
    simp only [SmIs] at h
    subst h
    have HK := Lib.hid hk
    clear hk
    simp only [hdS] at hl ⊢
    go_enter Tryz.func84, Tryz.ntmps84
    go_wp2_with fail
    refine HK.out.mono ?_
    rintro e w1 ⟨rfl, hf1⟩
    go_wp2_with fail
    go_ret
    exact ⟨rfl, hf1⟩
  | mark p x =>
    simp only [kdS] at hk
    simp only [SmIs] at h
    subst h
    simp only [hdS, List.length_append] at hl ⊢
    have hx : x.length ≤ 1000000000 := by omega
    have HK := Lib.hid hk
    clear hk hl
    have s1 := sh_Mark
    have s2 := sf_Mark
    go_enter Tryz.func84, Tryz.ntmps84
    go_wp2_with fail
    refine HK.out.mono ?_
    rintro e w1 ⟨rfl, hf1⟩
    go_wp2_with fail
    go_ret
    exact ⟨congrArg (fun x => Ending.returned (.string x)) (by simp [ByteArray.mk_append_mk]), hf1⟩
  | choose p b =>
    simp only [kdS] at hk
    simp only [SmIs] at h
    obtain ⟨a, n, c, vs, _, _, rfl⟩ := h
    have HK := Lib.hid hk
    clear hk
    simp only [hdS] at hl ⊢
    go_enter Tryz.func84, Tryz.ntmps84
    go_wp2_with fail
    refine HK.out.mono ?_
    rintro e w1 ⟨rfl, hf1⟩
    go_wp2_with fail
    go_ret
    exact ⟨rfl, hf1⟩
  | loop p b =>
    simp only [kdS] at hk
    simp only [SmIs] at h
    obtain ⟨a, n, c, vs, _, _, rfl⟩ := h
    have HK := Lib.hid hk
    clear hk
    simp only [hdS] at hl ⊢
    go_enter Tryz.func84, Tryz.ntmps84
    go_wp2_with fail
    refine HK.out.mono ?_
    rintro e w1 ⟨rfl, hf1⟩
    go_wp2_with fail
    go_ret
    exact ⟨rfl, hf1⟩
  | iff p l r eq t e =>
    simp only [kdS] at hk
    simp only [SmIs] at h
    obtain ⟨y, z, a, n, c, vs, ev, hy, hz, _, _, he, rfl⟩ := h
    simp only [hdS, List.length_append] at hl ⊢
    have hC := fun (W : World) (f : Fr No w W) => condition_calls (eq := eq) hok.1 hok.2 (hy.keep f (fun _ _ x => x)) (hz.keep f (fun _ _ x => x)) (by omega)
    obtain ⟨ty, xy, rfl⟩ := hy.form
    obtain ⟨tz, xz, rfl⟩ := hz.form
    obtain ⟨pe, rfl⟩ := he.form
    obtain ⟨D, hD⟩ : ∃ D, cdS l r eq = D := ⟨_, rfl⟩
    rw [hD] at hC hl ⊢
    have hDl : D.length ≤ 1000000000 := by omega
    have HK := Lib.hid hk
    have HC := Lib.hid hC
    clear hk hC hy hz hD hl
    have s1 := sh_If
    have s2 := sf_If
    go_enter Tryz.func84, Tryz.ntmps84
    go_wp2_with fail
    refine HK.out.mono ?_
    rintro e w1 ⟨rfl, hf1⟩
    go_wp2_with fail
    refine (HC.out _ hf1).mono ?_
    rintro e w2 ⟨rfl, hf2⟩
    go_wp2_with fail
    go_ret
    exact ⟨congrArg (fun x => Ending.returned (.string x)) (by simp [ByteArray.mk_append_mk]), hf1.callNo hf2⟩
  | whil p l r eq b =>
    simp only [kdS] at hk
    simp only [SmIs] at h
    obtain ⟨y, z, a, n, c, vs, hy, hz, _, _, rfl⟩ := h
    simp only [hdS, List.length_append] at hl ⊢
    have hC := fun (W : World) (f : Fr No w W) => condition_calls (eq := eq) hok.1 hok.2 (hy.keep f (fun _ _ x => x)) (hz.keep f (fun _ _ x => x)) (by omega)
    obtain ⟨ty, xy, rfl⟩ := hy.form
    obtain ⟨tz, xz, rfl⟩ := hz.form
    obtain ⟨D, hD⟩ : ∃ D, cdS l r eq = D := ⟨_, rfl⟩
    rw [hD] at hC hl ⊢
    have hDl : D.length ≤ 1000000000 := by omega
    have HK := Lib.hid hk
    have HC := Lib.hid hC
    clear hk hC hy hz hD hl
    have s1 := sh_While
    have s2 := sf_While
    go_enter Tryz.func84, Tryz.ntmps84
    go_wp2_with fail
    refine HK.out.mono ?_
    rintro e w1 ⟨rfl, hf1⟩
    go_wp2_with fail
    refine (HC.out _ hf1).mono ?_
    rintro e w2 ⟨rfl, hf2⟩
    go_wp2_with fail
    go_ret
    exact ⟨congrArg (fun x => Ending.returned (.string x)) (by simp [ByteArray.mk_append_mk]), hf1.callNo hf2⟩

end Go.Proofs.YtlklijpjacmgpaaGreatDoor

namespace Go.Proofs.YtlklijpjacmgpaaGreatDoor
open Go.RowKit
set_option linter.unusedVariables false
set_option linter.unusedSimpArgs false
attribute [local go_sem ↓] Go.wp_at_zero Go.wp_at_succ

/-- blocks of other kinds than statements and numbers -/
def Other (S : Nat → Prop) (B : Nat) (w : World) : Prop := ∀ k, B ≤ k → k < w.heap.size → S k → ∃ cs t fz, Blk w k (.cells cs t fz) ∧ t ≠ 57 ∧ t ≠ 141 ∧ t ≠ 165
theorem own_other {S : Nat → Prop} {w w' : World} {B : Nat} {e : TypeId} {size : Nat} {v : Value} {n : Nat} {xs : List Value} (h : w.ownsRow B e size v n xs) (f : Fr S w w') (hS : Other S B w) (he : e = 57 ∨ e = 141 ∨ e = 165) : w'.ownsRow B e size v n xs :=
  own_fr h f (fun k hk e' => by
    obtain ⟨cs, t, fz, hb, h1, h2, h3⟩ := hS k (h.lt k hk).1 (h.lt k hk).2 e'
    refine own_ne h hb ?_ hk
    rcases he with rfl | rfl | rfl <;> assumption)
theorem NdIs.other {S : Nat → Prop} {B : Nat} {w w' : World} (f : Fr S w w') (hS : Other S B w) : ∀ {n : Nd} {v : Value}, NdIs w B n v → NdIs w' B n v
  | .num n, v, ⟨a, c, h1, h2⟩ => ⟨a, c, h1, own_other h2 f hS (Or.inl rfl)⟩
  | .name i x, v, h => h
  | .minus a, v, ⟨y, h1, h2⟩ => ⟨y, NdIs.other f hS h1, h2⟩
  | .two op l r, v, ⟨y, z, h1, h2, h3⟩ => ⟨y, z, NdIs.other f hS h1, NdIs.other f hS h2, h3⟩
mutual
theorem SmIs.other {S : Nat → Prop} {B : Nat} {w w' : World} (f : Fr S w w') (hS : Other S B w) : ∀ (s : Sm) (v : Value), SmIs w B s v → SmIs w' B s v
  | .set p k x none, v, h => by simp only [SmIs] at h ⊢; exact h
  | .set p k x (some n), v, h => by
    simp only [SmIs] at h ⊢
    obtain ⟨y, h1, h2⟩ := h
    exact ⟨y, h1.other f hS, h2⟩
  | .skip p, v, h => by simp only [SmIs] at h ⊢; exact h
  | .stop p, v, h => by simp only [SmIs] at h ⊢; exact h
  | .mark p x, v, h => by simp only [SmIs] at h ⊢; exact h
  | .choose p bs, v, h => by
    simp only [SmIs] at h ⊢
    obtain ⟨a, n, c, vs, h1, h2, h3⟩ := h
    exact ⟨a, n, c, vs, own_other h1 f hS (Or.inr (Or.inr rfl)), BlsAre.other f hS bs vs h2, h3⟩
  | .loop p b, v, h => by
    simp only [SmIs] at h ⊢
    obtain ⟨a, n, c, vs, h1, h2, h3⟩ := h
    exact ⟨a, n, c, vs, own_other h1 f hS (Or.inr (Or.inl rfl)), SmsAre.other f hS b vs h2, h3⟩
  | .iff p l r eq t e, v, h => by
    simp only [SmIs] at h ⊢
    obtain ⟨y, z, a, n, c, vs, ev, h1, h2, h3, h4, h5, h6⟩ := h
    exact ⟨y, z, a, n, c, vs, ev, h1.other f hS, h2.other f hS, own_other h3 f hS (Or.inr (Or.inl rfl)), SmsAre.other f hS t vs h4, ElsIs.other f hS e ev h5, h6⟩
  | .whil p l r eq b, v, h => by
    simp only [SmIs] at h ⊢
    obtain ⟨y, z, a, n, c, vs, h1, h2, h3, h4, h6⟩ := h
    exact ⟨y, z, a, n, c, vs, h1.other f hS, h2.other f hS, own_other h3 f hS (Or.inr (Or.inl rfl)), SmsAre.other f hS b vs h4, h6⟩
theorem SmsAre.other {S : Nat → Prop} {B : Nat} {w w' : World} (f : Fr S w w') (hS : Other S B w) : ∀ (l : Sms) (vs : List Value), SmsAre w B l vs → SmsAre w' B l vs
  | .nil, vs, h => by simp only [SmsAre] at h ⊢; exact h
  | .cons s r, vs, h => by
    simp only [SmsAre] at h ⊢
    obtain ⟨v, us, h1, h2, h3⟩ := h
    exact ⟨v, us, h1, SmIs.other f hS s v h2, SmsAre.other f hS r us h3⟩
theorem BlsAre.other {S : Nat → Prop} {B : Nat} {w w' : World} (f : Fr S w w') (hS : Other S B w) : ∀ (l : Bls) (vs : List Value), BlsAre w B l vs → BlsAre w' B l vs
  | .nil, vs, h => by simp only [BlsAre] at h ⊢; exact h
  | .cons p b r, vs, h => by
    simp only [BlsAre] at h ⊢
    obtain ⟨a, n, c, bs, us, h1, h2, h3, h4⟩ := h
    exact ⟨a, n, c, bs, us, h1, own_other h2 f hS (Or.inr (Or.inl rfl)), SmsAre.other f hS b bs h3, BlsAre.other f hS r us h4⟩
theorem ElsIs.other {S : Nat → Prop} {B : Nat} {w w' : World} (f : Fr S w w') (hS : Other S B w) : ∀ (l : Els) (v : Value), ElsIs w B l v → ElsIs w' B l v
  | .none, v, h => by simp only [ElsIs] at h ⊢; exact h
  | .some p b, v, h => by
    simp only [ElsIs] at h ⊢
    obtain ⟨g, a, n, c, vs, h1, h2, h3, h4, h5⟩ := h
    refine ⟨g, a, n, c, vs, h1, h2, h3.fr f (fun e => ?_), own_other h4 f hS (Or.inr (Or.inl rfl)), SmsAre.other f hS b vs h5⟩
    obtain ⟨cs, t, fz, hb, _, _, q⟩ := hS g h2 h3.lt e
    have h' : w.heap[g]? = _ := hb
    have h3' : w.heap[g]? = _ := h3
    rw [h3'] at h'
    simp only [Option.some.injEq, Obj.cells.injEq] at h'
    exact q h'.2.1.symm
end
theorem other_sb {B B' b : Nat} {p : Value} {bs : List Value} {w : World} (hb : SB B' b p bs w) : Other (SbB B' b w) B w := by
  intro k _ _ e
  rcases e.1 with e | ⟨cs, f, e⟩
  · subst e
    obtain ⟨v, hv⟩ := hb.blk
    exact ⟨_, _, _, hv, by decide, by decide, by decide⟩
  · exact ⟨_, _, _, e, by decide, by decide, by decide⟩

/-- a statement's blocks -/
def Bls.toL : Bls → List Sms
  | .nil => []
  | .cons _ b r => b :: r.toL
def blksOf : Sm → List Sms
  | .choose _ b => b.toL
  | .loop _ b => [b]
  | .whil _ _ _ _ b => [b]
  | .iff _ _ _ _ t .none => [t]
  | .iff _ _ _ _ t (.some _ e) => [t, e]
  | _ => []
def wordOf : Sm → List UInt8
  | .choose _ _ => or_
  | .iff _ _ _ _ _ (.some _ _) => else_
  | _ => []
def RowsAre (w : World) (B : Nat) : List Sms → List Value → Prop
  | [], vs => vs = []
  | b :: r, vs => ∃ a n c bs us, vs = .slice a n c :: us ∧ w.ownsRow B 141 1 (.slice a n c) n bs ∧ SmsAre w B b bs ∧ RowsAre w B r us
theorem RowsAre.other {S : Nat → Prop} {B : Nat} {w w' : World} (f : Fr S w w') (hS : Other S B w) : ∀ (l : List Sms) (vs : List Value), RowsAre w B l vs → RowsAre w' B l vs
  | [], vs, h => h
  | b :: r, vs, ⟨a, n, c, bs, us, h1, h2, h3, h4⟩ => ⟨a, n, c, bs, us, h1, own_other h2 f hS (Or.inr (Or.inl rfl)), SmsAre.other f hS _ _ h3, RowsAre.other f hS r us h4⟩
theorem other_no (B : Nat) (w : World) : Other No B w := fun _ _ _ e => e.elim
theorem RowsAre.snoc {w : World} {B : Nat} {b : Sms} {a : Option Addr} {n c : Nat} {bs : List Value} (ho : w.ownsRow B 141 1 (.slice a n c) n bs) (hs : SmsAre w B b bs) : ∀ (l : List Sms) (vs : List Value), RowsAre w B l vs → RowsAre w B (l ++ [b]) (vs ++ [.slice a n c])
  | [], vs, h => by
    simp only [RowsAre] at h
    subst h
    exact ⟨a, n, c, bs, [], rfl, ho, hs, rfl⟩
  | x :: r, vs, ⟨a', n', c', bs', us, h1, h2, h3, h4⟩ => ⟨a', n', c', bs', us ++ [.slice a n c], by rw [h1]; rfl, h2, h3, RowsAre.snoc ho hs r us h4⟩
theorem RowsAre.get {w : World} {B : Nat} : ∀ (l : List Sms) (vs : List Value) (i : Nat) (b : Sms), RowsAre w B l vs → l[i]? = some b → ∃ a n c bs, vs[i]? = some (.slice a n c) ∧ w.ownsRow B 141 1 (.slice a n c) n bs ∧ SmsAre w B b bs
  | [], vs, i, b, h, hi => by simp at hi
  | x :: r, vs, 0, b, ⟨a, n, c, bs, us, h1, h2, h3, h4⟩, hi => by
    simp only [List.getElem?_cons_zero, Option.some.injEq] at hi
    subst hi
    exact ⟨a, n, c, bs, by rw [h1]; rfl, h2, h3⟩
  | x :: r, vs, i + 1, b, ⟨a, n, c, bs, us, h1, h2, h3, h4⟩, hi => by
    obtain ⟨a', n', c', bs', q1, q2, q3⟩ := RowsAre.get r us i b h4 (by simpa using hi)
    exact ⟨a', n', c', bs', by rw [h1]; simpa using q1, q2, q3⟩
theorem RowsAre.len {w : World} {B : Nat} : ∀ (l : List Sms) (vs : List Value), RowsAre w B l vs → vs.length = l.length
  | [], vs, h => by simp only [RowsAre] at h; subst h; rfl
  | x :: r, vs, ⟨a, n, c, bs, us, h1, h2, h3, h4⟩ => by rw [h1]; simp [RowsAre.len r us h4]
theorem BlsAre.get {w : World} {B : Nat} : ∀ (l : Bls) (vs : List Value) (i : Nat) (b : Sms), BlsAre w B l vs → l.toL[i]? = some b → ∃ (p : Pl) (a : Option Addr) (n c : Nat) (bs : List Value), vs[i * 5]? = some (.int .i64 p.b) ∧ vs[i * 5 + 1]? = some (.int .i64 p.g) ∧ vs[i * 5 + 2]? = some (.int .i64 p.l) ∧ vs[i * 5 + 3]? = some (.int .i64 p.c) ∧ vs[i * 5 + 4]? = some (.slice a n c) ∧ w.ownsRow B 141 1 (.slice a n c) n bs ∧ SmsAre w B b bs
  | .nil, vs, i, b, h, hi => by simp [Bls.toL] at hi
  | .cons p x r, vs, 0, b, h, hi => by
    simp only [BlsAre] at h
    obtain ⟨a, n, c, bs, us, h1, h2, h3, h4⟩ := h
    simp only [Bls.toL, List.getElem?_cons_zero, Option.some.injEq] at hi
    subst hi
    exact ⟨p, a, n, c, bs, by rw [h1]; rfl, by rw [h1]; rfl, by rw [h1]; rfl, by rw [h1]; rfl, by rw [h1]; rfl, h2, h3⟩
  | .cons p x r, vs, i + 1, b, h, hi => by
    simp only [BlsAre] at h
    obtain ⟨a, n, c, bs, us, h1, h2, h3, h4⟩ := h
    obtain ⟨p', a', n', c', bs', q0, q1, q2, q3, q4, q5, q6⟩ := BlsAre.get r us i b h4 (by simpa [Bls.toL] using hi)
    have e : ∀ k, (([.int .i64 p.b, .int .i64 p.g, .int .i64 p.l, .int .i64 p.c, .slice a n c] : List Value) ++ us)[(i + 1) * 5 + k]? = us[i * 5 + k]? := by
      intro k
      rw [List.getElem?_append_right (by simp; omega)]
      congr 1
      simp
      omega
    have e0 := e 0
    simp only [Nat.add_zero] at e0
    exact ⟨p', a', n', c', bs', by rw [h1, e0]; exact q0, by rw [h1, e]; exact q1, by rw [h1, e]; exact q2, by rw [h1, e]; exact q3, by rw [h1, e]; exact q4, q5, q6⟩
theorem BlsAre.len {w : World} {B : Nat} : ∀ (l : Bls) (vs : List Value), BlsAre w B l vs → vs.length = l.toL.length * 5
  | .nil, vs, h => by simp only [BlsAre] at h; subst h; rfl
  | .cons p x r, vs, h => by
    simp only [BlsAre] at h
    obtain ⟨a, n, c, bs, us, h1, h2, h3, h4⟩ := h
    rw [h1]
    simp [Bls.toL, BlsAre.len r us h4]
    omega
end Go.Proofs.YtlklijpjacmgpaaGreatDoor
