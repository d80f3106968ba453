/- Printing: Write, condition, kind, head. -/
import Derived.Test.YtjmjdmmojgmcdaaDoorLX
namespace Go.Proofs.YtjmjdmmojgmcdaaDoor
open Go.RowKit
set_option linter.unusedVariables false
set_option linter.unusedSimpArgs false
attribute [local go_sem ↓] Go.wp_at_zero Go.wp_at_succ

theorem below_fr {B : Nat} {w w' : World} (h : Below B w w') : Fr (fun k => B ≤ k) w w' := ⟨h.os, h.tape, h.output, h.size, fun k hk hn => h.block k (by omega)⟩
theorem sb_new (w : World) : SB w.heap.size w.heap.size (.pointer none) [] (w.alloc (.cells #[.pointer none, .slice none 0 0] 73 (0, 0))) :=
  ⟨Nat.le_refl _, .slice none 0 0, Blk.new w _, World.ownsRow_nil _ _ _ _, by simp [Value.ownBlock]⟩
set_option maxRecDepth 100000 in
set_option maxHeartbeats 1000000 in
theorem Write_calls {n : Nd} {v : Value} {B0 : Nat} {w : World} (hok : n.ok) (hn : NdIs w B0 n v) (hl : (wrS n).length ≤ 1000000000) :
    Calls Tryd.prog 82 #[v] w fun e w' => e = .returned (.string ⟨(wrS n).toArray⟩) ∧ Fr No w w' := by
  have hal := (Fr.refl No w).alloc (.cells #[.pointer none, .slice none 0 0] 73 (0, 0))
  have hw := wr_all n.sz n v B0 w.heap.size w.heap.size (.pointer none) [] _ (Nat.le_refl _) hok (hn.keep hal (fun _ _ x => x)) (sb_new w) (Or.inl rfl) (by simpa using hl) (by rw [alloc_size]; omega)
  have HW := Lib.hid hw
  clear hw hn
  go_enter Tryd.func82, Tryd.ntmps82
  go_wp2_with fail
  refine HW.out.mono ?_
  rintro e w1 ⟨rfl, hb1, hf1⟩
  have hf2 : Fr No w w1 := hal.call hf1 (fun k hk e => absurd e.2 (by omega))
  rw [List.nil_append] at hb1
  go_wp2_with fail
  refine (Tryd.Builder_String_any w.heap.size w.heap.size (wrS n) w1 (Or.inr hb1) hf2.size).mono ?_
  rintro e w2 ⟨rfl, hb2⟩
  have hf3 : Fr No w w2 := hf2.call (below_fr hb2) (fun k hk e => by omega)
  go_wp2_with fail
  go_ret
  exact ⟨rfl, hf3⟩
/-- a condition as it is written -/
def cdS (l r : Nd) (eq : Bool) : List UInt8 := wrS l ++ (if eq then [32, 61, 32] else [32, 33, 61, 32]) ++ wrS r
set_option maxRecDepth 100000 in
set_option maxHeartbeats 2000000 in
theorem condition_calls {l r : Nd} {y z : Value} {eq : Bool} {B0 : Nat} {w : World} (hokl : l.ok) (hokr : r.ok) (hy : NdIs w B0 l y) (hz : NdIs w B0 r z) (hl : (cdS l r eq).length ≤ 1000000000) :
    Calls Tryd.prog 83 #[.agg #[y, z, .bool eq]] w fun e w' => e = .returned (.string ⟨(cdS l r eq).toArray⟩) ∧ Fr No w w' := by
  obtain ⟨ty, xy, rfl⟩ := hy.form
  obtain ⟨tz, xz, rfl⟩ := hz.form
  unfold cdS at hl ⊢
  simp only [List.length_append] at hl
  have hWl := fun (W : World) (f : Fr No w W) => Write_calls hokl (hy.keep f (fun _ _ x => x)) (by omega)
  have hWr := fun (W : World) (f : Fr No w W) => Write_calls hokr (hz.keep f (fun _ _ x => x)) (by omega)
  obtain ⟨L, hL⟩ : ∃ L, wrS l = L := ⟨_, rfl⟩
  obtain ⟨R, hR⟩ : ∃ R, wrS r = R := ⟨_, rfl⟩
  rw [hL] at hWl hl ⊢
  rw [hR] at hWr hl ⊢
  have hLl : L.length ≤ 1000000000 := by omega
  have hRl : R.length ≤ 1000000000 := by omega
  have HW := Lib.hid (And.intro hWl hWr)
  clear hWl hWr hL hR hl hy hz
  have hal := (Fr.refl No w).alloc (.cells #[.iface ty (.agg xy), .iface tz (.agg xz), .bool eq] 136 (0, 0))
  have hN := Blk.new w (.cells #[.iface ty (.agg xy), .iface tz (.agg xz), .bool eq] 136 (0, 0))
  have hald := hal.drew
  have hNd : ∀ i, (w.alloc (.cells #[.iface ty (.agg xy), .iface tz (.agg xz), .bool eq] 136 (0, 0))).drew.cell? ⟨w.heap.size, i, none⟩ = (#[.iface ty (.agg xy), .iface tz (.agg xz), .bool eq] : Array Value)[i]? := Blk.all hN.drew
  cases eq with
  | true =>
    go_enter Tryd.func83, Tryd.ntmps83
    go_wp2_with fail
    obtain ⟨W1, hW1⟩ : ∃ W1, w.alloc (.cells #[.iface ty (.agg xy), .iface tz (.agg xz), .bool true] 136 (0, 0)) = W1 := ⟨_, rfl⟩
    obtain ⟨N, hNe⟩ : ∃ N, w.heap.size = N := ⟨_, rfl⟩
    rw [hW1] at hal hN hald hNd ⊢
    rw [hNe] at hN hNd ⊢
    have HX := Lib.hid (And.intro hW1 hNe)
    clear hW1 hNe
    first | (go_region_with (first | (go_at_call 82; ((with_reducible refine (HW.out.1 _ hald).mono ?_); rintro e w2 ⟨rfl, hf2⟩; have hM2 : ∀ i, w2.cell? ⟨N, i, none⟩ = (#[.iface ty (.agg xy), .iface tz (.agg xz), .bool true] : Array Value)[i]? := Blk.all (hN.drew.fr hf2 (fun x => x)); have hf12 := hald.callNo hf2)) | (go_at_call 82; ((with_reducible refine (HW.out.2 _ hf12).mono ?_); rintro e w3 ⟨rfl, hf3⟩; have hM3 : ∀ i, w3.cell? ⟨N, i, none⟩ = (#[.iface ty (.agg xy), .iface tz (.agg xz), .bool true] : Array Value)[i]? := Blk.all ((hN.drew.fr hf2 (fun x => x)).fr hf3 (fun x => x)))))) | fail
    all_goals go_wp2_with fail
    all_goals go_ret
    all_goals exact ⟨congrArg (fun x => Ending.returned (.string x)) (by simp [ByteArray.mk_append_mk]), hf12.callNo hf3⟩
  | false =>
    go_enter Tryd.func83, Tryd.ntmps83
    go_wp2_with fail
    obtain ⟨W1, hW1⟩ : ∃ W1, w.alloc (.cells #[.iface ty (.agg xy), .iface tz (.agg xz), .bool false] 136 (0, 0)) = W1 := ⟨_, rfl⟩
    obtain ⟨N, hNe⟩ : ∃ N, w.heap.size = N := ⟨_, rfl⟩
    rw [hW1] at hal hN hald hNd ⊢
    rw [hNe] at hN hNd ⊢
    have HX := Lib.hid (And.intro hW1 hNe)
    clear hW1 hNe
    first | (go_region_with (first | (go_at_call 82; ((with_reducible refine (HW.out.1 _ hald).mono ?_); rintro e w2 ⟨rfl, hf2⟩; have hM2 : ∀ i, w2.cell? ⟨N, i, none⟩ = (#[.iface ty (.agg xy), .iface tz (.agg xz), .bool false] : Array Value)[i]? := Blk.all (hN.drew.fr hf2 (fun x => x)); have hf12 := hald.callNo hf2)) | (go_at_call 82; ((with_reducible refine (HW.out.2 _ hf12).mono ?_); rintro e w3 ⟨rfl, hf3⟩; have hM3 : ∀ i, w3.cell? ⟨N, i, none⟩ = (#[.iface ty (.agg xy), .iface tz (.agg xz), .bool false] : Array Value)[i]? := Blk.all ((hN.drew.fr hf2 (fun x => x)).fr hf3 (fun x => x)))))) | fail
    all_goals go_wp2_with fail
    all_goals go_ret
    all_goals exact ⟨congrArg (fun x => Ending.returned (.string x)) (by simp [ByteArray.mk_append_mk]), hf12.callNo hf3⟩
theorem sa_Set_Set (x : Array Value) (w : World) : (Instr.typeAssert (.iface 154 (.agg x)) 105 154 true).run Tryd.prog w = .ok (.tuple #[.agg x, .bool true]) w := by kernel_rfl
theorem sa_Set_Skip (x : Array Value) (w : World) : (Instr.typeAssert (.iface 147 (.agg x)) 105 154 true).run Tryd.prog w = .ok (.tuple #[.agg #[.int .i64 0, .int .i64 0, .int .i64 0, .int .i64 0, .int .i64 0, .string ⟨#[]⟩, .nilIface], .bool false]) w := by kernel_rfl
theorem sa_Skip_Skip (x : Array Value) (w : World) : (Instr.typeAssert (.iface 147 (.agg x)) 105 147 true).run Tryd.prog w = .ok (.tuple #[.agg x, .bool true]) w := by kernel_rfl
theorem sa_Set_Stop (x : Array Value) (w : World) : (Instr.typeAssert (.iface 148 (.agg x)) 105 154 true).run Tryd.prog w = .ok (.tuple #[.agg #[.int .i64 0, .int .i64 0, .int .i64 0, .int .i64 0, .int .i64 0, .string ⟨#[]⟩, .nilIface], .bool false]) w := by kernel_rfl
theorem sa_Skip_Stop (x : Array Value) (w : World) : (Instr.typeAssert (.iface 148 (.agg x)) 105 147 true).run Tryd.prog w = .ok (.tuple #[.agg #[.int .i64 0, .int .i64 0, .int .i64 0, .int .i64 0], .bool false]) w := by kernel_rfl
theorem sa_Stop_Stop (x : Array Value) (w : World) : (Instr.typeAssert (.iface 148 (.agg x)) 105 148 true).run Tryd.prog w = .ok (.tuple #[.agg x, .bool true]) w := by kernel_rfl
theorem sa_Set_Mark (x : Array Value) (w : World) : (Instr.typeAssert (.iface 157 (.agg x)) 105 154 true).run Tryd.prog w = .ok (.tuple #[.agg #[.int .i64 0, .int .i64 0, .int .i64 0, .int .i64 0, .int .i64 0, .string ⟨#[]⟩, .nilIface], .bool false]) w := by kernel_rfl
theorem sa_Skip_Mark (x : Array Value) (w : World) : (Instr.typeAssert (.iface 157 (.agg x)) 105 147 true).run Tryd.prog w = .ok (.tuple #[.agg #[.int .i64 0, .int .i64 0, .int .i64 0, .int .i64 0], .bool false]) w := by kernel_rfl
theorem sa_Stop_Mark (x : Array Value) (w : World) : (Instr.typeAssert (.iface 157 (.agg x)) 105 148 true).run Tryd.prog w = .ok (.tuple #[.agg #[.int .i64 0, .int .i64 0, .int .i64 0, .int .i64 0], .bool false]) w := by kernel_rfl
theorem sa_Mark_Mark (x : Array Value) (w : World) : (Instr.typeAssert (.iface 157 (.agg x)) 105 157 true).run Tryd.prog w = .ok (.tuple #[.agg x, .bool true]) w := by kernel_rfl
theorem sa_Set_Choose (x : Array Value) (w : World) : (Instr.typeAssert (.iface 129 (.agg x)) 105 154 true).run Tryd.prog w = .ok (.tuple #[.agg #[.int .i64 0, .int .i64 0, .int .i64 0, .int .i64 0, .int .i64 0, .string ⟨#[]⟩, .nilIface], .bool false]) w := by kernel_rfl
theorem sa_Skip_Choose (x : Array Value) (w : World) : (Instr.typeAssert (.iface 129 (.agg x)) 105 147 true).run Tryd.prog w = .ok (.tuple #[.agg #[.int .i64 0, .int .i64 0, .int .i64 0, .int .i64 0], .bool false]) w := by kernel_rfl
theorem sa_Stop_Choose (x : Array Value) (w : World) : (Instr.typeAssert (.iface 129 (.agg x)) 105 148 true).run Tryd.prog w = .ok (.tuple #[.agg #[.int .i64 0, .int .i64 0, .int .i64 0, .int .i64 0], .bool false]) w := by kernel_rfl
theorem sa_Mark_Choose (x : Array Value) (w : World) : (Instr.typeAssert (.iface 129 (.agg x)) 105 157 true).run Tryd.prog w = .ok (.tuple #[.agg #[.int .i64 0, .int .i64 0, .int .i64 0, .int .i64 0, .string ⟨#[]⟩], .bool false]) w := by kernel_rfl
theorem sa_Choose_Choose (x : Array Value) (w : World) : (Instr.typeAssert (.iface 129 (.agg x)) 105 129 true).run Tryd.prog w = .ok (.tuple #[.agg x, .bool true]) w := by kernel_rfl
theorem sa_Set_Loop (x : Array Value) (w : World) : (Instr.typeAssert (.iface 132 (.agg x)) 105 154 true).run Tryd.prog w = .ok (.tuple #[.agg #[.int .i64 0, .int .i64 0, .int .i64 0, .int .i64 0, .int .i64 0, .string ⟨#[]⟩, .nilIface], .bool false]) w := by kernel_rfl
theorem sa_Skip_Loop (x : Array Value) (w : World) : (Instr.typeAssert (.iface 132 (.agg x)) 105 147 true).run Tryd.prog w = .ok (.tuple #[.agg #[.int .i64 0, .int .i64 0, .int .i64 0, .int .i64 0], .bool false]) w := by kernel_rfl
theorem sa_Stop_Loop (x : Array Value) (w : World) : (Instr.typeAssert (.iface 132 (.agg x)) 105 148 true).run Tryd.prog w = .ok (.tuple #[.agg #[.int .i64 0, .int .i64 0, .int .i64 0, .int .i64 0], .bool false]) w := by kernel_rfl
theorem sa_Mark_Loop (x : Array Value) (w : World) : (Instr.typeAssert (.iface 132 (.agg x)) 105 157 true).run Tryd.prog w = .ok (.tuple #[.agg #[.int .i64 0, .int .i64 0, .int .i64 0, .int .i64 0, .string ⟨#[]⟩], .bool false]) w := by kernel_rfl
theorem sa_Choose_Loop (x : Array Value) (w : World) : (Instr.typeAssert (.iface 132 (.agg x)) 105 129 true).run Tryd.prog w = .ok (.tuple #[.agg #[.int .i64 0, .int .i64 0, .int .i64 0, .int .i64 0, .slice none 0 0], .bool false]) w := by kernel_rfl
theorem sa_Loop_Loop (x : Array Value) (w : World) : (Instr.typeAssert (.iface 132 (.agg x)) 105 132 true).run Tryd.prog w = .ok (.tuple #[.agg x, .bool true]) w := by kernel_rfl
theorem sa_Set_If (x : Array Value) (w : World) : (Instr.typeAssert (.iface 141 (.agg x)) 105 154 true).run Tryd.prog w = .ok (.tuple #[.agg #[.int .i64 0, .int .i64 0, .int .i64 0, .int .i64 0, .int .i64 0, .string ⟨#[]⟩, .nilIface], .bool false]) w := by kernel_rfl
theorem sa_Skip_If (x : Array Value) (w : World) : (Instr.typeAssert (.iface 141 (.agg x)) 105 147 true).run Tryd.prog w = .ok (.tuple #[.agg #[.int .i64 0, .int .i64 0, .int .i64 0, .int .i64 0], .bool false]) w := by kernel_rfl
theorem sa_Stop_If (x : Array Value) (w : World) : (Instr.typeAssert (.iface 141 (.agg x)) 105 148 true).run Tryd.prog w = .ok (.tuple #[.agg #[.int .i64 0, .int .i64 0, .int .i64 0, .int .i64 0], .bool false]) w := by kernel_rfl
theorem sa_Mark_If (x : Array Value) (w : World) : (Instr.typeAssert (.iface 141 (.agg x)) 105 157 true).run Tryd.prog w = .ok (.tuple #[.agg #[.int .i64 0, .int .i64 0, .int .i64 0, .int .i64 0, .string ⟨#[]⟩], .bool false]) w := by kernel_rfl
theorem sa_Choose_If (x : Array Value) (w : World) : (Instr.typeAssert (.iface 141 (.agg x)) 105 129 true).run Tryd.prog w = .ok (.tuple #[.agg #[.int .i64 0, .int .i64 0, .int .i64 0, .int .i64 0, .slice none 0 0], .bool false]) w := by kernel_rfl
theorem sa_Loop_If (x : Array Value) (w : World) : (Instr.typeAssert (.iface 141 (.agg x)) 105 132 true).run Tryd.prog w = .ok (.tuple #[.agg #[.int .i64 0, .int .i64 0, .int .i64 0, .int .i64 0, .slice none 0 0], .bool false]) w := by kernel_rfl
theorem sa_If_If (x : Array Value) (w : World) : (Instr.typeAssert (.iface 141 (.agg x)) 105 141 true).run Tryd.prog w = .ok (.tuple #[.agg x, .bool true]) w := by kernel_rfl
theorem sa_Set_While (x : Array Value) (w : World) : (Instr.typeAssert (.iface 138 (.agg x)) 105 154 true).run Tryd.prog w = .ok (.tuple #[.agg #[.int .i64 0, .int .i64 0, .int .i64 0, .int .i64 0, .int .i64 0, .string ⟨#[]⟩, .nilIface], .bool false]) w := by kernel_rfl
theorem sa_Skip_While (x : Array Value) (w : World) : (Instr.typeAssert (.iface 138 (.agg x)) 105 147 true).run Tryd.prog w = .ok (.tuple #[.agg #[.int .i64 0, .int .i64 0, .int .i64 0, .int .i64 0], .bool false]) w := by kernel_rfl
theorem sa_Stop_While (x : Array Value) (w : World) : (Instr.typeAssert (.iface 138 (.agg x)) 105 148 true).run Tryd.prog w = .ok (.tuple #[.agg #[.int .i64 0, .int .i64 0, .int .i64 0, .int .i64 0], .bool false]) w := by kernel_rfl
theorem sa_Mark_While (x : Array Value) (w : World) : (Instr.typeAssert (.iface 138 (.agg x)) 105 157 true).run Tryd.prog w = .ok (.tuple #[.agg #[.int .i64 0, .int .i64 0, .int .i64 0, .int .i64 0, .string ⟨#[]⟩], .bool false]) w := by kernel_rfl
theorem sa_Choose_While (x : Array Value) (w : World) : (Instr.typeAssert (.iface 138 (.agg x)) 105 129 true).run Tryd.prog w = .ok (.tuple #[.agg #[.int .i64 0, .int .i64 0, .int .i64 0, .int .i64 0, .slice none 0 0], .bool false]) w := by kernel_rfl
theorem sa_Loop_While (x : Array Value) (w : World) : (Instr.typeAssert (.iface 138 (.agg x)) 105 132 true).run Tryd.prog w = .ok (.tuple #[.agg #[.int .i64 0, .int .i64 0, .int .i64 0, .int .i64 0, .slice none 0 0], .bool false]) w := by kernel_rfl
theorem sa_If_While (x : Array Value) (w : World) : (Instr.typeAssert (.iface 138 (.agg x)) 105 141 true).run Tryd.prog w = .ok (.tuple #[.agg #[.int .i64 0, .int .i64 0, .int .i64 0, .int .i64 0, .nilIface, .nilIface, .bool false, .slice none 0 0, .pointer none], .bool false]) w := by kernel_rfl
theorem sh_Set (x : Array Value) (w : World) : (Instr.typeAssert (.iface 154 (.agg x)) 105 154 false).run Tryd.prog w = .ok (.agg x) w := by kernel_rfl
theorem sh_Mark (x : Array Value) (w : World) : (Instr.typeAssert (.iface 157 (.agg x)) 105 157 false).run Tryd.prog w = .ok (.agg x) w := by kernel_rfl
theorem sh_If (x : Array Value) (w : World) : (Instr.typeAssert (.iface 141 (.agg x)) 105 141 false).run Tryd.prog w = .ok (.agg x) w := by kernel_rfl
theorem sh_While (x : Array Value) (w : World) : (Instr.typeAssert (.iface 138 (.agg x)) 105 138 false).run Tryd.prog w = .ok (.agg x) w := by kernel_rfl
theorem sf_Set (p0 p1 p2 p3 k s e : Value) (w : World) : (Instr.field 154 (.agg #[p0, p1, p2, p3, k, s, e]) 2).run Tryd.prog w = .ok s w := by kernel_rfl
theorem sf_Mark (p0 p1 p2 p3 s : Value) (w : World) : (Instr.field 157 (.agg #[p0, p1, p2, p3, s]) 1).run Tryd.prog w = .ok s w := by kernel_rfl
theorem sf_If (p0 p1 p2 p3 y z b t e : Value) (w : World) : (Instr.field 141 (.agg #[p0, p1, p2, p3, y, z, b, t, e]) 1).run Tryd.prog w = .ok (.agg #[y, z, b]) w := by kernel_rfl
theorem sf_While (p0 p1 p2 p3 y z b t : Value) (w : World) : (Instr.field 138 (.agg #[p0, p1, p2, p3, y, z, b, t]) 1).run Tryd.prog w = .ok (.agg #[y, z, b]) w := by kernel_rfl
theorem ElsIs.form {w : World} {B : Nat} {e : Els} {v : Value} (h : ElsIs w B e v) : ∃ p, v = .pointer p := by
  cases e with
  | none => simp only [ElsIs] at h; exact ⟨_, h⟩
  | some p b => simp only [ElsIs] at h; obtain ⟨g, _, _, _, _, rfl, _⟩ := h; exact ⟨_, rfl⟩
/-- the kind of a statement's line -/
def kdS : Sm → Int
  | .set _ _ _ none => 3
  | .set _ _ _ (some _) => 2
  | .skip _ => 4
  | .stop _ => 5
  | .mark _ _ => 6
  | .choose _ _ => 7
  | .loop _ _ => 9
  | .iff .. => 10
  | .whil .. => 12

set_option maxRecDepth 100000 in
set_option maxHeartbeats 2000000 in
theorem kind_calls {s : Sm} {v : Value} {B : Nat} {w : World} (h : SmIs w B s v) : Calls Tryd.prog 71 #[v] w fun e w' => e = .returned (.int .i64 (kdS s)) ∧ Fr No w w' := by
  cases s with
  | set p k x e =>
    cases e with
    | none =>
      simp only [SmIs] at h
      subst h
      have s0 := sa_Set_Set
      go_enter Tryd.func71, Tryd.ntmps71
      go_wp2_with fail
      go_ret
      exact ⟨rfl, (Fr.refl No w).alloc _⟩
    | some n =>
      simp only [SmIs] at h
      obtain ⟨y, hy, rfl⟩ := h
      obtain ⟨ty, xy, rfl⟩ := hy.form
      have s0 := sa_Set_Set
      go_enter Tryd.func71, Tryd.ntmps71
      go_wp2_with fail
      go_ret
      exact ⟨rfl, (Fr.refl No w).alloc _⟩
  | skip p =>
    simp only [SmIs] at h
    subst h
    have s0 := sa_Set_Skip
    have s1 := sa_Skip_Skip
    go_enter Tryd.func71, Tryd.ntmps71
    go_wp2_with fail
    go_ret
    exact ⟨rfl, (Fr.refl No w).alloc _⟩
  | stop p =>
    simp only [SmIs] at h
    subst h
    have s0 := sa_Set_Stop
    have s1 := sa_Skip_Stop
    have s2 := sa_Stop_Stop
    go_enter Tryd.func71, Tryd.ntmps71
    go_wp2_with fail
    go_ret
    exact ⟨rfl, (Fr.refl No w).alloc _⟩
  | mark p x =>
    simp only [SmIs] at h
    subst h
    have s0 := sa_Set_Mark
    have s1 := sa_Skip_Mark
    have s2 := sa_Stop_Mark
    have s3 := sa_Mark_Mark
    go_enter Tryd.func71, Tryd.ntmps71
    go_wp2_with fail
    go_ret
    exact ⟨rfl, (Fr.refl No w).alloc _⟩
  | choose p b =>
    simp only [SmIs] at h
    obtain ⟨a, n, c, vs, _, _, rfl⟩ := h
    have s0 := sa_Set_Choose
    have s1 := sa_Skip_Choose
    have s2 := sa_Stop_Choose
    have s3 := sa_Mark_Choose
    have s4 := sa_Choose_Choose
    go_enter Tryd.func71, Tryd.ntmps71
    go_wp2_with fail
    go_ret
    exact ⟨rfl, (Fr.refl No w).alloc _⟩
  | loop p b =>
    simp only [SmIs] at h
    obtain ⟨a, n, c, vs, _, _, rfl⟩ := h
    have s0 := sa_Set_Loop
    have s1 := sa_Skip_Loop
    have s2 := sa_Stop_Loop
    have s3 := sa_Mark_Loop
    have s4 := sa_Choose_Loop
    have s5 := sa_Loop_Loop
    go_enter Tryd.func71, Tryd.ntmps71
    go_wp2_with fail
    go_ret
    exact ⟨rfl, (Fr.refl No w).alloc _⟩
  | iff p l r eq t e =>
    simp only [SmIs] at h
    obtain ⟨y, z, a, n, c, vs, ev, hy, hz, _, _, he, rfl⟩ := h
    obtain ⟨ty, xy, rfl⟩ := hy.form
    obtain ⟨tz, xz, rfl⟩ := hz.form
    obtain ⟨pe, rfl⟩ := he.form
    have s0 := sa_Set_If
    have s1 := sa_Skip_If
    have s2 := sa_Stop_If
    have s3 := sa_Mark_If
    have s4 := sa_Choose_If
    have s5 := sa_Loop_If
    have s6 := sa_If_If
    go_enter Tryd.func71, Tryd.ntmps71
    go_wp2_with fail
    go_ret
    exact ⟨rfl, (Fr.refl No w).alloc _⟩
  | whil p l r eq b =>
    simp only [SmIs] at h
    obtain ⟨y, z, a, n, c, vs, hy, hz, _, _, rfl⟩ := h
    obtain ⟨ty, xy, rfl⟩ := hy.form
    obtain ⟨tz, xz, rfl⟩ := hz.form
    have s0 := sa_Set_While
    have s1 := sa_Skip_While
    have s2 := sa_Stop_While
    have s3 := sa_Mark_While
    have s4 := sa_Choose_While
    have s5 := sa_Loop_While
    have s6 := sa_If_While
    go_enter Tryd.func71, Tryd.ntmps71
    go_wp2_with fail
    go_ret
    exact ⟨rfl, Fr.refl _ _⟩

/-- a statement's line -/
def hdS : Sm → List UInt8
  | .set _ _ x none => x ++ [32, 58, 61, 32, 97, 110, 121]
  | .set _ _ x (some e) => x ++ [32, 58, 61, 32] ++ wrS e
  | .skip _ => skip_
  | .stop _ => stop_
  | .mark _ x => [109, 97, 114, 107, 32] ++ x
  | .choose _ _ => choose_
  | .loop _ _ => loop_
  | .iff _ l r eq _ _ => [105, 102, 32] ++ cdS l r eq
  | .whil _ l r eq _ => [119, 104, 105, 108, 101, 32] ++ cdS l r eq
/-- a statement whose expressions the parser reads (without its blocks) -/
def Sm.ok1 : Sm → Prop
  | .set _ _ _ (some e) => e.ok
  | .iff _ l r _ _ _ => l.ok ∧ r.ok
  | .whil _ l r _ _ => l.ok ∧ r.ok
  | _ => True
set_option maxRecDepth 100000 in
set_option maxHeartbeats 4000000 in
theorem head_calls {s : Sm} {v : Value} {B : Nat} {w : World} (h : SmIs w B s v) (hok : s.ok1) (hl : (hdS s).length ≤ 1000000000) : Calls Tryd.prog 52 #[v] w fun e w' => e = .returned (.string ⟨(hdS s).toArray⟩) ∧ Fr No w w' := by
  have hk := kind_calls h
  cases s with
  | set p k x e =>
    cases e with
    | none =>
      simp only [kdS] at hk
      simp only [SmIs] at h
      subst h
      simp only [hdS, List.length_append] at hl ⊢
      have hx : x.length ≤ 1000000000 := by omega
      have HK := Lib.hid hk
      clear hk hl
      have s1 := sh_Set
      have s2 := sf_Set
      go_enter Tryd.func52, Tryd.ntmps52
      go_wp2_with fail
      refine HK.out.mono ?_
      rintro e w1 ⟨rfl, hf1⟩
      go_wp2_with fail
      go_ret
      exact ⟨congrArg (fun x => Ending.returned (.string x)) (by simp [ByteArray.mk_append_mk]), hf1⟩
    | some n =>
      simp only [kdS] at hk
      simp only [SmIs] at h
      obtain ⟨y, hy, rfl⟩ := h
      simp only [hdS, List.length_append] at hl ⊢
      have hW := fun (W : World) (f : Fr No w W) => Write_calls hok (hy.keep f (fun _ _ x => x)) (by omega)
      obtain ⟨ty, xy, rfl⟩ := hy.form
      obtain ⟨D, hD⟩ : ∃ D, wrS n = D := ⟨_, rfl⟩
      rw [hD] at hW hl ⊢
      have hx : x.length ≤ 1000000000 := by omega
      have hDl : D.length ≤ 1000000000 := by omega
      have HK := Lib.hid hk
      have HW := Lib.hid hW
      clear hk hW hy hD hl
      have s1 := sh_Set
      go_enter Tryd.func52, Tryd.ntmps52
      go_wp2_with fail
      refine HK.out.mono ?_
      rintro e w1 ⟨rfl, hf1⟩
      go_wp2_with fail
      have hal := (hf1.alloc (.cells #[.int .i64 p.b, .int .i64 p.g, .int .i64 p.l, .int .i64 p.c, .int .i64 k, .string ⟨x.toArray⟩, .iface ty (.agg xy)] 154 (0, 0))).drew
      have hN := (Blk.new w1 (.cells #[.int .i64 p.b, .int .i64 p.g, .int .i64 p.l, .int .i64 p.c, .int .i64 k, .string ⟨x.toArray⟩, .iface ty (.agg xy)] 154 (0, 0))).drew
      obtain ⟨W1, hW1⟩ : ∃ W1, w1.alloc (.cells #[.int .i64 p.b, .int .i64 p.g, .int .i64 p.l, .int .i64 p.c, .int .i64 k, .string ⟨x.toArray⟩, .iface ty (.agg xy)] 154 (0, 0)) = W1 := ⟨_, rfl⟩
      obtain ⟨N, hNe⟩ : ∃ N, w1.heap.size = N := ⟨_, rfl⟩
      rw [hW1] at hal hN ⊢
      rw [hNe] at hN ⊢
      have HX := Lib.hid (And.intro hW1 hNe)
      clear hW1 hNe
      have R1 : ∀ i, W1.drew.cell? ⟨N, i, none⟩ = (#[.int .i64 p.b, .int .i64 p.g, .int .i64 p.l, .int .i64 p.c, .int .i64 k, .string ⟨x.toArray⟩, .iface ty (.agg xy)] : Array Value)[i]? := Blk.all hN
      first | (go_region_with ((go_at_call 82; ((with_reducible refine (HW.out _ hal).mono ?_); rintro e w2 ⟨rfl, hf2⟩; have hM2 : ∀ i, w2.cell? ⟨N, i, none⟩ = (#[.int .i64 p.b, .int .i64 p.g, .int .i64 p.l, .int .i64 p.c, .int .i64 k, .string ⟨x.toArray⟩, .iface ty (.agg xy)] : Array Value)[i]? := Blk.all (hN.fr hf2 (fun x => x)))))) | fail
      all_goals go_wp2_with fail
      all_goals go_ret
      all_goals exact ⟨congrArg (fun x => Ending.returned (.string x)) (by simp [ByteArray.mk_append_mk]), hal.callNo hf2⟩
  | skip p =>
    simp only [kdS] at hk
    simp only [SmIs] at h
    subst h
    have HK := Lib.hid hk
    clear hk
    simp only [hdS] at hl ⊢
    go_enter Tryd.func52, Tryd.ntmps52
    go_wp2_with fail
    refine HK.out.mono ?_
    rintro e w1 ⟨rfl, hf1⟩
    go_wp2_with fail
    go_ret
    exact ⟨rfl, hf1⟩
  | stop p =>
    simp only [kdS] at hk
    simp only [SmIs] at h
    subst h
    have HK := Lib.hid hk
    clear hk
    simp only [hdS] at hl ⊢
    go_enter Tryd.func52, Tryd.ntmps52
    go_wp2_with fail
    refine HK.out.mono ?_
    rintro e w1 ⟨rfl, hf1⟩
    go_wp2_with fail
    go_ret
    exact ⟨rfl, hf1⟩
  | mark p x =>
    simp only [kdS] at hk
    simp only [SmIs] at h
    subst h
    simp only [hdS, List.length_append] at hl ⊢
    have hx : x.length ≤ 1000000000 := by omega
    have HK := Lib.hid hk
    clear hk hl
    have s1 := sh_Mark
    have s2 := sf_Mark
    go_enter Tryd.func52, Tryd.ntmps52
    go_wp2_with fail
    refine HK.out.mono ?_
    rintro e w1 ⟨rfl, hf1⟩
    go_wp2_with fail
    go_ret
    exact ⟨congrArg (fun x => Ending.returned (.string x)) (by simp [ByteArray.mk_append_mk]), hf1⟩
  | choose p b =>
    simp only [kdS] at hk
    simp only [SmIs] at h
    obtain ⟨a, n, c, vs, _, _, rfl⟩ := h
    have HK := Lib.hid hk
    clear hk
    simp only [hdS] at hl ⊢
    go_enter Tryd.func52, Tryd.ntmps52
    go_wp2_with fail
    refine HK.out.mono ?_
    rintro e w1 ⟨rfl, hf1⟩
    go_wp2_with fail
    go_ret
    exact ⟨rfl, hf1⟩
  | loop p b =>
    simp only [kdS] at hk
    simp only [SmIs] at h
    obtain ⟨a, n, c, vs, _, _, rfl⟩ := h
    have HK := Lib.hid hk
    clear hk
    simp only [hdS] at hl ⊢
    go_enter Tryd.func52, Tryd.ntmps52
    go_wp2_with fail
    refine HK.out.mono ?_
    rintro e w1 ⟨rfl, hf1⟩
    go_wp2_with fail
    go_ret
    exact ⟨rfl, hf1⟩
  | iff p l r eq t e =>
    simp only [kdS] at hk
    simp only [SmIs] at h
    obtain ⟨y, z, a, n, c, vs, ev, hy, hz, _, _, he, rfl⟩ := h
    simp only [hdS, List.length_append] at hl ⊢
    have hC := fun (W : World) (f : Fr No w W) => condition_calls (eq := eq) hok.1 hok.2 (hy.keep f (fun _ _ x => x)) (hz.keep f (fun _ _ x => x)) (by omega)
    obtain ⟨ty, xy, rfl⟩ := hy.form
    obtain ⟨tz, xz, rfl⟩ := hz.form
    obtain ⟨pe, rfl⟩ := he.form
    obtain ⟨D, hD⟩ : ∃ D, cdS l r eq = D := ⟨_, rfl⟩
    rw [hD] at hC hl ⊢
    have hDl : D.length ≤ 1000000000 := by omega
    have HK := Lib.hid hk
    have HC := Lib.hid hC
    clear hk hC hy hz hD hl
    have s1 := sh_If
    have s2 := sf_If
    go_enter Tryd.func52, Tryd.ntmps52
    go_wp2_with fail
    refine HK.out.mono ?_
    rintro e w1 ⟨rfl, hf1⟩
    go_wp2_with fail
    refine (HC.out _ hf1).mono ?_
    rintro e w2 ⟨rfl, hf2⟩
    go_wp2_with fail
    go_ret
    exact ⟨congrArg (fun x => Ending.returned (.string x)) (by simp [ByteArray.mk_append_mk]), hf1.callNo hf2⟩
  | whil p l r eq b =>
    simp only [kdS] at hk
    simp only [SmIs] at h
    obtain ⟨y, z, a, n, c, vs, hy, hz, _, _, rfl⟩ := h
    simp only [hdS, List.length_append] at hl ⊢
    have hC := fun (W : World) (f : Fr No w W) => condition_calls (eq := eq) hok.1 hok.2 (hy.keep f (fun _ _ x => x)) (hz.keep f (fun _ _ x => x)) (by omega)
    obtain ⟨ty, xy, rfl⟩ := hy.form
    obtain ⟨tz, xz, rfl⟩ := hz.form
    obtain ⟨D, hD⟩ : ∃ D, cdS l r eq = D := ⟨_, rfl⟩
    rw [hD] at hC hl ⊢
    have hDl : D.length ≤ 1000000000 := by omega
    have HK := Lib.hid hk
    have HC := Lib.hid hC
    clear hk hC hy hz hD hl
    have s1 := sh_While
    have s2 := sf_While
    go_enter Tryd.func52, Tryd.ntmps52
    go_wp2_with fail
    refine HK.out.mono ?_
    rintro e w1 ⟨rfl, hf1⟩
    go_wp2_with fail
    refine (HC.out _ hf1).mono ?_
    rintro e w2 ⟨rfl, hf2⟩
    go_wp2_with fail
    go_ret
    exact ⟨congrArg (fun x => Ending.returned (.string x)) (by simp [ByteArray.mk_append_mk]), hf1.callNo hf2⟩

end Go.Proofs.YtjmjdmmojgmcdaaDoor
