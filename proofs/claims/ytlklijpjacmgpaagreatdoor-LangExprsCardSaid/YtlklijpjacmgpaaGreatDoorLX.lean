/- Printing: expressions. -/
import Derived.Test.YtlklijpjacmgpaaGreatDoorLW
import Derived.Test.YtlklijpjacmgpaaGreatDoorGe
import Derived.Deep.RegionHeld3
import Derived.Deep.RegionWith
namespace Go.Proofs.YtlklijpjacmgpaaGreatDoor
open Go.RowKit
set_option linter.unusedVariables false
set_option linter.unusedSimpArgs false
attribute [local go_sem ↓] Go.wp_at_zero Go.wp_at_succ

def sumB (op : Nat) : Bool := decide (op = 43) || decide (op = 45)
def addsB : Nd → Bool
  | .two op _ _ => sumB op
  | _ => false
def singleB : Nd → Bool
  | .two _ _ _ => false
  | _ => true
def brS (b : Bool) (s : List UInt8) : List UInt8 := if b then 40 :: (s ++ [41]) else s
/-- an expression as it is written -/
def wrS : Nd → List UInt8
  | .num n => decText n
  | .name _ x => x
  | .minus a => 45 :: brS (!singleB a) (wrS a)
  | .two op l r => brS (!sumB op && addsB l) (wrS l) ++ [32, UInt8.ofNat op, 32] ++ brS (sumB op && addsB r || !sumB op && !singleB r) (wrS r)
def Nd.sz : Nd → Nat
  | .num _ => 1
  | .name _ _ => 1
  | .minus a => a.sz + 1
  | .two _ l r => l.sz + r.sz + 1
/-- an expression that the parser reads -/
def Nd.ok : Nd → Prop
  | .num n => (dig L32 n).length ≤ 32
  | .name _ _ => True
  | .minus a => a.ok
  | .two op l r => (op = 43 ∨ op = 45 ∨ op = 42 ∨ op = 47 ∨ op = 37) ∧ l.ok ∧ r.ok

set_option maxHeartbeats 1000000 in
theorem sum_calls (op : Nat) (w : World) (hop : op = 43 ∨ op = 45 ∨ op = 42 ∨ op = 47 ∨ op = 37) :
    Calls Tryz.prog 97 #[.int .u8 op] w fun e w' => e = .returned (.bool (sumB op)) ∧ w' = w := by
  rcases hop with rfl | rfl | rfl | rfl | rfl
  all_goals
    go_enter Tryz.func97, Tryz.ntmps97
    go_wp2
    go_ret
    exact ⟨rfl, rfl⟩
def zTwo : Value := .agg #[.int .u8 0, .nilIface, .nilIface]
/-- what an assertion to Two answers -/
theorem ta_two (x : Array Value) (w : World) : (Instr.typeAssert (.iface 184 (.agg x)) 60 184 true).run Tryz.prog w = .ok (.tuple #[.agg x, .bool true]) w := by kernel_rfl
theorem ta_two_num (x : Array Value) (w : World) : (Instr.typeAssert (.iface 186 (.agg x)) 60 184 true).run Tryz.prog w = .ok (.tuple #[.agg #[.int .u8 0, .nilIface, .nilIface], .bool false]) w := by kernel_rfl
theorem ta_two_name (x : Array Value) (w : World) : (Instr.typeAssert (.iface 188 (.agg x)) 60 184 true).run Tryz.prog w = .ok (.tuple #[.agg #[.int .u8 0, .nilIface, .nilIface], .bool false]) w := by kernel_rfl
theorem ta_two_min (x : Array Value) (w : World) : (Instr.typeAssert (.iface 190 (.agg x)) 60 184 true).run Tryz.prog w = .ok (.tuple #[.agg #[.int .u8 0, .nilIface, .nilIface], .bool false]) w := by kernel_rfl
set_option maxHeartbeats 1000000 in
theorem single_calls {n : Nd} {v : Value} {B : Nat} {w : World} (h : NdIs w B n v) :
    Calls Tryz.prog 96 #[v] w fun e w' => e = .returned (.bool (singleB n)) ∧ Fr No w w' := by
  cases n with
  | num n =>
    obtain ⟨a, c, rfl, _⟩ := h
    have ht := ta_two_num
    go_enter Tryz.func96, Tryz.ntmps96
    go_wp2
    go_ret
    exact ⟨rfl, (Fr.refl No w).alloc _⟩
  | name i x =>
    simp only [NdIs] at h
    subst h
    have ht := ta_two_name
    go_enter Tryz.func96, Tryz.ntmps96
    go_wp2
    go_ret
    exact ⟨rfl, (Fr.refl No w).alloc _⟩
  | minus a =>
    obtain ⟨y, _, rfl⟩ := h
    have ht := ta_two_min
    go_enter Tryz.func96, Tryz.ntmps96
    go_wp2
    go_ret
    exact ⟨rfl, (Fr.refl No w).alloc _⟩
  | two op l r =>
    obtain ⟨y, z, hy, hz, rfl⟩ := h
    obtain ⟨ty, xy, rfl⟩ := hy.form
    obtain ⟨tz, xz, rfl⟩ := hz.form
    have ht := ta_two
    go_enter Tryz.func96, Tryz.ntmps96
    go_wp2
    go_ret
    exact ⟨rfl, (Fr.refl No w).alloc _⟩
set_option maxHeartbeats 1000000 in
theorem adds_calls {n : Nd} {v : Value} {B : Nat} {w : World} (h : NdIs w B n v) (hok : n.ok) :
    Calls Tryz.prog 98 #[v] w fun e w' => e = .returned (.bool (addsB n)) ∧ Fr No w w' := by
  cases n with
  | num n =>
    obtain ⟨a, c, rfl, _⟩ := h
    have ht := ta_two_num
    go_enter Tryz.func98, Tryz.ntmps98
    go_wp2
    go_ret
    exact ⟨rfl, (Fr.refl No w).alloc _⟩
  | name i x =>
    simp only [NdIs] at h
    subst h
    have ht := ta_two_name
    go_enter Tryz.func98, Tryz.ntmps98
    go_wp2
    go_ret
    exact ⟨rfl, (Fr.refl No w).alloc _⟩
  | minus a =>
    obtain ⟨y, _, rfl⟩ := h
    have ht := ta_two_min
    go_enter Tryz.func98, Tryz.ntmps98
    go_wp2
    go_ret
    exact ⟨rfl, (Fr.refl No w).alloc _⟩
  | two op l r =>
    obtain ⟨y, z, hy, hz, rfl⟩ := h
    obtain ⟨ty, xy, rfl⟩ := hy.form
    obtain ⟨tz, xz, rfl⟩ := hz.form
    have ht := ta_two
    have hop := hok.1
    clear hok
    go_enter Tryz.func98, Tryz.ntmps98
    go_wp2_with fail
    refine (sum_calls op _ hop).mono ?_
    rintro e w' ⟨rfl, rfl⟩
    go_wp2
    go_ret
    exact ⟨rfl, (Fr.refl No w).alloc _⟩
theorem ta_num_of_num (x : Array Value) (w : World) : (Instr.typeAssert (.iface 186 (.agg x)) 60 186 true).run Tryz.prog w = .ok (.tuple #[.agg x, .bool true]) w := by kernel_rfl
theorem ta_name_of_num (x : Array Value) (w : World) : (Instr.typeAssert (.iface 186 (.agg x)) 60 188 true).run Tryz.prog w = .ok (.tuple #[.agg #[.int .i64 0, .string ⟨#[]⟩], .bool false]) w := by kernel_rfl
theorem ta_min_of_num (x : Array Value) (w : World) : (Instr.typeAssert (.iface 186 (.agg x)) 60 190 true).run Tryz.prog w = .ok (.tuple #[.agg #[.nilIface], .bool false]) w := by kernel_rfl
theorem ta_num_of_name (x : Array Value) (w : World) : (Instr.typeAssert (.iface 188 (.agg x)) 60 186 true).run Tryz.prog w = .ok (.tuple #[.agg #[.bool false, .slice none 0 0], .bool false]) w := by kernel_rfl
theorem ta_name_of_name (x : Array Value) (w : World) : (Instr.typeAssert (.iface 188 (.agg x)) 60 188 true).run Tryz.prog w = .ok (.tuple #[.agg x, .bool true]) w := by kernel_rfl
theorem ta_min_of_name (x : Array Value) (w : World) : (Instr.typeAssert (.iface 188 (.agg x)) 60 190 true).run Tryz.prog w = .ok (.tuple #[.agg #[.nilIface], .bool false]) w := by kernel_rfl
theorem ta_num_of_min (x : Array Value) (w : World) : (Instr.typeAssert (.iface 190 (.agg x)) 60 186 true).run Tryz.prog w = .ok (.tuple #[.agg #[.bool false, .slice none 0 0], .bool false]) w := by kernel_rfl
theorem ta_name_of_min (x : Array Value) (w : World) : (Instr.typeAssert (.iface 190 (.agg x)) 60 188 true).run Tryz.prog w = .ok (.tuple #[.agg #[.int .i64 0, .string ⟨#[]⟩], .bool false]) w := by kernel_rfl
theorem ta_min_of_min (x : Array Value) (w : World) : (Instr.typeAssert (.iface 190 (.agg x)) 60 190 true).run Tryz.prog w = .ok (.tuple #[.agg x, .bool true]) w := by kernel_rfl
theorem ta_num_of_two (x : Array Value) (w : World) : (Instr.typeAssert (.iface 184 (.agg x)) 60 186 true).run Tryz.prog w = .ok (.tuple #[.agg #[.bool false, .slice none 0 0], .bool false]) w := by kernel_rfl
theorem ta_name_of_two (x : Array Value) (w : World) : (Instr.typeAssert (.iface 184 (.agg x)) 60 188 true).run Tryz.prog w = .ok (.tuple #[.agg #[.int .i64 0, .string ⟨#[]⟩], .bool false]) w := by kernel_rfl
theorem ta_min_of_two (x : Array Value) (w : World) : (Instr.typeAssert (.iface 184 (.agg x)) 60 190 true).run Tryz.prog w = .ok (.tuple #[.agg #[.nilIface], .bool false]) w := by kernel_rfl
theorem conv_op1 {op : Nat} (hop : op = 43 ∨ op = 45 ∨ op = 42 ∨ op = 47 ∨ op = 37) (w : World) : (convert 5 21 (.int .u8 op)).run Tryz.prog w = .ok (.int .i32 op) w := by
  rcases hop with rfl | rfl | rfl | rfl | rfl <;> kernel_rfl
theorem conv_op2 {op : Nat} (hop : op = 43 ∨ op = 45 ∨ op = 42 ∨ op = 47 ∨ op = 37) (w : World) : (convert 21 9 (.int .i32 op)).run Tryz.prog w = .ok (.string ⟨#[UInt8.ofNat op]⟩) w := by
  rcases hop with rfl | rfl | rfl | rfl | rfl <;> kernel_rfl
theorem SB.blk {B b : Nat} {p : Value} {bs : List Value} {w : World} (h : SB B b p bs w) : ∃ v, Blk w b (.cells #[p, v] 101 (0, 0)) := by
  obtain ⟨_, v, hb, _⟩ := h
  exact ⟨v, hb⟩
theorem not_sbs {w : World} {b k : Nat} {cs : Array Value} {t : TypeId} {fz : Nat × Nat} (h : Blk w k (.cells cs t fz)) (ht : t ≠ 5) (hk : k ≠ b) : ¬ SbS b w k := by
  rintro (e | ⟨cs', f, e⟩)
  · exact hk e
  · have h' : w.heap[k]? = _ := h
    rw [e] at h'
    simp only [Option.some.injEq, Obj.cells.injEq] at h'
    exact ht h'.2.1.symm
/-- what a write into a builder that was made behind block B may turn -/
def SbB (B b : Nat) (w : World) (k : Nat) : Prop := SbS b w k ∧ B ≤ k
theorem sbB_fr {B b : Nat} {w w' : World} (f : Fr (SbS b w) w w') (g : Below B w w') : Fr (SbB B b w) w w' :=
  ⟨f.os, f.tape, f.output, f.size, fun k hk hn => by
    by_cases hB : B ≤ k
    · exact f.block k hk (fun h => hn ⟨h, hB⟩)
    · exact g.block k (by omega)⟩
theorem sbB_byte_calls (B b : Nat) (p : Value) (bs : List Value) (c : Int) (w : World) (hp : p = .pointer none ∨ p = selfP b) (h : SB B b p bs w) (hlen : bs.length + 1 ≤ 140737488355328) (hBw : B ≤ w.heap.size) :
    Calls Tryz.prog 94 #[selfP b, .int .u8 c] w fun e w' => e = .returned .nilIface ∧ SB B b (selfP b) (bs ++ [.int .u8 c]) w' ∧ Below B w w' ∧ Fr (SbB B b w) w w' :=
  (sb_byte_calls B b p bs c w hp h hlen hBw).mono fun e w' ⟨h1, h2, h3, h4⟩ => ⟨h1, h2, h3, sbB_fr h4 h3⟩
theorem sbB_str_calls (B b : Nat) (p : Value) (bs : List Value) (s : ByteArray) (w : World) (hp : p = .pointer none ∨ p = selfP b) (h : SB B b p bs w) (hlen : bs.length + s.size ≤ 140737488355328) (hBw : B ≤ w.heap.size) :
    Calls Tryz.prog 43 #[selfP b, .string s] w fun e w' => e = .returned (.tuple #[.int .i64 s.size, .nilIface]) ∧ SB B b (selfP b) (bs ++ Lib.strCells s) w' ∧ Below B w w' ∧ Fr (SbB B b w) w w' :=
  (sb_str_calls B b p bs s w hp h hlen hBw).mono fun e w' ⟨h1, h2, h3, h4⟩ => ⟨h1, h2, h3, sbB_fr h4 h3⟩
theorem not_sbB {B : Nat} {w : World} {b k : Nat} {cs : Array Value} {t : TypeId} {fz : Nat × Nat} (h : Blk w k (.cells cs t fz)) (ht : t ≠ 5) (hk : k ≠ b) : ¬ SbB B b w k := fun e => not_sbs h ht hk e.1
theorem own_sbs {w w' : World} {b B B' : Nat} {p : Value} {bs : List Value} {e : TypeId} {size : Nat} {v : Value} {n : Nat} {xs : List Value} (h : w.ownsRow B e size v n xs) (he : e ≠ 5) (he2 : e ≠ 101) (hb : SB B' b p bs w) (f : Fr (SbB B' b w) w w') : w'.ownsRow B e size v n xs :=
  own_fr h f (fun k hk hS => by
    obtain ⟨cur, hc⟩ := own_obj h hk
    refine not_sbB hc he ?_ hS
    intro ek
    subst ek
    obtain ⟨v', hv⟩ := hb.blk
    have h' : w.heap[k]? = _ := hv
    rw [hc] at h'
    simp only [Option.some.injEq, Obj.cells.injEq] at h'
    exact he2 h'.2.1)
theorem NdIs.sb {w w' : World} {b B B' : Nat} {p : Value} {bs : List Value} (hb : SB B' b p bs w) (f : Fr (SbB B' b w) w w') : ∀ {n : Nd} {v : Value}, NdIs w B n v → NdIs w' B n v
  | .num n, v, ⟨a, c, h1, h2⟩ => ⟨a, c, h1, own_sbs h2 (by decide) (by decide) hb f⟩
  | .name i x, v, h => h
  | .minus a, v, ⟨y, h1, h2⟩ => ⟨y, NdIs.sb hb f h1, h2⟩
  | .two op l r, v, ⟨y, z, h1, h2, h3⟩ => ⟨y, z, NdIs.sb hb f h1, NdIs.sb hb f h2, h3⟩
theorem SbS.back {B : Nat} {w w1 : World} {b k : Nat} (f : Fr (SbB B b w) w w1) (hk : k < w.heap.size) (h : SbB B b w1 k) : SbB B b w k := by
  by_cases hs : SbB B b w k
  · exact hs
  · refine ⟨?_, h.2⟩
    rcases h.1 with e | ⟨cs, fz, e⟩
    · exact Or.inl e
    · rw [f.block k hk hs] at e
      exact Or.inr ⟨cs, fz, e⟩
theorem Fr.sb {B : Nat} {w w1 w2 : World} {b : Nat} (f : Fr (SbB B b w) w w1) (g : Fr (SbB B b w1) w1 w2) : Fr (SbB B b w) w w2 := f.call g (fun k hk h => SbS.back f hk h)
/-- what a writer into a builder does -/
def WrOut (B b : Nat) (bs : List Value) (s : List UInt8) (w : World) (e : Ending) (w' : World) : Prop :=
  e = .returned (.tuple #[]) ∧ SB B b (selfP b) (bs ++ Lib.byteCells s) w' ∧ Fr (SbB B b w) w w'
def WrC (k : Nat) : Prop := ∀ (n : Nd) (v : Value) (B0 B b : Nat) (p : Value) (bs : List Value) (w : World), n.sz ≤ k → n.ok → NdIs w B0 n v → SB B b p bs w → (p = .pointer none ∨ p = selfP b) → bs.length + (wrS n).length ≤ 1000000000 → B ≤ w.heap.size →
  Calls Tryz.prog 54 #[selfP b, v] w (WrOut B b bs (wrS n) w)
def PtC (k : Nat) : Prop := ∀ (n : Nd) (v : Value) (br : Bool) (B0 B b : Nat) (p : Value) (bs : List Value) (w : World), n.sz ≤ k → n.ok → NdIs w B0 n v → SB B b p bs w → (p = .pointer none ∨ p = selfP b) → bs.length + (brS br (wrS n)).length ≤ 1000000000 → B ≤ w.heap.size →
  Calls Tryz.prog 95 #[selfP b, v, .bool br] w (WrOut B b bs (brS br (wrS n)) w)
theorem bc_len (s : List UInt8) : (Lib.byteCells s).length = s.length := by simp [Lib.byteCells]
theorem bc_app (s t : List UInt8) : Lib.byteCells (s ++ t) = Lib.byteCells s ++ Lib.byteCells t := by simp [Lib.byteCells]
set_option maxRecDepth 100000 in
set_option maxHeartbeats 2000000 in
theorem part_step {k : Nat} (ih : WrC k) : PtC k := by
  intro n v br B0 B b p bs w hk hok hn hb hp hl hB
  obtain ⟨S, hS⟩ : ∃ S, wrS n = S := ⟨_, rfl⟩
  have ihc := fun (p : Value) (bs : List Value) (w' : World) => ih n v B0 B b p bs w' hk hok
  rw [hS] at ihc hl ⊢
  have HI := Lib.hid ihc
  clear ihc hS
  cases br with
  | false =>
    simp only [brS, Bool.false_eq_true, if_false] at hl ⊢
    go_enter Tryz.func95, Tryz.ntmps95
    go_wp2_with fail
    refine (HI.out p bs w hn hb hp hl hB).mono ?_
    rintro e w1 ⟨rfl, hb1, hf1⟩
    go_wp2_with fail
    go_end0
    exact ⟨rfl, hb1, hf1⟩
  | true =>
    simp only [brS, if_true, List.length_cons, List.length_append, List.length_nil] at hl ⊢
    go_enter Tryz.func95, Tryz.ntmps95
    go_wp2_with fail
    refine (sbB_byte_calls B b p bs 40 w hp hb (by omega) hB).mono ?_
    rintro e w1 ⟨rfl, hb1, _, hf1⟩
    go_wp2_with fail
    refine (HI.out _ _ w1 (hn.sb hb hf1) hb1 (Or.inr rfl) (by simp; omega) (Nat.le_trans hB hf1.size)).mono ?_
    rintro e w2 ⟨rfl, hb2, hf2⟩
    have hf3 := hf1.sb hf2
    go_wp2_with fail
    refine (sbB_byte_calls B b _ _ 41 w2 (Or.inr rfl) hb2 (by simp [bc_len]; omega) (Nat.le_trans hB hf3.size)).mono ?_
    rintro e w3 ⟨rfl, hb3, _, hf4⟩
    go_wp2_with fail
    go_end0
    refine ⟨rfl, ?_, hf3.sb hf4⟩
    have e : bs ++ Lib.byteCells (40 :: (S ++ [41])) = bs ++ [.int .u8 40] ++ Lib.byteCells S ++ [.int .u8 41] := by simp [Lib.byteCells]
    rw [e]
    exact hb3
set_option maxRecDepth 100000 in
set_option maxHeartbeats 4000000 in
theorem write_step {k : Nat} (ih : PtC k) : WrC (k + 1) := by
  intro n v B0 B b p bs w hk hok hn hb hp hl hB
  obtain ⟨vb, hvb⟩ := hb.blk
  have hbl := hvb.lt
  cases n with
  | num n =>
    obtain ⟨a, c, rfl, ho⟩ := hn
    have hd : (dig L32 n).length ≤ 32 := hok
    have t1 := ta_num_of_num
    simp only [wrS] at hl ⊢
    obtain ⟨m, hm⟩ : ∃ m, (dig L32 n).length = m := ⟨_, rfl⟩
    have hT := fun (W : World) (f : Fr No w W) => wText_calls B0 false a c n W hd (own_fr ho f (fun _ _ x => x))
    rw [show sgT false n = decText n from rfl, hm] at hT
    rw [hm]
    have HT := Lib.hid hT
    clear hT hm ho hd hok
    go_enter Tryz.func54, Tryz.ntmps54
    go_wp2_with fail
    have hal := (Fr.refl No w).alloc (.cells #[.bool false, .slice a m c] 186 (0, 0))
    refine (HT.out _ hal).mono ?_
    rintro e w1 ⟨rfl, hf1⟩
    have hf2 := hal.callNo hf1
    go_wp2_with fail
    refine (sbB_str_calls B b p bs _ w1 hp (hb.fr hf2) (by show bs.length + (decText n).length ≤ _; omega) (Nat.le_trans hB hf2.size)).mono ?_
    rintro e w2 ⟨rfl, hb2, _, hf3⟩
    go_wp2_with fail
    go_end0
    exact ⟨rfl, hb2, (Fr.ofNo (S := SbB B b w) hf2).sb hf3⟩
  | name i x =>
    simp only [NdIs] at hn
    subst hn
    have t1 := ta_num_of_name
    have t2 := ta_name_of_name
    simp only [wrS] at hl ⊢
    have hal := (Fr.refl No w).alloc (.cells #[.int .i64 i, .string ⟨x.toArray⟩] 188 (0, 0))
    go_enter Tryz.func54, Tryz.ntmps54
    go_wp2_with fail
    refine (sbB_str_calls B b p bs _ _ hp (hb.fr hal) (by show bs.length + x.length ≤ _; omega) (Nat.le_trans hB hal.size)).mono ?_
    rintro e w2 ⟨rfl, hb2, _, hf3⟩
    go_wp2_with fail
    go_end0
    exact ⟨rfl, hb2, (Fr.ofNo (S := SbB B b w) hal).sb hf3⟩
  | minus a =>
    obtain ⟨y, hy, rfl⟩ := hn
    obtain ⟨ty, xy, rfl⟩ := hy.form
    have t1 := ta_num_of_min
    have t2 := ta_name_of_min
    have t3 := ta_min_of_min
    have hoka : a.ok := hok
    simp only [Nd.sz] at hk
    simp only [wrS, List.length_cons] at hl ⊢
    have hal := (Fr.refl No w).alloc (.cells #[.iface ty (.agg xy)] 190 (0, 0))
    have hM := Blk.new w (.cells #[.iface ty (.agg xy)] 190 (0, 0))
    go_enter Tryz.func54, Tryz.ntmps54
    go_wp2_with fail
    refine (sbB_byte_calls B b p bs 45 _ hp (hb.fr hal) (by omega) (Nat.le_trans hB hal.size)).mono ?_
    rintro e w1 ⟨rfl, hb1, _, hf1⟩
    have hf2 := (Fr.ofNo (S := SbB B b w) hal).sb hf1
    obtain ⟨N, hN⟩ : ∃ N, w.heap.size = N := ⟨_, rfl⟩
    rw [hN] at hM ⊢
    have hNb : N ≠ b := by omega
    have hM1 := hM.fr hf1 (not_sbB hM (by decide) hNb)
    have hy1 := (hy.keep hal (fun _ _ x => x)).sb (hb.fr hal) hf1
    obtain ⟨sb, hsb⟩ : ∃ sb, singleB a = sb := ⟨_, rfl⟩
    rw [hsb] at hl ⊢
    have HS := Lib.hid hsb
    clear hsb hM hal hf1 hy
    obtain ⟨W, hW⟩ : ∃ W, wrS a = W := ⟨_, rfl⟩
    rw [hW] at hl ⊢
    have HW := Lib.hid hW
    clear hW hok
    have hbd := SB.fr hb1 ((Fr.refl No w1).drew)
    have hMd : ∀ i, w1.drew.cell? ⟨N, i, none⟩ = (#[.iface ty (.agg xy)] : Array Value)[i]? := Blk.all hM1.drew
    have hyd := hy1.keep ((Fr.refl No w1).drew) (fun _ _ x => x)
    have HN := Lib.hid hN
    clear hN
    go_wp2_with fail
    go_region_held3 (fun w' => ∀ i, w'.cell? ⟨N, i, none⟩ = (#[.iface ty (.agg xy)] : Array Value)[i]?) (with_reducible (first | exact hMd | exact hM2 | exact hM3)) (first | (go_at_call 96; refine (single_calls hyd).mono ?_; rintro e w2 ⟨rfl, hf3⟩; rw [HS.out]; have hM2 : ∀ i, w2.cell? ⟨N, i, none⟩ = (#[.iface ty (.agg xy)] : Array Value)[i]? := Blk.all (hM1.drew.fr hf3 (fun x => x))) | (go_at_call 95; refine (ih a _ (!sb) B0 B b _ _ w2 (by omega) hoka (hyd.keep hf3 (fun _ _ x => x)) (SB.fr hbd hf3) (Or.inr rfl) (by rw [HW.out]; simp; omega) (by have := hf2.size; have := hf3.size; have hd : w1.drew.heap.size = w1.heap.size := rfl; omega)).mono ?_; rw [HW.out]; rintro e w3 ⟨rfl, hb3, hf4⟩; have hM3 : ∀ i, w3.cell? ⟨N, i, none⟩ = (#[.iface ty (.agg xy)] : Array Value)[i]? := Blk.all ((hM1.drew.fr hf3 (fun x => x)).fr hf4 (not_sbB (hM1.drew.fr hf3 (fun x => x)) (by decide) hNb))))
    all_goals go_wp2_with fail
    all_goals go_end0
    all_goals rw [HS.out, HW.out]
    all_goals exact ⟨rfl, by rw [show bs ++ Lib.byteCells (45 :: brS (!sb) W) = bs ++ [.int .u8 45] ++ Lib.byteCells (brS (!sb) W) by simp [Lib.byteCells]]; exact hb3, (hf2.drew.callNo hf3).sb hf4⟩
  | two op l r =>
    obtain ⟨yl, yr, hyl, hyr, rfl⟩ := hn
    obtain ⟨tl, xl, rfl⟩ := hyl.form
    obtain ⟨tr, xr, rfl⟩ := hyr.form
    have t1 := ta_num_of_two
    have t2 := ta_name_of_two
    have t3 := ta_min_of_two
    have t4 := ta_two
    obtain ⟨hop, hokl, hokr⟩ := hok
    simp only [Nd.sz] at hk
    simp only [wrS, List.length_cons, List.length_append, List.length_nil] at hl ⊢
    have hal := (Fr.refl No w).alloc (.cells #[.int .u8 op, .iface tl (.agg xl), .iface tr (.agg xr)] 184 (0, 0))
    have hM := Blk.new w (.cells #[.int .u8 op, .iface tl (.agg xl), .iface tr (.agg xr)] 184 (0, 0))
    obtain ⟨N, hN⟩ : ∃ N, w.heap.size = N := ⟨_, rfl⟩
    have hNb : N ≠ b := by omega
    have hb0 := hb.fr hal
    have hyl0 := hyl.keep hal (fun _ _ x => x)
    have hyr0 := hyr.keep hal (fun _ _ x => x)
    have hBa := Nat.le_trans hB hal.size
    obtain ⟨WL, hWL⟩ : ∃ WL, wrS l = WL := ⟨_, rfl⟩
    obtain ⟨WR, hWR⟩ : ∃ WR, wrS r = WR := ⟨_, rfl⟩
    rw [hWL, hWR] at hl ⊢
    obtain ⟨so, hso⟩ : ∃ so, sumB op = so := ⟨_, rfl⟩
    obtain ⟨al, hal1⟩ : ∃ al, addsB l = al := ⟨_, rfl⟩
    obtain ⟨ar, har1⟩ : ∃ ar, addsB r = ar := ⟨_, rfl⟩
    obtain ⟨sr, hsr1⟩ : ∃ sr, singleB r = sr := ⟨_, rfl⟩
    rw [hso, hal1, har1, hsr1] at hl ⊢
    have hsum := fun (W : World) => sum_calls op W hop
    rw [hso] at hsum
    have HH := Lib.hid (And.intro hWL (And.intro hWR (And.intro hal1 (And.intro har1 hsr1))))
    have HO := Lib.hid (And.intro hop hso)
    have HQ := Lib.hid hsum
    clear hWL hWR hso hal1 har1 hsr1 hop hsum hb hyl hyr hB
    go_enter Tryz.func54, Tryz.ntmps54
    go_wp2_with fail
    have HN := Lib.hid hN
    rw [hN] at hM
    clear hN
    obtain ⟨W1, hW1⟩ : ∃ W1, w.alloc (.cells #[.int .u8 op, .iface tl (.agg xl), .iface tr (.agg xr)] 184 (0, 0)) = W1 := ⟨_, rfl⟩
    rw [hW1] at hM hal hb0 hyl0 hyr0 hBa ⊢
    have HW1 := Lib.hid hW1
    clear hW1
    have hbs : brS (!so && al) WL ≠ [] ∨ True := Or.inr trivial
    clear hbs
    go_cut [] (fun wx => SB B b (selfP b) (bs ++ Lib.byteCells (brS (!so && al) WL)) wx ∧ Fr (SbB B b W1) W1 wx ∧ Blk wx N (.cells #[.int .u8 op, .iface tl (.agg xl), .iface tr (.agg xr)] 184 (0, 0)) ∧ NdIs wx B0 r (.iface tr (.agg xr)))
    case first =>
      have hMd : ∀ i, W1.drew.cell? ⟨N, i, none⟩ = (#[.int .u8 op, .iface tl (.agg xl), .iface tr (.agg xr)] : Array Value)[i]? := Blk.all hM.drew
      have hb0d := SB.fr hb0 ((Fr.refl No W1).drew)
      have hld := hyl0.keep ((Fr.refl No W1).drew) (fun _ _ x => x)
      have hMsz := hal.size
      have hl13 : bs.length + (brS (!so && al) WL).length ≤ 1000000000 := by omega
      cases so with
      | true =>
        first | (go_region_with (first | (go_at_call 97; refine (HQ.out _).mono ?_; rintro e w' ⟨rfl, rfl⟩) | (go_at_call 95; refine (ih l _ (!true && al) B0 B b p bs W1.drew (by omega) hokl hld hb0d hp (by rw [HH.out.1]; omega) hBa).mono ?_; rw [HH.out.1]; rintro e w3 ⟨rfl, hb3, hf4⟩))) | fail
        all_goals go_wp2_with fail
        all_goals go_meet
        all_goals have hfd : Fr (SbB B b W1) W1 w3 := ((Fr.refl (SbB B b W1) W1).drew).sb hf4
        all_goals exact ⟨hb3, hfd, hM.fr hfd (not_sbB hM (by decide) hNb), hyr0.sb hb0 hfd⟩
      | false =>
        first | (go_region_with (first | (go_at_call 97; refine (HQ.out _).mono ?_; rintro e w' ⟨rfl, rfl⟩) | (go_at_call 98; refine (adds_calls hld hokl).mono ?_; rw [HH.out.2.2.1]; rintro e w2 ⟨rfl, hf3⟩; have hM2 : ∀ i, w2.cell? ⟨N, i, none⟩ = (#[.int .u8 op, .iface tl (.agg xl), .iface tr (.agg xr)] : Array Value)[i]? := Blk.all (hM.drew.fr hf3 (fun x => x))) | (go_at_call 95; refine (ih l _ al B0 B b p bs w2 (by omega) hokl (hld.keep hf3 (fun _ _ x => x)) (SB.fr hb0d hf3) hp (by rw [HH.out.1]; simpa using hl13) (Nat.le_trans hBa hf3.size)).mono ?_; rw [HH.out.1]; rintro e w3 ⟨rfl, hb3, hf4⟩))) | fail
        all_goals go_wp2_with fail
        all_goals go_meet
        all_goals have hfd : Fr (SbB B b W1) W1 w3 := (((Fr.refl (SbB B b W1) W1).drew).callNo hf3).sb hf4
        all_goals exact ⟨by simpa using hb3, hfd, hM.fr hfd (not_sbB hM (by decide) hNb), hyr0.sb hb0 hfd⟩
    case rest =>
      obtain ⟨hb1, hf1, hM1, hyr1⟩ := hcut
      have R1 := Blk.all hM1
      have hsz1 := hf1.size
      clear hb0 hyl0 hyr0 hM
      have cv1 := conv_op1 HO.out.1
      have cv2 := conv_op2 HO.out.1
      go_wp2_with fail
      rw [show ({ data := #[32] } ++ { data := #[UInt8.ofNat op] } ++ { data := #[32] } : ByteArray) = ⟨[32, UInt8.ofNat op, 32].toArray⟩ by simp [ByteArray.mk_append_mk]]
      refine (sbB_str_calls B b _ _ ⟨[32, UInt8.ofNat op, 32].toArray⟩ _ (Or.inr rfl) hb1 (by rw [List.length_append, bc_len]; show _ + 3 ≤ _; omega) (Nat.le_trans hBa hsz1)).mono ?_
      rintro e w4 ⟨rfl, hb4, _, hf4⟩
      have hM4 := hM1.fr hf4 (not_sbB hM1 (by decide) hNb)
      have hr4 := hyr1.sb hb1 hf4
      have hF4 := ((Fr.ofNo (S := SbB B b w) hal).sb hf1).sb hf4
      have hB4 := Nat.le_trans (Nat.le_trans hBa hsz1) hf4.size
      rw [show Lib.strCells ⟨[32, UInt8.ofNat op, 32].toArray⟩ = Lib.byteCells [32, UInt8.ofNat op, 32] from rfl] at hb4
      have hb4d := SB.fr hb4 ((Fr.refl No w4).drew)
      have hrd := hr4.keep ((Fr.refl No w4).drew) (fun _ _ x => x)
      have hRd : ∀ i, w4.drew.cell? ⟨N, i, none⟩ = (#[.int .u8 op, .iface tl (.agg xl), .iface tr (.agg xr)] : Array Value)[i]? := Blk.all hM4.drew
      have hl15 : bs.length + (brS (!so && al) WL).length + 3 + (brS (so && ar || !so && !sr) WR).length ≤ 1000000000 := by omega
      clear cv1 cv2 R1 hb1 hM1 hyr1 hf1 hf4 hb4 hr4
      cases so with
      | true =>
        cases ar with
        | true =>
          have hud : undef = Value.tuple #[] := rfl
          go_wp2_with fail
          first | (go_region_with (first | (go_at_call 97; refine (HQ.out _).mono ?_; rintro e w' ⟨rfl, rfl⟩) | (go_at_call 98; refine (adds_calls hrd hokr).mono ?_; rw [HH.out.2.2.2.1]; rintro e w5 ⟨rfl, hf5⟩; have hM5 : ∀ i, w5.cell? ⟨N, i, none⟩ = (#[.int .u8 op, .iface tl (.agg xl), .iface tr (.agg xr)] : Array Value)[i]? := Blk.all (hM4.drew.fr hf5 (fun x => x))) | (go_at_call 95; refine (ih r _ true B0 B b _ _ _ (by omega) hokr (hrd.keep hf5 (fun _ _ x => x)) (SB.fr hb4d hf5) (Or.inr rfl) (by rw [HH.out.2.1, List.length_append, List.length_append, bc_len, bc_len]; exact hl15) (Nat.le_trans hB4 hf5.size)).mono ?_; rw [HH.out.2.1]; rintro e w6 ⟨rfl, hb6, hf6⟩))) | fail
          all_goals go_wp2_with fail
          all_goals go_end0
          all_goals exact ⟨rfl, by simpa [Lib.byteCells] using hb6, (hF4.drew.callNo hf5).sb hf6⟩

        | false =>
          go_wp2_with fail
          first | (go_region_with (first | (go_at_call 97; refine (HQ.out _).mono ?_; rintro e w' ⟨rfl, rfl⟩) | (go_at_call 98; refine (adds_calls hrd hokr).mono ?_; rw [HH.out.2.2.2.1]; rintro e w5 ⟨rfl, hf5⟩; have hM5 : ∀ i, w5.cell? ⟨N, i, none⟩ = (#[.int .u8 op, .iface tl (.agg xl), .iface tr (.agg xr)] : Array Value)[i]? := Blk.all (hM4.drew.fr hf5 (fun x => x))) | (go_at_call 95; refine (ih r _ false B0 B b _ _ _ (by omega) hokr (hrd.keep hf5 (fun _ _ x => x)) (SB.fr hb4d hf5) (Or.inr rfl) (by rw [HH.out.2.1, List.length_append, List.length_append, bc_len, bc_len]; exact hl15) (Nat.le_trans hB4 hf5.size)).mono ?_; rw [HH.out.2.1]; rintro e w6 ⟨rfl, hb6, hf6⟩))) | fail
          all_goals go_wp2_with fail
          all_goals go_end0
          all_goals exact ⟨rfl, by simpa [Lib.byteCells] using hb6, (hF4.drew.callNo hf5).sb hf6⟩

      | false =>
        go_wp2_with fail
        first | (go_region_with (first | (go_at_call 97; refine (HQ.out _).mono ?_; rintro e w' ⟨rfl, rfl⟩) | (go_at_call 96; refine (single_calls hrd).mono ?_; rw [HH.out.2.2.2.2]; rintro e w5 ⟨rfl, hf5⟩; have hM5 : ∀ i, w5.cell? ⟨N, i, none⟩ = (#[.int .u8 op, .iface tl (.agg xl), .iface tr (.agg xr)] : Array Value)[i]? := Blk.all (hM4.drew.fr hf5 (fun x => x))) | (go_at_call 95; refine (ih r _ (!sr) B0 B b _ _ _ (by omega) hokr (hrd.keep hf5 (fun _ _ x => x)) (SB.fr hb4d hf5) (Or.inr rfl) (by rw [HH.out.2.1, List.length_append, List.length_append, bc_len, bc_len]; exact hl15) (Nat.le_trans hB4 hf5.size)).mono ?_; rw [HH.out.2.1]; rintro e w6 ⟨rfl, hb6, hf6⟩))) | fail
        all_goals go_wp2_with fail
        all_goals go_end0
        all_goals exact ⟨rfl, by simpa [Lib.byteCells] using hb6, (hF4.drew.callNo hf5).sb hf6⟩

theorem wr_all : ∀ k, WrC k
  | 0 => fun n v B0 B b p bs w hk => by
    cases n <;> simp [Nd.sz] at hk
  | k + 1 => write_step (part_step (wr_all k))
end Go.Proofs.YtlklijpjacmgpaaGreatDoor
