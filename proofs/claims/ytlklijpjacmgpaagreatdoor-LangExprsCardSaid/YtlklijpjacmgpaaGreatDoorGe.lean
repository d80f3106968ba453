/- strings.Builder by hand. -/
import Derived.Test.YtlklijpjacmgpaaGreatDoorGa
import Derived.Test.YtlklijpjacmgpaaGreatDoorShelf
import Derived.Lib.Builder
import Derived.Lib.AppendStr
import Derived.Lib.UnsafeStr
import Derived.Laws.Externs
namespace Go.Proofs.YtlklijpjacmgpaaGreatDoor
open Go.RowKit
set_option linter.unusedVariables false
set_option linter.unusedSimpArgs false

theorem sb_size : (Tryz.prog.info? 101).map (·.size) = some 2 := by kernel_rfl
theorem sb_lies : liesAt Tryz.prog Tryz.prog.depth 101 (2 / Tryz.prog.cellsOf 101) 0 101 1 = true := by kernel_rfl
theorem sb_byte : (Tryz.prog.info? 5).map (fun i => (i.zero, i.size, i.bytes)) = some (some (.int .u8 0), 1, 1) := by kernel_rfl
/-- a builder at block b, its bytes bs, made behind block B -/
abbrev SB (B b : Nat) (p : Value) (bs : List Value) (w : World) : Prop := Lib.BuilderAt 101 5 B b p bs w
abbrev selfP (b : Nat) : Value := .pointer (some ⟨b, 0, none⟩)
/-- what a write into a builder may turn: itself, and rows of bytes -/
def SbS (b : Nat) (w : World) (k : Nat) : Prop := k = b ∨ ∃ cs f, w.heap[k]? = some (.cells cs 5 f)
theorem own_type {w : World} {B : Nat} {e : TypeId} {size : Nat} {v : Value} {n : Nat} {xs : List Value} (h : w.ownsRow B e size v n xs) {k : Nat} (hk : v.ownBlock = some k) : ∃ cs, w.heap[k]? = some (.cells cs e (0, 0)) := by
  rcases h.2 with ⟨rfl, _⟩ | ⟨g, cap, cur, rfl, _, hh, _⟩
  · cases hk
  · simp only [Value.ownBlock, Option.some.injEq] at hk
    subst hk
    exact ⟨cur, hh⟩
theorem sbs_row {w w1 : World} {B b : Nat} {v : Value} {n : Nat} {xs : List Value} (hf : Fr (· = b) w w1) (ho : w1.ownsRow B 5 1 v n xs) : ∀ k, v.ownBlock = some k → k < w.heap.size → SbS b w k := by
  intro k hk hlt
  by_cases hb : k = b
  · exact Or.inl hb
  · obtain ⟨cs, hc⟩ := own_type ho hk
    exact Or.inr ⟨cs, _, (hf.block k hlt hb).symm.trans hc⟩
theorem SB.alloc {B b : Nat} {p : Value} {bs : List Value} {w : World} (h : SB B b p bs w) (o : Obj) : SB B b p bs (w.alloc o) := by
  have hlt := h.lt
  obtain ⟨hB, v, hb, hown, hne⟩ := h
  exact ⟨hB, v, (Lib.alloc_old w o b hlt).trans hb, hown.alloc o, hne⟩
theorem SB.fr {B b : Nat} {p : Value} {bs : List Value} {w w' : World} (h : SB B b p bs w) (f : Fr No w w') : SB B b p bs w' := by
  have hlt := h.lt
  obtain ⟨hB, v, hb, hown, hne⟩ := h
  exact ⟨hB, v, (f.block b hlt (fun x => x)).trans hb, own_fr hown f (fun _ _ x => x), hne⟩
set_option maxHeartbeats 1000000 in
set_option maxRecDepth 100000 in
theorem sb_used (b : Nat) (w : World) (h0 : w.cell? ⟨b, 0, none⟩ = some (selfP b)) :
    Calls Tryz.prog 87 #[selfP b] w fun e w' => e = .returned (.tuple #[]) ∧ w' = w := by
  obtain ⟨j, hj, _⟩ := Option.map_eq_some_iff.1 sb_size
  go_enter Tryz.func87, Tryz.ntmps87
  go_wp2
  rw [Lib.run_neq_ptr_same w _ Tryz.underlying98 hj]
  go_wp2
  go_end0
  exact ⟨rfl, rfl⟩
set_option maxHeartbeats 1000000 in
set_option maxRecDepth 100000 in
theorem sb_fresh (b : Nat) (w : World) (h0 : w.cell? ⟨b, 0, none⟩ = some (.pointer none)) (hsh : w.shape? b = some (101, 2)) (hfz : w.frozen? ⟨b, 0, none⟩ = false) :
    Calls Tryz.prog 87 #[selfP b] w fun e w' => e = .returned (.tuple #[]) ∧ w' = w.setCell ⟨b, 0, none⟩ (selfP b) := by
  obtain ⟨j, hj, hjs⟩ := Option.map_eq_some_iff.1 sb_size
  go_enter Tryz.func87, Tryz.ntmps87
  go_wp2
  rw [Lib.run_to_unsafe w ⟨b, 0, none⟩ Tryz.underlying98 Tryz.underlying224 hj (by rw [hjs]; decide) hsh (Nat.zero_lt_succ 1)]
  simp only [Result.andThen]
  rw [Oper.upon_value]
  go_wp2
  rw [run_callFunc_extern Tryz.func130 (by kernel_rfl) (by kernel_rfl) (by kernel_rfl) (e := Extern.AbiNoEscape.same) (by kernel_rfl)]
  rw [Lib.run_noEscape]
  simp only [Result.andThen]
  rw [Oper.upon_value]
  go_wp2
  rw [Lib.run_from_unsafe w ⟨b, 0, none⟩ Tryz.underlying224 Tryz.underlying98 hj hsh sb_lies]
  simp only [Result.andThen]
  rw [Oper.upon_value]
  go_wp2
  go_end0
  exact ⟨rfl, rfl⟩
theorem sb_copyCheck (B b : Nat) (p : Value) (bs : List Value) (w : World) (hp : p = .pointer none ∨ p = selfP b) (h : SB B b p bs w) :
    Calls Tryz.prog 87 #[selfP b] w fun e w' => e = .returned (.tuple #[]) ∧ SB B b (selfP b) bs w' ∧ Below B w w' ∧ Fr (· = b) w w' := by
  rcases hp with rfl | rfl
  · refine (sb_fresh b w h.cell0 h.shape h.frozen0).mono ?_
    rintro e w' ⟨rfl, rfl⟩
    exact ⟨rfl, h.used _, (Below.refl B w).setCell (p := ⟨b, 0, none⟩) h.1 _, (Fr.refl _ _).setCell (a := ⟨b, 0, none⟩) _ (fun _ => rfl)⟩
  · refine (sb_used b w h.cell0).mono ?_
    rintro e w' ⟨rfl, rfl⟩
    exact ⟨rfl, h, Below.refl B _, Fr.refl _ _⟩
set_option maxHeartbeats 2000000 in
set_option maxRecDepth 100000 in
theorem sb_byte_calls (B b : Nat) (p : Value) (bs : List Value) (c : Int) (w : World) (hp : p = .pointer none ∨ p = selfP b) (h : SB B b p bs w) (hlen : bs.length + 1 ≤ 140737488355328) (hBw : B ≤ w.heap.size) :
    Calls Tryz.prog 94 #[selfP b, .int .u8 c] w fun e w' => e = .returned .nilIface ∧ SB B b (selfP b) (bs ++ [.int .u8 c]) w' ∧ Below B w w' ∧ Fr (SbS b w) w w' := by
  obtain ⟨i0, hi, hz0, hz1, hz2⟩ := info_parts sb_byte
  go_enter Tryz.func94, Tryz.ntmps94
  go_wp2_with fail
  refine (sb_copyCheck B b p bs _ hp h).mono ?_
  rintro e w1 ⟨rfl, h1, hb1, hfr1⟩
  obtain ⟨hB, v, hbk, hown, hne⟩ := h1
  have c0 : w1.cell? ⟨b, 0, none⟩ = some (selfP b) := by rw [Lib.cell_of_heap hbk]; rfl
  have c1 : w1.cell? ⟨b, 1, none⟩ = some v := by rw [Lib.cell_of_heap hbk]; rfl
  go_wp2_with (at_builtin; refine wpList_append_own _ rfl _ _ 99 rfl B 5 i0 (.int .u8 0) 1 1 Tryz.underlying99 hi hz0 hz1 hz2 rfl (by decide) _ _ _ rfl (hown.alloc _) ⟨w1.heap.size, 0, none⟩ 1 1 [.int .u8 c] rfl rfl ?c1 ?c2 ?c3 ?c4 ?c5 ?_)
  case c1 => exact new_one w1 (.int .u8 c) _
  case c2 => exact one_cell rfl
  case c3 => unfold maxLen; omega
  case c4 => omega
  case c5 => have := hb1.size; simp; omega
  intro v' w2 hown' hgrow _
  have hlt : b < w1.heap.size := Blk.lt (show Blk w1 b _ from hbk)
  have hb2 : w2.heap[b]? = some (.cells #[selfP b, v] 101 (0, 0)) := by
    rw [hgrow.block b (by simp; omega) (fun e => hne e.symm), Lib.alloc_old w1 _ b hlt]
    exact hbk
  have d1 : w2.cell? ⟨b, 1, none⟩ = some v := by rw [Lib.cell_of_heap hb2]; rfl
  have f1 : w2.frozen? ⟨b, 1, none⟩ = false := Lib.frozen_of_heap hb2 1
  obtain ⟨a', c', rfl⟩ := own_form hown'
  go_wp2
  go_ret
  refine ⟨rfl, ?_, ?_, ?_⟩
  · exact Lib.BuilderAt.put (T := 101) (e := 5) hB hb2 (bs' := bs ++ [.int .u8 c]) (by simpa using hown') (by decide)
  · exact ((hb1.alloc (by have := hb1.size; omega) _).grown hgrow (by have := hb1.size; simp; omega) (fun k hk => (hown.lt k hk).1)).setCell (p := ⟨b, 1, none⟩) hB _
  · exact (((hfr1.mono (fun k _ hk => (Or.inl hk : SbS b w k))).alloc _).grown hgrow (sbs_row hfr1 hown)).setCell (a := ⟨b, 1, none⟩) _ (fun _ => Or.inl rfl)
set_option maxHeartbeats 2000000 in
set_option maxRecDepth 100000 in
theorem sb_str_calls (B b : Nat) (p : Value) (bs : List Value) (s : ByteArray) (w : World) (hp : p = .pointer none ∨ p = selfP b) (h : SB B b p bs w) (hlen : bs.length + s.size ≤ 140737488355328) (hBw : B ≤ w.heap.size) :
    Calls Tryz.prog 43 #[selfP b, .string s] w fun e w' => e = .returned (.tuple #[.int .i64 s.size, .nilIface]) ∧ SB B b (selfP b) (bs ++ Lib.strCells s) w' ∧ Below B w w' ∧ Fr (SbS b w) w w' := by
  obtain ⟨i0, hi, hz0, hz1, hz2⟩ := info_parts sb_byte
  go_enter Tryz.func43, Tryz.ntmps43
  go_wp2_with fail
  refine (sb_copyCheck B b p bs _ hp h).mono ?_
  rintro e w1 ⟨rfl, h1, hb1, hfr1⟩
  obtain ⟨hB, v, hbk, hown, hne⟩ := h1
  have c0 : w1.cell? ⟨b, 0, none⟩ = some (selfP b) := by rw [Lib.cell_of_heap hbk]; rfl
  have c1 : w1.cell? ⟨b, 1, none⟩ = some v := by rw [Lib.cell_of_heap hbk]; rfl
  go_wp2_with (at_builtin; refine Lib.wpList_append_own_string _ rfl _ _ 99 9 rfl B 5 i0 Tryz.underlying99 Tryz.underlying9 hi hz0 hz1 hz2 _ _ _ rfl hown s rfl ?c3 ?c4 ?c5 ?_)
  case c3 => unfold maxLen; omega
  case c4 => omega
  case c5 => have := hb1.size; omega
  intro v' w2 hown' hgrow _
  have hlt : b < w1.heap.size := Blk.lt (show Blk w1 b _ from hbk)
  have hb2 : w2.heap[b]? = some (.cells #[selfP b, v] 101 (0, 0)) := by
    rw [hgrow.block b hlt (fun e => hne e.symm)]
    exact hbk
  have d1 : w2.cell? ⟨b, 1, none⟩ = some v := by rw [Lib.cell_of_heap hb2]; rfl
  have f1 : w2.frozen? ⟨b, 1, none⟩ = false := Lib.frozen_of_heap hb2 1
  obtain ⟨a', c', rfl⟩ := own_form hown'
  go_wp2
  go_ret2
  refine ⟨rfl, ?_, ?_, ?_⟩
  · exact Lib.BuilderAt.put (T := 101) (e := 5) hB hb2 (bs' := bs ++ Lib.strCells s) (by simpa [Lib.strCells_length] using hown') (by decide)
  · exact (hb1.grown hgrow (by have := hb1.size; omega) (fun k hk => (hown.lt k hk).1)).setCell (p := ⟨b, 1, none⟩) hB _
  · exact ((hfr1.mono (fun k _ hk => (Or.inl hk : SbS b w k))).grown hgrow (sbs_row hfr1 hown)).setCell (a := ⟨b, 1, none⟩) _ (fun _ => Or.inl rfl)
end Go.Proofs.YtlklijpjacmgpaaGreatDoor

