/- Lines: the closure that lays a line behind the others. -/
import Derived.Test.YtjmjdmmojgmcdaaDoorNC
import Derived.Maps.AppendAt
namespace Go.Proofs.YtjmjdmmojgmcdaaDoor
open Go.RowKit
set_option linter.unusedVariables false
set_option linter.unusedSimpArgs false
attribute [local go_sem ↓] Go.wp_at_zero Go.wp_at_succ

/-- a line: its kind, how deep it stands, its head, its place -/
structure Ln where
  kind : Int
  depth : Nat
  text : List UInt8
  at_ : Pl
def lnC (x : Ln) : List Value := [.int .i64 x.kind, .int .i64 x.depth, .string ⟨x.text.toArray⟩, .int .i64 x.at_.b, .int .i64 x.at_.g, .int .i64 x.at_.l, .int .i64 x.at_.c]
def lnsC (l : List Ln) : List Value := l.flatMap lnC
def LnOwn (w : World) (B : Nat) (v : Value) (l : List Ln) : Prop := w.ownsRow B 90 7 v l.length (lnsC l)
def outO (v : Value) : Obj := .cells #[v] 45 (0, 0)
def depO (d : Nat) : Obj := .cells #[.int .i64 d] 3 (0, 0)
theorem lnC_one (x : Ln) : ∀ u ∈ lnC x, u.oneCell' = true := by
  intro u hu
  simp only [lnC, List.mem_cons, List.not_mem_nil, or_false] at hu
  rcases hu with rfl | rfl | rfl | rfl | rfl | rfl | rfl <;> rfl
theorem lnsC_snoc (l : List Ln) (x : Ln) : lnsC (l ++ [x]) = lnsC l ++ lnC x := by simp [lnsC]
theorem info_line : (Tryd.prog.info? 90).map (fun i => (i.zero, i.size, i.bytes)) = some (some (.agg #[.int .i64 0, .int .i64 0, .string ⟨#[]⟩, .int .i64 0, .int .i64 0, .int .i64 0, .int .i64 0]), 7, 64) := by kernel_rfl
set_option maxRecDepth 100000 in
set_option maxHeartbeats 4000000 in
theorem lines1_calls {w : World} {B bo bd : Nat} {v : Value} {l : List Ln} {x : Ln} (ho : LnOwn w B v l) (hbo : Blk w bo (outO v)) (hbd : Blk w bd (depO x.depth)) (hne : bo ≠ bd) (hl : l.length ≤ 100000) (hB : B ≤ w.heap.size) :
    Calls Tryd.prog 70 #[.int .i64 x.kind, .string ⟨x.text.toArray⟩, .agg (plA x.at_), .pointer (some ⟨bo, 0, none⟩), .pointer (some ⟨bd, 0, none⟩)] w fun e w' =>
      e = .returned (.tuple #[]) ∧ ∃ v', LnOwn w' B v' (l ++ [x]) ∧ Blk w' bo (outO v') ∧ Fr (fun j => j = bo ∨ v.ownBlock = some j) w w' ∧ (∀ k, v'.ownBlock = some k → v.ownBlock = some k ∨ w.heap.size ≤ k) := by
  obtain ⟨i0, hi, hz0, hz1, hz2⟩ := info_parts info_line
  obtain ⟨a, cap, rfl⟩ := own_form ho
  have ho' : w.ownsRow B 90 7 (.slice a l.length cap) l.length (lnsC l) := ho
  have R := Blk.all hbo
  have Z := Blk.frees hbo
  have R2 := Blk.all hbd
  have Z2 := Blk.frees hbd
  have hlt1 := hbo.lt
  have hlt2 := hbd.lt
  go_enter Tryd.func70, Tryd.ntmps70
  go_upto_region 1 with (fail)
  have hb1 := hbo.alloc (.cells (plA x.at_) 26 (0, 0))
  have hb2 := hbd.alloc (.cells (plA x.at_) 26 (0, 0))
  have hb3 := Blk.new w (plO x.at_)
  have ho1 := ho'.alloc (.cells (plA x.at_) 26 (0, 0))
  have hf1 : Fr No w (w.alloc (.cells (plA x.at_) 26 (0, 0))) := (Fr.refl No w).alloc _
  have hs1 : (w.alloc (.cells (plA x.at_) 26 (0, 0))).heap.size = w.heap.size + 1 := by simp
  change Blk (w.alloc (.cells (plA x.at_) 26 (0, 0))) w.heap.size (plO x.at_) at hb3
  clear R Z R2 Z2
  generalize w.alloc (.cells (plA x.at_) 26 (0, 0)) = w1 at *
  generalize hg : w.heap.size = g at *
  have HG := Lib.hid hg
  clear hg
  have R := Blk.all hb1
  have Z := Blk.frees hb1
  have R2 := Blk.all hb2
  have R3 := Blk.all hb3
  have hlt3 := hb3.lt
  have HS := Lib.hid hs1
  clear hs1
  go_wp2_with ((at_builtin; go_loud (refine wpList_append_own_at _ rfl _ _ 45 rfl B 90 i0 (.agg #[.int .i64 0, .int .i64 0, .string ⟨#[]⟩, .int .i64 0, .int .i64 0, .int .i64 0, .int .i64 0]) 7 64 Tryd.underlying45 hi hz0 hz1 hz2 rfl (by decide) _ _ _ rfl (ho1.alloc _) ⟨w1.heap.size, 0, none⟩ 1 1 (lnC x) rfl rfl ?c1 ?c2 ?c3 ?c4 ?c5 ?_; (case c1 => exact new_row _ _ _); (case c2 => exact lnC_one _); (case c3 => (unfold maxLen; omega)); (case c4 => omega); (case c5 => (have := HS.out; simp; omega)); intro v6 w6 hown6 hgr6 _ hat6; obtain ⟨a6, c6, rfl⟩ := own_form hown6; have f16 : Fr (fun j => (Value.slice a l.length cap).ownBlock = some j) w1 w6 := (((Fr.refl _ w1).alloc _).grown hgr6 (fun j hj _ => hj)); have hb6 := hb1.fr f16 (fun e => own_ne ho1 hb1 (by decide) e); have R6 := Blk.all hb6; have Z6 := Blk.frees hb6)))
  go_end0
  have hfk := (Fr.refl (· = bo) w6).setCell (a := ⟨bo, 0, none⟩) (.slice a6 (l.length + 1) c6) (fun _ => rfl)
  refine ⟨rfl, .slice a6 (l.length + 1) c6, ?_, ?_, ?_, ?_⟩
  · unfold LnOwn
    rw [lnsC_snoc, List.length_append]
    exact own_fr hown6 hfk (fun k hk e => own_ne hown6 hb6 (by decide) (e ▸ hk))
  · exact hb6.setOff 0 _
  · exact ((Fr.ofNo hf1).call f16 (fun k _ e => Or.inr e)).call hfk (fun k _ e => Or.inl e)
  · intro k hk
    rcases hat6 with h6 | h6
    · exact Or.inl (h6 ▸ hk)
    · rw [h6] at hk
      have := HS.out
      have := HG.out
      simp at hk
      exact Or.inr (by omega)
set_option maxRecDepth 100000 in
set_option maxHeartbeats 2000000 in
theorem place_calls {w : World} (p : Pl) : Calls Tryd.prog 119 #[.agg (plA p)] w fun e w' => e = .returned (.agg (plA p)) ∧ Fr No w w' := by
  go_enter Tryd.func119, Tryd.ntmps119
  unfold plA
  go_wp2_with fail
  have hb := Blk.new (w.alloc (.cells (plA p) 126 (0, 0))) (plO p)
  rw [show (w.alloc (.cells (plA p) 126 (0, 0))).heap.size = w.heap.size + 1 by simp] at hb
  exact bodyPost_ret (results_c rfl _ _ (w.heap.size + 1) (plA p) rfl (load_pl hb rfl)) rfl ⟨rfl, ((Fr.refl No w).alloc _).alloc _⟩
end Go.Proofs.YtjmjdmmojgmcdaaDoor
