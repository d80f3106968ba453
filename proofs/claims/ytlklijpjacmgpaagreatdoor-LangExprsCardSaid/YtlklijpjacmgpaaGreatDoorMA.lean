/- Printing: parts. -/
import Derived.Test.YtlklijpjacmgpaaGreatDoorLZ
namespace Go.Proofs.YtlklijpjacmgpaaGreatDoor
open Go.RowKit
set_option linter.unusedVariables false
set_option linter.unusedSimpArgs false
attribute [local go_sem ↓] Go.wp_at_zero Go.wp_at_succ

theorem info_rows : (Tryz.prog.info? 76).map (fun i => (i.zero, i.size, i.bytes)) = some (some (.slice none 0 0), 1, 24) := by kernel_rfl
theorem own_new1 {w : World} {B N : Nat} (hN : w.heap.size = N) (hB : B ≤ N) (v0 : Value) (e : TypeId) : (w.alloc (.cells #[v0] e (0, 0))).ownsRow B e 1 (.slice (some ⟨N, 0, none⟩) 1 1) 1 [v0] := by
  subst hN
  exact ⟨rfl, Or.inr ⟨w.heap.size, 1, #[v0], rfl, hB, Blk.new w _, Nat.le_refl _, by unfold maxLen; omega, rfl, rfl⟩⟩
theorem own_new2 {w : World} {B N : Nat} (hN : w.heap.size = N) (hB : B ≤ N) (v0 v1 : Value) (e : TypeId) : (w.alloc (.cells #[v0, v1] e (0, 0))).ownsRow B e 1 (.slice (some ⟨N, 0, none⟩) 2 2) 2 [v0, v1] := by
  subst hN
  exact ⟨rfl, Or.inr ⟨w.heap.size, 2, #[v0, v1], rfl, hB, Blk.new w _, Nat.le_refl _, by unfold maxLen; omega, rfl, rfl⟩⟩
theorem pa_Choose_Set (x : Array Value) (w : World) : (Instr.typeAssert (.iface 220 (.agg x)) 141 163 true).run Tryz.prog w = .ok (.tuple #[.agg #[.int .i64 0, .int .i64 0, .int .i64 0, .int .i64 0, .slice none 0 0], .bool false]) w := by kernel_rfl
theorem pa_Loop_Set (x : Array Value) (w : World) : (Instr.typeAssert (.iface 220 (.agg x)) 141 166 true).run Tryz.prog w = .ok (.tuple #[.agg #[.int .i64 0, .int .i64 0, .int .i64 0, .int .i64 0, .slice none 0 0], .bool false]) w := by kernel_rfl
theorem pa_While_Set (x : Array Value) (w : World) : (Instr.typeAssert (.iface 220 (.agg x)) 141 170 true).run Tryz.prog w = .ok (.tuple #[.agg #[.int .i64 0, .int .i64 0, .int .i64 0, .int .i64 0, .nilIface, .nilIface, .bool false, .slice none 0 0], .bool false]) w := by kernel_rfl
theorem pa_If_Set (x : Array Value) (w : World) : (Instr.typeAssert (.iface 220 (.agg x)) 141 173 true).run Tryz.prog w = .ok (.tuple #[.agg #[.int .i64 0, .int .i64 0, .int .i64 0, .int .i64 0, .nilIface, .nilIface, .bool false, .slice none 0 0, .pointer none], .bool false]) w := by kernel_rfl
theorem pa_Choose_Skip (x : Array Value) (w : World) : (Instr.typeAssert (.iface 204 (.agg x)) 141 163 true).run Tryz.prog w = .ok (.tuple #[.agg #[.int .i64 0, .int .i64 0, .int .i64 0, .int .i64 0, .slice none 0 0], .bool false]) w := by kernel_rfl
theorem pa_Loop_Skip (x : Array Value) (w : World) : (Instr.typeAssert (.iface 204 (.agg x)) 141 166 true).run Tryz.prog w = .ok (.tuple #[.agg #[.int .i64 0, .int .i64 0, .int .i64 0, .int .i64 0, .slice none 0 0], .bool false]) w := by kernel_rfl
theorem pa_While_Skip (x : Array Value) (w : World) : (Instr.typeAssert (.iface 204 (.agg x)) 141 170 true).run Tryz.prog w = .ok (.tuple #[.agg #[.int .i64 0, .int .i64 0, .int .i64 0, .int .i64 0, .nilIface, .nilIface, .bool false, .slice none 0 0], .bool false]) w := by kernel_rfl
theorem pa_If_Skip (x : Array Value) (w : World) : (Instr.typeAssert (.iface 204 (.agg x)) 141 173 true).run Tryz.prog w = .ok (.tuple #[.agg #[.int .i64 0, .int .i64 0, .int .i64 0, .int .i64 0, .nilIface, .nilIface, .bool false, .slice none 0 0, .pointer none], .bool false]) w := by kernel_rfl
theorem pa_Choose_Stop (x : Array Value) (w : World) : (Instr.typeAssert (.iface 205 (.agg x)) 141 163 true).run Tryz.prog w = .ok (.tuple #[.agg #[.int .i64 0, .int .i64 0, .int .i64 0, .int .i64 0, .slice none 0 0], .bool false]) w := by kernel_rfl
theorem pa_Loop_Stop (x : Array Value) (w : World) : (Instr.typeAssert (.iface 205 (.agg x)) 141 166 true).run Tryz.prog w = .ok (.tuple #[.agg #[.int .i64 0, .int .i64 0, .int .i64 0, .int .i64 0, .slice none 0 0], .bool false]) w := by kernel_rfl
theorem pa_While_Stop (x : Array Value) (w : World) : (Instr.typeAssert (.iface 205 (.agg x)) 141 170 true).run Tryz.prog w = .ok (.tuple #[.agg #[.int .i64 0, .int .i64 0, .int .i64 0, .int .i64 0, .nilIface, .nilIface, .bool false, .slice none 0 0], .bool false]) w := by kernel_rfl
theorem pa_If_Stop (x : Array Value) (w : World) : (Instr.typeAssert (.iface 205 (.agg x)) 141 173 true).run Tryz.prog w = .ok (.tuple #[.agg #[.int .i64 0, .int .i64 0, .int .i64 0, .int .i64 0, .nilIface, .nilIface, .bool false, .slice none 0 0, .pointer none], .bool false]) w := by kernel_rfl
theorem pa_Choose_Mark (x : Array Value) (w : World) : (Instr.typeAssert (.iface 222 (.agg x)) 141 163 true).run Tryz.prog w = .ok (.tuple #[.agg #[.int .i64 0, .int .i64 0, .int .i64 0, .int .i64 0, .slice none 0 0], .bool false]) w := by kernel_rfl
theorem pa_Loop_Mark (x : Array Value) (w : World) : (Instr.typeAssert (.iface 222 (.agg x)) 141 166 true).run Tryz.prog w = .ok (.tuple #[.agg #[.int .i64 0, .int .i64 0, .int .i64 0, .int .i64 0, .slice none 0 0], .bool false]) w := by kernel_rfl
theorem pa_While_Mark (x : Array Value) (w : World) : (Instr.typeAssert (.iface 222 (.agg x)) 141 170 true).run Tryz.prog w = .ok (.tuple #[.agg #[.int .i64 0, .int .i64 0, .int .i64 0, .int .i64 0, .nilIface, .nilIface, .bool false, .slice none 0 0], .bool false]) w := by kernel_rfl
theorem pa_If_Mark (x : Array Value) (w : World) : (Instr.typeAssert (.iface 222 (.agg x)) 141 173 true).run Tryz.prog w = .ok (.tuple #[.agg #[.int .i64 0, .int .i64 0, .int .i64 0, .int .i64 0, .nilIface, .nilIface, .bool false, .slice none 0 0, .pointer none], .bool false]) w := by kernel_rfl
theorem pa_Choose_Choose (x : Array Value) (w : World) : (Instr.typeAssert (.iface 163 (.agg x)) 141 163 true).run Tryz.prog w = .ok (.tuple #[.agg x, .bool true]) w := by kernel_rfl
theorem pa_Choose_Loop (x : Array Value) (w : World) : (Instr.typeAssert (.iface 166 (.agg x)) 141 163 true).run Tryz.prog w = .ok (.tuple #[.agg #[.int .i64 0, .int .i64 0, .int .i64 0, .int .i64 0, .slice none 0 0], .bool false]) w := by kernel_rfl
theorem pa_Loop_Loop (x : Array Value) (w : World) : (Instr.typeAssert (.iface 166 (.agg x)) 141 166 true).run Tryz.prog w = .ok (.tuple #[.agg x, .bool true]) w := by kernel_rfl
theorem pa_Choose_If (x : Array Value) (w : World) : (Instr.typeAssert (.iface 173 (.agg x)) 141 163 true).run Tryz.prog w = .ok (.tuple #[.agg #[.int .i64 0, .int .i64 0, .int .i64 0, .int .i64 0, .slice none 0 0], .bool false]) w := by kernel_rfl
theorem pa_Loop_If (x : Array Value) (w : World) : (Instr.typeAssert (.iface 173 (.agg x)) 141 166 true).run Tryz.prog w = .ok (.tuple #[.agg #[.int .i64 0, .int .i64 0, .int .i64 0, .int .i64 0, .slice none 0 0], .bool false]) w := by kernel_rfl
theorem pa_While_If (x : Array Value) (w : World) : (Instr.typeAssert (.iface 173 (.agg x)) 141 170 true).run Tryz.prog w = .ok (.tuple #[.agg #[.int .i64 0, .int .i64 0, .int .i64 0, .int .i64 0, .nilIface, .nilIface, .bool false, .slice none 0 0], .bool false]) w := by kernel_rfl
theorem pa_If_If (x : Array Value) (w : World) : (Instr.typeAssert (.iface 173 (.agg x)) 141 173 true).run Tryz.prog w = .ok (.tuple #[.agg x, .bool true]) w := by kernel_rfl
theorem pa_Choose_While (x : Array Value) (w : World) : (Instr.typeAssert (.iface 170 (.agg x)) 141 163 true).run Tryz.prog w = .ok (.tuple #[.agg #[.int .i64 0, .int .i64 0, .int .i64 0, .int .i64 0, .slice none 0 0], .bool false]) w := by kernel_rfl
theorem pa_Loop_While (x : Array Value) (w : World) : (Instr.typeAssert (.iface 170 (.agg x)) 141 166 true).run Tryz.prog w = .ok (.tuple #[.agg #[.int .i64 0, .int .i64 0, .int .i64 0, .int .i64 0, .slice none 0 0], .bool false]) w := by kernel_rfl
theorem pa_While_While (x : Array Value) (w : World) : (Instr.typeAssert (.iface 170 (.agg x)) 141 170 true).run Tryz.prog w = .ok (.tuple #[.agg x, .bool true]) w := by kernel_rfl
def PartsOut (w : World) (B : Nat) (s : Sm) (e : Ending) (w' : World) : Prop :=
  ∃ a c vs, e = .returned (.tuple #[.slice a (blksOf s).length c, .string ⟨(wordOf s).toArray⟩]) ∧ w'.ownsRow w.heap.size 76 1 (.slice a (blksOf s).length c) (blksOf s).length vs ∧ RowsAre w' B (blksOf s) vs ∧ Fr No w w'
set_option maxRecDepth 100000 in
set_option maxHeartbeats 4000000 in
theorem parts_calls {s : Sm} {v : Value} {B : Nat} {w : World} (h : SmIs w B s v) (hl : (blksOf s).length ≤ 100000) : Calls Tryz.prog 88 #[v] w (PartsOut w B s) := by
  cases s with
  | set p k x e =>
    obtain ⟨x, rfl⟩ : ∃ x, v = .iface 220 (.agg x) := by
      cases e with
      | none => simp only [SmIs] at h; exact ⟨_, h⟩
      | some n => simp only [SmIs] at h; obtain ⟨y, _, h⟩ := h; exact ⟨_, h⟩
    clear h
    have s0 := pa_Choose_Set
    have s1 := pa_Loop_Set
    have s2 := pa_While_Set
    have s3 := pa_If_Set
    go_enter Tryz.func88, Tryz.ntmps88
    go_wp2_with fail
    go_ret2
    exact ⟨none, 0, [], rfl, World.ownsRow_nil _ _ _ _, rfl, Fr.refl _ _⟩
  | skip p =>
    simp only [SmIs] at h
    subst h
    have s0 := pa_Choose_Skip
    have s1 := pa_Loop_Skip
    have s2 := pa_While_Skip
    have s3 := pa_If_Skip
    go_enter Tryz.func88, Tryz.ntmps88
    go_wp2_with fail
    go_ret2
    exact ⟨none, 0, [], rfl, World.ownsRow_nil _ _ _ _, rfl, Fr.refl _ _⟩
  | stop p =>
    simp only [SmIs] at h
    subst h
    have s0 := pa_Choose_Stop
    have s1 := pa_Loop_Stop
    have s2 := pa_While_Stop
    have s3 := pa_If_Stop
    go_enter Tryz.func88, Tryz.ntmps88
    go_wp2_with fail
    go_ret2
    exact ⟨none, 0, [], rfl, World.ownsRow_nil _ _ _ _, rfl, Fr.refl _ _⟩
  | mark p x =>
    simp only [SmIs] at h
    subst h
    have s0 := pa_Choose_Mark
    have s1 := pa_Loop_Mark
    have s2 := pa_While_Mark
    have s3 := pa_If_Mark
    go_enter Tryz.func88, Tryz.ntmps88
    go_wp2_with fail
    go_ret2
    exact ⟨none, 0, [], rfl, World.ownsRow_nil _ _ _ _, rfl, Fr.refl _ _⟩
  | choose p b => 
    simp only [SmIs] at h
    obtain ⟨a, n, c, vs, ho, hb, rfl⟩ := h
    simp only [blksOf, wordOf] at hl ⊢
    obtain ⟨L, hL⟩ : ∃ L, b.toL = L := ⟨_, rfl⟩
    have hget := fun i x (hi : L[i]? = some x) => BlsAre.get b vs i x hb (by rw [hL]; exact hi)
    have hn : n = L.length := by
      have h1 := BlsAre.len b vs hb
      have h2 := ho.1
      rw [hL] at h1
      omega
    rw [hL] at hl
    obtain ⟨i0, hi, hz0, hz1, hz2⟩ := info_parts info_rows
    have s0 := pa_Choose_Choose
    have HH := Lib.hid (And.intro hL (And.intro hget hb))
    clear hL hget hb
    subst hn
    have hf1 := (Fr.refl No w).alloc (.cells #[.int .i64 p.b, .int .i64 p.g, .int .i64 p.l, .int .i64 p.c, .slice a L.length c] 163 (0, 0))
    have ho1 := own_fr ho hf1 (fun _ _ x => x)
    have hsz1 : w.heap.size ≤ (w.alloc (.cells #[.int .i64 p.b, .int .i64 p.g, .int .i64 p.l, .int .i64 p.c, .slice a L.length c] 163 (0, 0))).heap.size := by rw [alloc_size]; omega
    go_enter Tryz.func88, Tryz.ntmps88
    go_wp2_with fail
    go_loopg [18, 5] L.length (fun gk x18 x5 wr => ∃ (k : Nat) (a2 : Option Addr) (c2 : Nat) (rs : List Value), gk = L.length - k ∧ k ≤ L.length ∧ x18 = .int .i64 k ∧ x5 = .slice a2 k c2 ∧ wr.ownsRow w.heap.size 76 1 (.slice a2 k c2) k rs ∧ RowsAre wr B (L.take k) rs ∧ Fr No w wr)
    case atStart => exact ⟨0, none, 0, [], rfl, Nat.zero_le _, rfl, rfl, World.ownsRow_nil _ _ _ _, rfl, hf1⟩
    case round =>
      clear hf1 ho1 hsz1
      obtain ⟨k, a2, c2, rs, hgk, hk, rfl, rfl, hor, hrs, hf⟩ := hrel
      have HG := Lib.hid hgk
      clear hgk
      by_cases hlt : k < L.length
      · obtain ⟨x, hx⟩ : ∃ x, L[k]? = some x := ⟨L[k], List.getElem?_eq_getElem hlt⟩
        obtain ⟨q, a3, n3, c3, bs, q0, q1, q2, q3, q4, q5, q6⟩ := HH.out.2.1 k x hx
        have hor1 := own_fr ho hf (fun _ _ x => x)
        rcases own_cases hor1 with ⟨_, h2, _⟩ | ⟨g, cap, h1, hB, hgl, hcap⟩
        · omega
        · simp only [Value.slice.injEq] at h1
          obtain ⟨rfl, _, rfl⟩ := h1
          have r0 := own_cell hor1 q0
          have r1 := own_cell hor1 q1
          have r2 := own_cell hor1 q2
          have r3 := own_cell hor1 q3
          have r4 := own_cell hor1 q4
          have i1 : (0 : Int) ≤ (k : Int) := by omega
          have i2 : (k : Int) < (L.length : Int) := by omega
          have HXX := Lib.hid (And.intro hx (And.intro q5 q6))
          clear hx q0 q1 q2 q3 q4 q5 q6 hor1
          have hwr := hf.size
          go_wp2_with ((at_builtin; go_loud (refine wpList_append_own _ rfl _ _ 176 rfl w.heap.size 76 i0 (.slice none 0 0) 1 24 Tryz.underlying176 hi hz0 hz1 hz2 rfl (by decide) _ _ _ rfl ((hor.alloc _).alloc _) ⟨wr.heap.size + 1, 0, none⟩ 1 1 [.slice a3 n3 c3] rfl rfl ?c1 ?c2 ?c3 ?c4 ?c5 ?_; (case c1 => (have h := new_one (wr.alloc (.cells #[.int .i64 q.b, .int .i64 q.g, .int .i64 q.l, .int .i64 q.c, .slice a3 n3 c3] 165 (0, 0))) (.slice a3 n3 c3) 76; rwa [alloc_size] at h)); (case c2 => exact one_cell rfl); (case c3 => (unfold maxLen; omega)); (case c4 => omega); (case c5 => (simp; omega)); intro v6 w6 hown6 hgr6 _)))
          obtain ⟨a6, c6, rfl⟩ := own_form hown6
          have f6 : Fr (fun j => (Value.slice a2 k c2).ownBlock = some j) wr w6 := (((Fr.refl _ wr).alloc _).alloc _).grown hgr6 (fun j hj _ => hj)
          have hfw : Fr No w w6 := hf.call f6 (fun j hj e => by have := (hor.lt j e).1; omega)
          have hrs6 := RowsAre.other f6 (fun j _ _ e => by
            obtain ⟨cur, hcur⟩ := own_obj hor e
            exact ⟨_, _, _, hcur, by decide, by decide, by decide⟩) _ _ hrs
          have hsn := RowsAre.snoc (own_fr HXX.out.2.1 hfw (fun _ _ x => x)) (SmsAre.keep hfw (fun _ _ x => x) _ _ HXX.out.2.2) _ _ hrs6
          go_roundg (L.length - (k + 1))
          case measure => rw [HG.out]; omega
          case rel =>
            refine ⟨k + 1, a6, c6, rs ++ [.slice a3 n3 c3], rfl, by omega, by go_num, rfl, hown6, ?_, hfw⟩
            rw [List.take_add_one, HXX.out.1]
            exact hsn
      · obtain rfl : k = L.length := by omega
        have i2 : ¬ ((L.length : Int) < (L.length : Int)) := by omega
        go_wp2_with fail
        go_ret2
        rw [List.take_length] at hrs
        unfold PartsOut
        simp only [blksOf, wordOf]
        rw [HH.out.1]
        exact ⟨a2, c2, rs, rfl, hor, hrs, hf⟩

  | loop p b =>
    simp only [SmIs] at h
    obtain ⟨a, n, c, vs, ho, hs, rfl⟩ := h
    have s0 := pa_Choose_Loop
    have s1 := pa_Loop_Loop
    go_enter Tryz.func88, Tryz.ntmps88
    go_wp2_with fail
    go_ret2
    have hf := ((Fr.refl No w).alloc (.cells #[.int .i64 p.b, .int .i64 p.g, .int .i64 p.l, .int .i64 p.c, .slice a n c] 166 (0, 0))).alloc (.cells #[.slice a n c] 76 (0, 0))
    exact ⟨_, 1, [.slice a n c], rfl, own_new1 (alloc_size _ _) (by omega) _ _, ⟨a, n, c, _, [], rfl, own_fr ho hf (fun _ _ x => x), SmsAre.keep hf (fun _ _ x => x) _ _ hs, rfl⟩, hf⟩
  | iff p l r eq t e =>
    simp only [SmIs] at h
    obtain ⟨y, z, a, n, c, vs, ev, hy, hz, ho, hs, he, rfl⟩ := h
    obtain ⟨ty, xy, rfl⟩ := hy.form
    obtain ⟨tz, xz, rfl⟩ := hz.form
    have s0 := pa_Choose_If
    have s1 := pa_Loop_If
    have s2 := pa_While_If
    have s3 := pa_If_If
    cases e with
    | none =>
      simp only [ElsIs] at he
      subst he
      go_enter Tryz.func88, Tryz.ntmps88
      go_wp2_with fail
      go_ret2
      have hf := ((Fr.refl No w).alloc (.cells #[.int .i64 p.b, .int .i64 p.g, .int .i64 p.l, .int .i64 p.c, .iface ty (.agg xy), .iface tz (.agg xz), .bool eq, .slice a n c, .pointer none] 173 (0, 0))).alloc (.cells #[.slice a n c] 76 (0, 0))
      exact ⟨_, 1, [.slice a n c], rfl, own_new1 (alloc_size _ _) (by omega) _ _, ⟨a, n, c, _, [], rfl, own_fr ho hf (fun _ _ x => x), SmsAre.keep hf (fun _ _ x => x) _ _ hs, rfl⟩, hf⟩
    | some pe b =>
      simp only [ElsIs] at he
      obtain ⟨g, a2, n2, c2, vs2, rfl, hgB, hg, ho2, hs2⟩ := he
      have hgl := hg.lt
      have RG := Blk.all hg
      go_enter Tryz.func88, Tryz.ntmps88
      go_wp2_with fail
      have hN := Blk.new w (.cells #[.int .i64 p.b, .int .i64 p.g, .int .i64 p.l, .int .i64 p.c, .iface ty (.agg xy), .iface tz (.agg xz), .bool eq, .slice a n c, .pointer (some ⟨g, 0, none⟩)] 173 (0, 0))
      have hf1 := (Fr.refl No w).alloc (.cells #[.int .i64 p.b, .int .i64 p.g, .int .i64 p.l, .int .i64 p.c, .iface ty (.agg xy), .iface tz (.agg xz), .bool eq, .slice a n c, .pointer (some ⟨g, 0, none⟩)] 173 (0, 0))
      obtain ⟨W1, hW1⟩ : ∃ W1, w.alloc (.cells #[.int .i64 p.b, .int .i64 p.g, .int .i64 p.l, .int .i64 p.c, .iface ty (.agg xy), .iface tz (.agg xz), .bool eq, .slice a n c, .pointer (some ⟨g, 0, none⟩)] 173 (0, 0)) = W1 := ⟨_, rfl⟩
      obtain ⟨N, hNe⟩ : ∃ N, w.heap.size = N := ⟨_, rfl⟩
      have hsz : W1.heap.size = w.heap.size + 1 := by rw [← hW1]; exact alloc_size _ _
      rw [hW1] at hN hf1 ⊢
      rw [hNe] at hN ⊢
      have HX := Lib.hid (And.intro hW1 (And.intro hNe hsz))
      clear hW1 hNe hsz RG
      have hg1 := hg.fr hf1 (fun x => x)
      have RN : ∀ i, W1.cell? ⟨N, i, none⟩ = (#[.int .i64 p.b, .int .i64 p.g, .int .i64 p.l, .int .i64 p.c, .iface ty (.agg xy), .iface tz (.agg xz), .bool eq, .slice a n c, .pointer (some ⟨g, 0, none⟩)] : Array Value)[i]? := Blk.all hN
      have RG : ∀ i, W1.cell? ⟨g, i, none⟩ = (#[.int .i64 pe.b, .int .i64 pe.g, .int .i64 pe.l, .int .i64 pe.c, .slice a2 n2 c2] : Array Value)[i]? := Blk.all hg1
      go_region
      all_goals go_wp2_with fail
      all_goals go_ret2
      all_goals have hf := hf1.drew.alloc (.cells #[.slice a n c, .slice a2 n2 c2] 76 (0, 0))
      all_goals exact ⟨_, 2, [.slice a n c, .slice a2 n2 c2], rfl, own_new2 rfl (by have := HX.out.2.1; have := HX.out.2.2; show w.heap.size ≤ W1.heap.size; omega) _ _ _, ⟨a, n, c, _, _, rfl, own_fr ho hf (fun _ _ x => x), SmsAre.keep hf (fun _ _ x => x) _ _ hs, ⟨a2, n2, c2, _, [], rfl, own_fr ho2 hf (fun _ _ x => x), SmsAre.keep hf (fun _ _ x => x) _ _ hs2, rfl⟩⟩, hf⟩
  | whil p l r eq b =>
    simp only [SmIs] at h
    obtain ⟨y, z, a, n, c, vs, hy, hz, ho, hs, rfl⟩ := h
    obtain ⟨ty, xy, rfl⟩ := hy.form
    obtain ⟨tz, xz, rfl⟩ := hz.form
    have s0 := pa_Choose_While
    have s1 := pa_Loop_While
    have s2 := pa_While_While
    go_enter Tryz.func88, Tryz.ntmps88
    go_wp2_with fail
    go_ret2
    have hf := ((Fr.refl No w).alloc (.cells #[.int .i64 p.b, .int .i64 p.g, .int .i64 p.l, .int .i64 p.c, .iface ty (.agg xy), .iface tz (.agg xz), .bool eq, .slice a n c] 170 (0, 0))).alloc (.cells #[.slice a n c] 76 (0, 0))
    exact ⟨_, 1, [.slice a n c], rfl, own_new1 (alloc_size _ _) (by omega) _ _, ⟨a, n, c, _, [], rfl, own_fr ho hf (fun _ _ x => x), SmsAre.keep hf (fun _ _ x => x) _ _ hs, rfl⟩, hf⟩

end Go.Proofs.YtlklijpjacmgpaaGreatDoor
