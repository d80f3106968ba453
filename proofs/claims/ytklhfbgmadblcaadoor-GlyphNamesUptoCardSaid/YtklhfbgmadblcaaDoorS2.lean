/- The program's Join. -/
import Derived.Test.YtklhfbgmadblcaaDoorS1
import Derived.Test.YtklhfbgmadblcaaDoorP4
namespace Go.Proofs.YtklhfbgmadblcaaDoor
open Go.RowKit
set_option linter.unusedVariables false
set_option linter.unusedSimpArgs false

theorem joinT_snoc : ∀ (l : List Tok) (x : Tok), joinT (l ++ [x]) = joinT l ++ ((if l = [] then [] else [32]) ++ x.text)
  | [], x => by simp [joinT]
  | [y], x => by simp [joinT]
  | y :: z :: l, x => by
    have := joinT_snoc (z :: l) x
    simp only [List.cons_append] at this ⊢
    simp only [joinT, this]
    simp
theorem joinT_take (l : List Tok) (k : Nat) (x : Tok) (h : l[k]? = some x) : joinT (l.take (k + 1)) = joinT (l.take k) ++ ((if k = 0 then [] else [32]) ++ x.text) := by
  have hk : k < l.length := (List.getElem?_eq_some_iff.1 h).1
  rw [List.take_add_one, h, Option.toList_some, joinT_snoc]
  congr 2
  by_cases h0 : k = 0
  · subst h0; simp
  · rw [if_neg h0, if_neg (by intro e; have h2 := congrArg List.length e; rw [List.length_take, Nat.min_eq_left (by omega)] at h2; exact h0 h2)]
theorem joinT_le (l : List Tok) (k : Nat) : (joinT (l.take k)).length ≤ (joinT l).length := by
  induction h : l.length - k generalizing k with
  | zero => rw [List.take_of_length_le (by omega)]; exact Nat.le_refl _
  | succ n ih =>
    have hk : k < l.length := by omega
    have := ih (k + 1) (by omega)
    rw [joinT_take l k _ (List.getElem?_eq_getElem hk)] at this
    simp only [List.length_append] at this
    omega

set_option maxRecDepth 100000 in
set_option maxHeartbeats 2000000 in
theorem Join_calls (l : List Tok) (B : Nat) (a : Option Addr) (c : Nat) (w : World) (hl : l.length ≤ 1000000000000) (hj : (joinT l).length ≤ 140737488355328) (h : w.ownsRow B 37 6 (.slice a l.length c) l.length (toksV l)) :
    Calls Tryd.prog 29 #[.slice a l.length c] w fun e w' => e = .returned (.string ⟨(joinT l).toArray⟩) ∧ Fr No w w' := by
  go_enter Tryd.func29, Tryd.ntmps29
  go_wp2_with fail
  have hf0 := (Fr.refl No w).alloc (.cells #[.pointer none, .slice none 0 0] 79)
  have hb0 : SB w.heap.size w.heap.size (.pointer none) (Lib.byteCells (joinT (l.take 0))) (w.alloc (.cells #[.pointer none, .slice none 0 0] 79)) :=
    ⟨Nat.le_refl _, .slice none 0 0, heap_alloc_new w _, by simp [joinT, Lib.byteCells]; exact World.ownsRow_nil _ _ _ _, by simp [Value.ownBlock]⟩
  go_loopw [8] (fun i wr => ∃ (k : Nat) (p : Value), k ≤ l.length ∧ i = .int .i64 k ∧ (p = .pointer none ∨ p = selfP w.heap.size) ∧ SB w.heap.size w.heap.size p (Lib.byteCells (joinT (l.take k))) wr ∧ Fr No w wr) (fun i _ => l.length - (intOf i).toNat)
  case atStart => exact ⟨0, _, by omega, rfl, Or.inl rfl, hb0, hf0⟩
  case round =>
    obtain ⟨k, p, hk, rfl, hp, hb, hf⟩ := hrel
    clear hb0 hf0
    by_cases hlt : k < l.length
    · have ho := own_fr h hf (fun _ _ x => x)
      rcases own_cases ho with ⟨_, hn0, _⟩ | ⟨g, d, hs1, hgB, hgl, _⟩
      · omega
      simp only [Value.slice.injEq] at hs1
      obtain ⟨rfl, _, rfl⟩ := hs1
      obtain ⟨x, hx⟩ : ∃ x, l[k]? = some x := ⟨l[k], List.getElem?_eq_getElem hlt⟩
      obtain ⟨p0, p1, p2, p3, p4, p5⟩ := tok_at ho hx
      have hjt := joinT_take l k x hx
      have hjl := joinT_le l (k + 1)
      have HJ := Lib.hid (And.intro hjt hjl)
      clear hx hjt hjl
      have i0 : (0 : Int) ≤ (k : Int) := by omega
      have i1 : (k : Int) < (l.length : Int) := by omega
      have tb := Blk.new wr (.cells #[.int .i64 x.kind, .string ⟨x.text.toArray⟩, .int .i64 x.at_.b, .int .i64 x.at_.g, .int .i64 x.at_.l, .int .i64 x.at_.c] 37 (0, 0))
      have hb1 := hb.alloc (.cells #[.int .i64 x.kind, .string ⟨x.text.toArray⟩, .int .i64 x.at_.b, .int .i64 x.at_.g, .int .i64 x.at_.l, .int .i64 x.at_.c] 37 (0, 0))
      have hf1 := hf.alloc (.cells #[.int .i64 x.kind, .string ⟨x.text.toArray⟩, .int .i64 x.at_.b, .int .i64 x.at_.g, .int .i64 x.at_.l, .int .i64 x.at_.c] 37 (0, 0))
      have hs1 := hf1.size
      have hxs : (⟨x.text.toArray⟩ : ByteArray).size = x.text.length := by rw [Lib.size_eq]
      have HXS := Lib.hid hxs
      have hj1 : (joinT (l.take k)).length + 1 + x.text.length ≤ 140737488355328 ∨ k = 0 := by
        by_cases h0 : k = 0
        · exact Or.inr h0
        · have h1 := congrArg List.length HJ.out.1
          have h2 := HJ.out.2
          rw [if_neg h0] at h1
          simp at h1
          exact Or.inl (by omega)
      have hj0 : (joinT (l.take k)).length + x.text.length ≤ 140737488355328 := by
        have h1 := congrArg List.length HJ.out.1
        have h2 := HJ.out.2
        simp only [List.length_append] at h1
        omega
      have hbl := hb.lt
      clear hb hf hxs
      by_cases h0 : k = 0
      · have hz : decide (0 < k) = false := by simp; omega
        have HK := Lib.hid h0
        clear h0 hj1
        go_wp2_with fail
        refine (sb_str_calls _ _ p _ ⟨x.text.toArray⟩ _ hp hb1 (by rw [Lib.byteCells_length, HXS.out]; exact hj0) hs1).mono ?_
        rintro e w2 ⟨rfl, hb2, hlow2, _⟩
        have hf2 : Fr No w w2 := hf1.below.trans hlow2 |> Fr.of_below
        go_wp2
        go_roundw
        case rel =>
          refine ⟨k + 1, _, by omega, by go_num, Or.inr rfl, ?_, hf2⟩
          rw [HJ.out.1, if_pos HK.out]
          simpa [Lib.byteCells, Lib.strCells] using hb2
        case measure => simp [intOf]; omega
      · have hz : decide (0 < k) = true := by simp; omega
        have HK := Lib.hid h0
        have hj2 := hj1.resolve_right h0
        clear h0 hj1
        go_wp2_with fail
        refine (sb_byte_calls _ _ p _ 32 _ hp hb1 (by rw [Lib.byteCells_length]; omega) hs1).mono ?_
        rintro e w2 ⟨rfl, hb2, hlow2, hfb⟩
        have hf2 : Fr No w w2 := hf1.below.trans hlow2 |> Fr.of_below
        have hs2 := hf2.size
        have hne : wr.heap.size ≠ w.heap.size := by omega
        have tb2 := tb.fr hfb (by
          rintro (h | ⟨cs, f, h⟩)
          · exact hne h
          · have h' := tb.symm.trans h
            simp at h')
        have tc := Blk.all tb2
        go_wp2_with fail
        refine (sb_str_calls _ _ _ _ ⟨x.text.toArray⟩ _ (Or.inr rfl) hb2 (by rw [List.length_append, Lib.byteCells_length, HXS.out]; exact hj2) hs2).mono ?_
        rintro e w3 ⟨rfl, hb3, hlow3, _⟩
        have hf3 : Fr No w w3 := hf2.below.trans hlow3 |> Fr.of_below
        go_wp2
        go_roundw
        case rel =>
          refine ⟨k + 1, _, by omega, by go_num, Or.inr rfl, ?_, hf3⟩
          rw [HJ.out.1, if_neg HK.out]
          simpa [Lib.byteCells, Lib.strCells] using hb3
        case measure => simp [intOf]; omega
    · obtain rfl : k = l.length := by omega
      rw [List.take_length] at hb
      have hs0 := hf.size
      go_wp2_with fail
      refine (Tryd.Builder_String_any _ _ _ _ (by rcases hp with rfl | rfl; exact Or.inl hb; exact Or.inr hb) hs0).mono ?_
      rintro e w2 ⟨rfl, hlow⟩
      go_wp2
      go_ret
      exact ⟨rfl, hf.below.trans hlow |> Fr.of_below⟩
end Go.Proofs.YtklhfbgmadblcaaDoor
