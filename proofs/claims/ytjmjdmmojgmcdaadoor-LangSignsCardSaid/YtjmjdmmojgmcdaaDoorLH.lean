/- short, assign, mark. -/
import Derived.Test.YtjmjdmmojgmcdaaDoorLG
import Derived.Test.YtjmjdmmojgmcdaaDoorShelf
namespace Go.Proofs.YtjmjdmmojgmcdaaDoor
open Go.RowKit
set_option linter.unusedVariables false
set_option linter.unusedSimpArgs false
attribute [local go_sem ↓] Go.wp_at_zero Go.wp_at_succ

theorem decode_flat {s : ByteArray} {pos c : Nat} {cs : List Nat} (hc : okc c = true) (h : s.data.toList.drop pos = (c :: cs).flatMap enc) : pos < s.size ∧ Utf8.decode s pos = (c, (enc c).length) ∧ s.data.toList.drop (pos + (enc c).length) = cs.flatMap enc := by
  have hl := congrArg List.length h
  have hcp := enc_pos c
  have hsz := Lib.size_eq s
  simp only [List.length_drop, List.flatMap_cons, List.length_append] at hl
  have hlt : pos < s.size := by omega
  refine ⟨hlt, ?_, by rw [← List.drop_drop, h, List.flatMap_cons, List.drop_left]⟩
  obtain ⟨b, r, hbr⟩ : ∃ b r, s.data.toList.drop pos = b :: r := by
    cases hq : s.data.toList.drop pos with
    | nil => rw [hq] at h; have := congrArg List.length h; simp at this; omega
    | cons b r => exact ⟨b, r, rfl⟩
  have h1 := decode_head ⟨(s.data.toList.drop pos).toArray⟩ b r (by simpa using hbr)
  have e : Utf8.decode ⟨(s.data.toList.drop pos).toArray⟩ 0 = Utf8.decode s pos := by
    rw [Lib.decode_at, Lib.decode_at]
    have hs2 : (⟨(s.data.toList.drop pos).toArray⟩ : ByteArray).size = s.size - pos := by rw [Lib.size_eq, Lib.size_eq]; simp
    have hg : ∀ i, (⟨(s.data.toList.drop pos).toArray⟩ : ByteArray).get! i = s.get! (pos + i) := fun i => by
      rw [get_bang, get_bang]; simp
    simp only [hs2, hg, Nat.zero_add, Nat.sub_zero, Nat.add_zero]
  rw [← e, h1, ← hbr, h, List.flatMap_cons, dec_enc hc]
  rfl
theorem cpsOf_eq {x : List UInt8} {cs : List Nat} (hx : x = cs.flatMap enc) (hok : ∀ c ∈ cs, okc c = true) : cpsOf x = cs :=
  (Txt.uniq (Txt.ex x).choose_spec.choose_spec (⟨by simp [hx], hok, rfl⟩ : Txt x cs [])).1
theorem shortS_eq {x : List UInt8} {cs : List Nat} (hx : x = cs.flatMap enc) (hok : ∀ c ∈ cs, okc c = true) : shortS x = (!cs.contains 176 && decide (cs.length < 16)) := by
  unfold shortS
  rw [cpsOf_eq hx hok]

set_option maxRecDepth 100000 in
set_option maxHeartbeats 2000000 in
theorem lshort_calls (x : List UInt8) (cs : List Nat) (hx : x = cs.flatMap enc) (hok : ∀ c ∈ cs, okc c = true) (hl : x.length ≤ 2000) (w : World) :
    Calls Tryd.prog 45 #[.string ⟨x.toArray⟩] w fun e w' => e = .returned (.bool (shortS x)) ∧ Fr No w w' := by
  obtain ⟨R, hR⟩ : ∃ R, shortS x = R := ⟨_, rfl⟩
  rw [hR]
  rw [shortS_eq hx hok] at hR
  obtain ⟨s, hs⟩ : ∃ s : ByteArray, (⟨x.toArray⟩ : ByteArray) = s := ⟨_, rfl⟩
  have hsl : s.data.toList = cs.flatMap enc := by rw [← hs, ← hx]
  have hsz : s.size ≤ 2000 := by rw [← hs, Lib.size_eq]; exact hl
  have hrc := runeCount_of s cs hok hsl
  have hcl := flat_len_le cs
  rw [← hx] at hcl
  rw [hs]
  have HS := Lib.hid (And.intro hsl (And.intro hok (And.intro hR hrc)))
  clear hR hrc hsl hok hs hx
  go_enter Tryd.func45, Tryd.ntmps45
  go_wp2_with fail
  have hit0 := World.iter_heap w s 0
  have hf0 : Fr No w (w.iter s 0) := (Fr.refl No w).alloc _
  go_loopg [] cs.length (fun gk wr => ∃ (pre post : List Nat), cs = pre ++ post ∧ gk = post.length ∧ 176 ∉ pre ∧ wr.heap[w.heap.size]? = some (.stringIter s (pre.flatMap enc).length) ∧ Fr No w wr)
  case atStart => exact ⟨[], cs, rfl, rfl, by simp, hit0, hf0⟩
  case round =>
    obtain ⟨pre, post, hcs, hgk, hnp, hit, hf⟩ := hrel
    clear hit0 hf0
    cases post with
    | nil =>
      have hnx : ∀ ty, (Instr.next (.pointer (some ⟨w.heap.size, 0, none⟩)) true ty).run Tryd.prog wr = _ := fun ty => Lib.run_next_end_at _ _ _ _ ty hit (by rw [Lib.size_eq, HS.out.1, hcs, List.append_nil]; omega)
      have e : R = decide (cs.length < 16) := by
        rw [← HS.out.2.2.1, hcs, List.append_nil]
        simp [hnp]
      have HE := Lib.hid e
      clear e hcs hgk hnp
      go_wp2_with fail
      refine (Tryd.utf8_RuneCountInString s wr (by omega)).mono ?_
      rintro e w2 ⟨rfl, pos, rfl⟩
      rw [HS.out.2.2.2]
      go_wp2_with fail
      go_ret
      exact ⟨by rw [HE.out]; simp; omega, hf.alloc _⟩
    | cons c post =>
      have hokc := HS.out.2.1 c (by rw [hcs]; simp)
      obtain ⟨p, hp⟩ : ∃ p, (pre.flatMap enc).length = p := ⟨_, rfl⟩
      obtain ⟨m, hm⟩ : ∃ m, (enc c).length = m := ⟨_, rfl⟩
      obtain ⟨hlt, hdec, hnext⟩ := decode_flat (s := s) (pos := (pre.flatMap enc).length) (c := c) (cs := post) hokc (by rw [HS.out.1, hcs, List.flatMap_append, List.drop_left])
      rw [hp] at hit hlt hdec
      rw [hm] at hdec
      have hnx : ∀ ty, (Instr.next (.pointer (some ⟨w.heap.size, 0, none⟩)) true ty).run Tryd.prog wr = _ := fun ty => Lib.run_next_any_at _ _ _ _ ty hit hlt
      rw [hdec] at hnx
      simp only at hnx
      have hit2 := Lib.iterAt_heap wr w.heap.size s _ (p + m) hit
      have hf2 : Fr No w (wr.iterAt w.heap.size s (p + m)) := hf.iterAt (fun h => absurd h (Nat.lt_irrefl _)) s _
      have HC := Lib.hid (And.intro hcs (And.intro hgk (And.intro hnp (And.intro hp hm))))
      clear hcs hgk hnp hokc hnext hdec hlt hp hm
      by_cases h176 : c = 176
      · have e : R = false := by
          rw [← HS.out.2.2.1, HC.out.1, h176]
          simp
        have HE := Lib.hid e
        have b1 : ((c : Int) == 176) = true := by rw [h176]; rfl
        clear e h176
        go_wp2_with fail
        go_ret
        exact ⟨by rw [HE.out]; rfl, hf2⟩
      · have b1 : ((c : Int) == 176) = false := by rw [beq_eq_false_iff_ne]; omega
        have H176 := Lib.hid h176
        clear h176
        go_wp2_with fail
        go_roundg post.length
        case measure => rw [HC.out.2.1]; simp
        case rel => exact ⟨pre ++ [c], post, by rw [HC.out.1]; simp, rfl, by simp [HC.out.2.2.1]; exact fun h => H176.out h.symm, by rw [List.flatMap_append, List.length_append, HC.out.2.2.2.1, show ([c].flatMap enc).length = m by rw [← HC.out.2.2.2.2]; simp]; exact hit2, hf2⟩
end Go.Proofs.YtjmjdmmojgmcdaaDoor
