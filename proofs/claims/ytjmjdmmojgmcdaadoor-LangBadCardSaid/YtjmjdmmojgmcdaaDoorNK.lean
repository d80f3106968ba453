/- The walk of LangSigns' own 'written'. -/
import Derived.Test.YtjmjdmmojgmcdaaDoorNL
namespace Go.Proofs.YtjmjdmmojgmcdaaDoor
open Go.RowKit
set_option linter.unusedVariables false
set_option linter.unusedSimpArgs false
attribute [local go_sem ↓] Go.wp_at_zero Go.wp_at_succ

def wF (which : Int) (i : Nat) : Bool := bits .and .i64 (which / 2 ^ (i % 8)) 1 == 1
def wG (which : Int) (i : Nat) : Nat := ((bits .and .i64 (which / 8) 288230376151711743).toNat + i) % 5
theorem and_mask58 (a : Int) : 0 ≤ bits .and .i64 a 288230376151711743 ∧ bits .and .i64 a 288230376151711743 ≤ 288230376151711743 := by
  have h : bits .and .i64 a 288230376151711743 = IntKind.i64.wrap ((BitVec.ofInt 64 a &&& BitVec.ofInt 64 288230376151711743).toNat : Int) := rfl
  have h2 : (BitVec.ofInt 64 a &&& BitVec.ofInt 64 288230376151711743).toNat ≤ 288230376151711743 := by
    rw [BitVec.toNat_and, show (BitVec.ofInt 64 288230376151711743).toNat = 288230376151711743 from rfl]
    exact Nat.and_le_right
  rw [h, IntKind.wrap_i64]
  omega
theorem wG_at (which : Int) (k : Nat) (hk : k ≤ 5000) : (wrap64 (bits .and .i64 (which / 8) 288230376151711743 + (k : Int))).tmod 5 = ((wG which k : Nat) : Int) := by
  obtain ⟨h1, h2⟩ := and_mask58 (which / 8)
  unfold wG
  generalize bits .and .i64 (which / 8) 288230376151711743 = m at *
  obtain ⟨n, rfl⟩ := Int.eq_ofNat_of_zero_le h1
  have h3 : wrap64 ((n : Int) + (k : Int)) = ((n + k : Nat) : Int) := by
    unfold wrap64
    omega
  rw [h3]
  simp only [Int.toNat_natCast]
  rfl
theorem writtenT_snoc (f : Nat → Bool) (g : Nat → Nat) (i : Nat) (l : List Tok) (x : Tok) : writtenT f g i (l ++ [x]) = writtenT f g i l ++ (altW (f (i + l.length)) x.kind x.text ++ sepT (g (i + l.length))) := by
  induction l generalizing i with
  | nil => simp [writtenT]
  | cons y l ih => simp only [List.cons_append, writtenT, ih, List.length_cons, List.append_assoc]; rw [show i + 1 + l.length = i + (l.length + 1) by omega]
theorem sepT_len (j : Nat) : (sepT j).length ≤ 20 := by
  unfold sepT sepC
  split <;> decide
theorem writtenT_len (f : Nat → Bool) (g : Nat → Nat) (i : Nat) (l : List Tok) (h : ∀ x ∈ l, x.text.length ≤ 1024) : (writtenT f g i l).length ≤ 1050 * l.length := by
  induction l generalizing i with
  | nil => simp [writtenT]
  | cons y l ih =>
    have h1 : (altW (f i) y.kind y.text).length ≤ 1024 := by
      unfold altW
      split
      · exact alt_len (h y (by simp))
      · exact h y (by simp)
    have h2 := ih (i + 1) (fun x hx => h x (by simp [hx]))
    have h3 := sepT_len (g i)
    simp only [writtenT, List.length_append, List.length_cons, List.length_nil]
    omega
theorem sepTs : sepT 0 = [32] ∧ sepT 1 = [9] ∧ sepT 2 = [10] ∧ sepT 3 = [32, 35, 32, 97, 110, 100, 59, 32, 115, 111, 32, 125, 10] ∧ sepT 4 = [227, 128, 128] := by decide
set_option maxRecDepth 100000 in
set_option maxHeartbeats 4000000 in
theorem written_calls {w : World} {B : Nat} {v : Value} {l : List Tok} (which : Int) (hw : -9223372036854775808 ≤ which ∧ which ≤ 9223372036854775807) (ho : w.ownsRow B 59 6 v l.length (toksV l)) (htx : ∀ x ∈ l, x.text.length ≤ 1024 ∧ (x.kind = 3 → x.text ∈ signTexts)) (hl : l.length ≤ 5000) :
    Calls Tryd.prog 14 #[v, .int .i64 which] w fun e w' => e = .returned (.string ⟨(writtenT (wF which) (wG which) 0 l).toArray⟩) ∧ Fr No w w' := by
  have HTX := Lib.hid htx
  clear htx
  obtain ⟨a, c, rfl⟩ := own_form ho
  go_enter Tryd.func14, Tryd.ntmps14
  go_wp2_with fail
  go_loopw [5, 6] (fun sv i wr => ∃ k : Nat, k ≤ l.length ∧ i = .int .i64 k ∧ sv = .string ⟨(writtenT (wF which) (wG which) 0 (l.take k)).toArray⟩ ∧ Fr No w wr) (fun _ i _ => l.length - (intOf i).toNat)
  case atStart => exact ⟨0, by omega, rfl, rfl, Fr.refl _ _⟩
  case round =>
    obtain ⟨k, hk, rfl, rfl, hf⟩ := hrel
    rename_i wr _
    by_cases hlt : k < l.length
    · have ho2 := own_fr ho hf (fun _ _ x => x)
      rcases own_cases ho2 with ⟨_, hn0, _⟩ | ⟨g, d, hs1, hgB, hgl, _⟩
      · omega
      simp only [Value.slice.injEq] at hs1
      obtain ⟨rfl, _, rfl⟩ := hs1
      obtain ⟨x, hx⟩ : ∃ x, l[k]? = some x := ⟨l[k], List.getElem?_eq_getElem hlt⟩
      obtain ⟨p0, p1, _, _, _, _⟩ := tok_at ho2 hx
      have hxm := HTX.out x (List.mem_of_getElem? hx)
      have hsz := writtenT_len (wF which) (wG which) 0 (l.take k) (fun y hy => (HTX.out y (List.mem_of_mem_take hy)).1)
      have htl : (l.take k).length = k := by rw [List.length_take]; omega
      have hsn := writtenT_snoc (wF which) (wG which) 0 (l.take k) x
      rw [htl, Nat.zero_add] at hsn
      rw [htl] at hsz
      have htk : l.take (k + 1) = l.take k ++ [x] := by rw [List.take_add_one, hx]; rfl
      rw [← htk] at hsn
      have HSN := Lib.hid hsn
      have HXM := Lib.hid hxm
      clear hsn hx hxm htl htk
      have hxt := HXM.out.1
      have i0 : (0 : Int) ≤ (k : Int) := by omega
      have i1 : (k : Int) < (l.length : Int) := by omega
      have hE := wG_at which k (by omega)
      obtain ⟨j, hj⟩ : ∃ j, wG which k = j := ⟨_, rfl⟩
      have hj5 : j < 5 := by rw [← hj]; unfold wG; omega
      rw [hj] at hE
      have HJ := Lib.hid hj
      clear hj
      go_upto_region 6 with (fail)
      go_cut [7, 32] from 19 to 56 (fun s7 s32 wx => ∃ bb : Bool, s7 = .string ⟨x.text.toArray⟩ ∧ s32 = .bool bb ∧ bb = ((x.kind == 3) && (bits .and .i64 (which / 2 ^ (k % 8)) 1 == 1)) ∧ wx = wr)
      case first =>
        by_cases hk3 : x.kind = 3
        · have hk3' : (x.kind == 3) = true := by simpa using hk3
          clear hk3
          go_wp2_with fail
          all_goals
            go_meet
            exact ⟨_, rfl, rfl, by simp [hk3'], rfl⟩
        · have hk3' : (x.kind == 3) = false := by simpa using hk3
          clear hk3
          go_wp2_with fail
          all_goals
            go_meet
            exact ⟨_, rfl, rfl, by simp [hk3'], rfl⟩
      case rest =>
        obtain ⟨bb, rfl, rfl, hbb, hwc⟩ := hcut
        have HBB := Lib.hid hbb
        clear hbb
        have e : wr = wc := hwc.symm
        subst e
        clear hwc
        apply_assumption
        go_cut [7] from 33 to 56 (fun s7 wx => s7 = .string ⟨(altW (wF which k) x.kind x.text).toArray⟩ ∧ wx = wr)
        case first =>
          cases bb with
          | false =>
            go_wp2_with fail
            go_meet
            refine ⟨?_, rfl⟩
            have h := HBB.out
            have : altW (wF which k) x.kind x.text = x.text := by
              unfold altW alt
              split
              · rename_i h2
                split
                · rename_i h3
                  unfold wF at h2
                  rw [h2, h3] at h
                  cases h
                · rfl
              · rfl
            rw [this]
          | true =>
            have h := HBB.out
            rw [eq_comm, Bool.and_eq_true] at h
            have hk3 : x.kind = 3 := by simpa using h.1
            have hW : wF which k = true := h.2
            have HK := Lib.hid (And.intro hk3 hW)
            have hst := HXM.out.2 hk3
            clear hk3 hW h
            obtain ⟨kd, tx, pp⟩ := x
            simp only [signTexts, List.mem_cons, List.not_mem_nil, or_false] at hst hxt p1
            simp only
            rcases hst with rfl | rfl | rfl | rfl | rfl | rfl | rfl | rfl | rfl | rfl | rfl | rfl | rfl | rfl | rfl | rfl
            all_goals
              go_wp2_with fail
              go_meet
              refine ⟨?_, rfl⟩
              rw [HK.out.2, show kd = 3 from HK.out.1]
              refine congrArg Value.string (congrArg ByteArray.mk ?_)
              decide
        case rest =>
          obtain ⟨rfl, hwc⟩ := hcut
          have e : wr = wc := hwc.symm
          subst e
          clear hwc
          have hal : (altW (wF which k) x.kind x.text).length ≤ 1024 := by
            unfold altW
            split
            · exact alt_len hxt
            · exact hxt
          generalize altW (wF which k) x.kind x.text = y at *
          have hS := sepTs
          have HSS := Lib.hid hS
          clear hS
          rcases (by omega : j = 0 ∨ j = 1 ∨ j = 2 ∨ j = 3 ∨ j = 4) with rfl | rfl | rfl | rfl | rfl
          all_goals
            go_wp2_with fail
            go_roundw
            case measure => simp [intOf]; omega
            case rel =>
              refine ⟨k + 1, by omega, by go_num, congrArg Value.string ((ba3 _ _ _).trans ?_), hf.alloc _⟩
              rw [HSN.out, HJ.out]
              first | done | simp only [HSS.out]
    · obtain rfl : k = l.length := by omega
      rw [List.take_length]
      go_wp2_with fail
      go_ret
      exact ⟨rfl, hf⟩
end Go.Proofs.YtjmjdmmojgmcdaaDoor
