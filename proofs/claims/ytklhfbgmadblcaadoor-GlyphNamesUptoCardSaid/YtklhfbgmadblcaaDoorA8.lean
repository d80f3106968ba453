/- The reference's numbers: Digits. -/
import Derived.Test.YtklhfbgmadblcaaDoorA7
namespace Go.Proofs.YtklhfbgmadblcaaDoor
open Go.RowKit
set_option linter.unusedVariables false
set_option linter.unusedSimpArgs false

/-- what the digits from place k on say -/
def sv (ds : List Nat) (k : Nat) : Nat := valB 10 ((ds.drop k).reverse.map (· - 48))
theorem sv_zero (ds : List Nat) : sv ds 0 = digVal ds := by rw [digVal_val]; rfl
theorem sv_end (ds : List Nat) : sv ds ds.length = 0 := by simp [sv, valB]
theorem sv_step {ds : List Nat} {k : Nat} (h : k < ds.length) : sv ds k = sv ds (k + 1) + 10 ^ (ds.length - (k + 1)) * (ds[k] - 48) := by
  unfold sv
  rw [List.drop_eq_getElem_cons h, List.reverse_cons, List.map_append, valB_append]
  simp [valB]

def DR (ds : List Nat) (k : Nat) (dl : List Nat) (v ten : Nat) : Prop :=
  sv ds k = valB 10000 dl + 10000 ^ dl.length * v ∧ 10 ^ (ds.length - k) = 10000 ^ dl.length * ten ∧ (ten = 1 ∨ ten = 10 ∨ ten = 100 ∨ ten = 1000) ∧ v < ten ∧ (∀ x ∈ dl, x < 10000) ∧ dl.length ≤ ds.length - k

theorem DR.start (ds : List Nat) : DR ds ds.length [] 0 1 := ⟨by rw [sv_end]; simp [valB], by simp, Or.inl rfl, by omega, by simp, by simp⟩

theorem DR.step {ds : List Nat} {k : Nat} {dl : List Nat} {v ten c : Nat} (h : DR ds (k + 1) dl v ten) (hk : k < ds.length) (hc : ds[k] = c) (hd : 48 ≤ c ∧ c ≤ 57) (hten : 10 * ten ≠ 10000) : DR ds k dl (v + ten * (c - 48)) (10 * ten) := by
  obtain ⟨h1, h2, h3, h4, h5, h6⟩ := h
  refine ⟨?_, ?_, by omega, ?_, h5, by omega⟩
  · rw [sv_step hk, h1, h2, hc, Nat.mul_add, Nat.mul_assoc]; omega
  · rw [show ds.length - k = (ds.length - (k + 1)) + 1 by omega, Nat.pow_succ, h2, Nat.mul_assoc, Nat.mul_comm ten 10]
  · rcases h3 with rfl | rfl | rfl | rfl <;> omega
theorem DR.push {ds : List Nat} {k : Nat} {dl : List Nat} {v ten c : Nat} (h : DR ds (k + 1) dl v ten) (hk : k < ds.length) (hc : ds[k] = c) (hd : 48 ≤ c ∧ c ≤ 57) (hten : 10 * ten = 10000) : DR ds k (dl ++ [v + ten * (c - 48)]) 0 1 := by
  obtain ⟨h1, h2, h3, h4, h5, h6⟩ := h
  have e : ten = 1000 := by omega
  subst e
  refine ⟨?_, ?_, Or.inl rfl, by omega, ?_, by simp; omega⟩
  · rw [sv_step hk, h1, h2, hc, valB_append]; simp only [valB, Nat.mul_zero, Nat.add_zero, Nat.mul_add, Nat.mul_assoc]; omega
  · rw [show ds.length - k = (ds.length - (k + 1)) + 1 by omega, Nat.pow_succ, h2]; simp [Nat.pow_succ, Nat.mul_assoc]
  · intro x hx
    simp only [List.mem_append, List.mem_singleton] at hx
    rcases hx with hx | rfl
    · exact h5 x hx
    · omega
theorem DR.fin {ds dl : List Nat} {v ten : Nat} (h : DR ds 0 dl v ten) : trimT (dl ++ [v]) = dig 10000 (digVal ds) := by
  obtain ⟨h1, h2, h3, h4, h5, h6⟩ := h
  rw [trimT_eq (b := 10000) (by omega)]
  · rw [valB_append, ← sv_zero, h1]; simp [valB]
  · intro x hx
    simp only [List.mem_append, List.mem_singleton] at hx
    rcases hx with hx | rfl
    · exact h5 x hx
    · omega

def codesOf (s : ByteArray) : List Nat := s.data.toList.map UInt8.toNat
theorem codesOf_len (s : ByteArray) : (codesOf s).length = s.size := by rw [Lib.size_eq]; simp [codesOf]
theorem codesOf_get {s : ByteArray} {k : Nat} (h : k < s.size) (h' : k < (codesOf s).length) : (codesOf s)[k] = (s[k]).toNat := by
  simp [codesOf]; rfl

/-- the loop's own -/
def DigRel (s : ByteArray) (w wr : World) (k : Nat) (x3 x4 x5 x6 : Value) : Prop :=
  ∃ (dl : List Nat) (v ten : Nat) (a3 : Option Addr) (c3 : Nat), k ≤ s.size ∧ x3 = .slice a3 dl.length c3 ∧ x4 = .int .i64 v ∧ x5 = .int .i64 ten ∧ x6 = .int .i64 ((k : Int) - 1) ∧ DR (codesOf s) k dl v ten ∧
    wr.ownsRow (w.heap.size + 1) 3 1 (.slice a3 dl.length c3) dl.length (i64s dl) ∧ Fr No w wr ∧ Blk wr w.heap.size (.cells #[.bool false, .slice none 0 0] 89 (0, 0))

set_option maxRecDepth 100000 in
set_option maxHeartbeats 2000000 in
theorem Digits_calls (s : ByteArray) (w : World) (hs : s.size ≤ 1000000) (hd : ∀ x ∈ codesOf s, 48 ≤ x ∧ x ≤ 57) :
    Calls Tryd.prog 54 #[.string s] w fun e w' => ∃ a c, e = .returned (nV false (.slice a (dig 10000 (digVal (codesOf s))).length c)) ∧
      w'.ownsRow w.heap.size 3 1 (.slice a (dig 10000 (digVal (codesOf s))).length c) (dig 10000 (digVal (codesOf s))).length (i64s (dig 10000 (digVal (codesOf s)))) ∧ Fr No w w' := by
  obtain ⟨i0, hi, hz0, hz1, hz2⟩ := info_parts info_int
  have hcl := codesOf_len s
  have HCL := Lib.hid hcl
  have HD := Lib.hid hd
  clear hd hcl
  go_enter Tryd.func54, Tryd.ntmps54
  go_wp2_with fail
  go_loopg [3, 4, 5, 6] s.size (fun r x3 x4 x5 x6 wr => ∃ k, r = k ∧ DigRel s w wr k x3 x4 x5 x6)
  case atStart => exact ⟨s.size, rfl, [], 0, 1, none, 0, Nat.le_refl _, rfl, rfl, rfl, rfl, by have := DR.start (codesOf s); rw [HCL.out] at this; exact this, World.ownsRow_nil _ _ _ _, (Fr.refl No w).alloc _, Blk.new _ _⟩
  case round =>
    obtain ⟨k, hr, dl, v, ten, a3, c3, hk, rfl, rfl, rfl, rfl, hD, ho, hf, hblk⟩ := hrel
    have HR := Lib.hid hr
    have hdl : dl.length ≤ s.size := by have := hD.2.2.2.2.2; have := HCL.out; omega
    have h3 := hD.2.2.1
    have hvt := hD.2.2.2.1
    have hv : v < 1000 := by omega
    have HDR := Lib.hid hD
    have HV := Lib.hid hvt
    clear hr hD hvt
    have hlt3 := ho.lt
    have HT := Lib.hid hlt3
    clear hlt3
    cases k with
    | zero =>
      clear h3
      go_wp2_with ((at_builtin; refine wpList_append_own _ rfl _ _ 47 rfl (w.heap.size + 1) 3 i0 (.int .i64 0) 1 8 Tryd.underlying47 hi hz0 hz1 hz2 rfl (by decide) _ _ _ rfl (ho.alloc _) ⟨wr.heap.size, 0, none⟩ 1 1 [.int .i64 (v : Int)] rfl rfl ?c1 ?c2 ?c3 ?c4 ?c5 ?_; (case c1 => exact new_one _ _ _); (case c2 => exact one_cell rfl); (case c3 => (unfold maxLen; omega)); (case c4 => omega); (case c5 => (have := hblk.lt; simp; omega)); intro v6 w6 hown6 hgr6 _))
      obtain ⟨a6, c6, rfl⟩ := own_form hown6
      have hown7 : w6.ownsRow (w.heap.size + 1) 3 1 (.slice a6 (dl.length + 1) c6) (dl ++ [v]).length (i64s (dl ++ [v])) := by
        have := hown6
        simp only [i64s, List.map_append, List.map_cons, List.map_nil, List.length_append, List.length_cons, List.length_nil] at this ⊢
        exact this
      have hblk6 : Blk w6 w.heap.size (.cells #[.bool false, .slice none 0 0] 89 (0, 0)) :=
        (hgr6.block _ (hblk.alloc _).lt (fun e => by have := (HT.out _ e.symm).1; omega)).trans (hblk.alloc _)
      have hf6 : Fr No w w6 := (hf.alloc _).grown hgr6 (fun k hk hlt => by have := (HT.out _ hk).1; omega)
      refine (made_false (w.heap.size + 1) _ (dl ++ [v]) _ (by simp; omega) hown7).mono ?_
      rintro e w7 ⟨a7, c7, rfl, ho7, hb7, hf7⟩
      have hblk7 := hblk6.fr hf7 (fun x => x)
      have g0 := hblk7.cell 0 _ rfl
      have g1 := hblk7.cell 1 _ rfl
      have f0 := hblk7.free 0
      have f1 := hblk7.free 1
      go_wp2_with fail
      have hq := HDR.out.fin
      rw [hq] at ho7 hb7 ⊢
      have hne : (Value.slice a7 (dig 10000 (digVal (codesOf s))).length c7).ownBlock ≠ some w.heap.size := fun hk => by
        have := (ho7.lt _ hk).1; omega
      refine bodyPost_ret (v := nV false (.slice a7 (dig 10000 (digVal (codesOf s))).length c7)) (by simp [results, Tryd.results54, go_sem, g0, g1, f0, f1]) rfl ⟨a7, c7, rfl, ?_, ?_⟩
      · exact own_mono (ownsRow_setCell_other (ownsRow_setCell_other ho7 hne _) hne _) (by omega)
      · exact ((hf6.callNo hf7).setCell _ (fun hh => absurd hh (Nat.lt_irrefl _))).setCell _ (fun hh => absurd hh (Nat.lt_irrefl _))
    | succ k =>
      have hlt : k < s.size := by omega
      have hb := HD.out _ (List.getElem_mem (l := codesOf s) (n := k) (by rw [HCL.out]; exact hlt))
      have hu := (s[k]).toNat_lt
      rw [codesOf_get hlt] at hb
      have HST := Lib.hid (fun hne => HDR.out.step (c := (s[k]).toNat) (by rw [HCL.out]; exact hlt) (codesOf_get hlt _) hb hne)
      rcases h3 with rfl | rfl | rfl | rfl
      · go_wp2_with fail
        go_roundg k
        case measure => have := HR.out; omega
        case rel => exact ⟨k, rfl, dl, v + 1 * ((s[k]).toNat - 48), 10 * 1, a3, c3, by omega, rfl, congrArg (Value.int .i64) (by omega), rfl, by go_num, HST.out (by omega), ho, hf, hblk⟩
      · go_wp2_with fail
        go_roundg k
        case measure => have := HR.out; omega
        case rel => exact ⟨k, rfl, dl, v + 10 * ((s[k]).toNat - 48), 10 * 10, a3, c3, by omega, rfl, congrArg (Value.int .i64) (by omega), rfl, by go_num, HST.out (by omega), ho, hf, hblk⟩
      · go_wp2_with fail
        go_roundg k
        case measure => have := HR.out; omega
        case rel => exact ⟨k, rfl, dl, v + 100 * ((s[k]).toNat - 48), 10 * 100, a3, c3, by omega, rfl, congrArg (Value.int .i64) (by omega), rfl, by go_num, HST.out (by omega), ho, hf, hblk⟩
      · have HP := Lib.hid (HDR.out.push (c := (s[k]).toNat) (by rw [HCL.out]; exact hlt) (codesOf_get hlt _) hb rfl)
        go_wp2_with ((at_builtin; refine wpList_append_own _ rfl _ _ 47 rfl (w.heap.size + 1) 3 i0 (.int .i64 0) 1 8 Tryd.underlying47 hi hz0 hz1 hz2 rfl (by decide) _ _ _ rfl (ho.alloc _) ⟨wr.heap.size, 0, none⟩ 1 1 [.int .i64 ((v : Int) + 1000 * (((s[k]).toNat : Int) - 48))] rfl rfl ?c1 ?c2 ?c3 ?c4 ?c5 ?_; (case c1 => exact new_one _ _ _); (case c2 => exact one_cell rfl); (case c3 => (unfold maxLen; omega)); (case c4 => omega); (case c5 => (have := hblk.lt; simp; omega)); intro v6 w6 hown6 hgr6 _))
        obtain ⟨a6, c6, rfl⟩ := own_form hown6
        have e6 : ((v : Int) + 1000 * (((s[k]).toNat : Int) - 48)) = ((v + 1000 * ((s[k]).toNat - 48) : Nat) : Int) := by omega
        have hown7 : w6.ownsRow (w.heap.size + 1) 3 1 (.slice a6 (dl.length + 1) c6) (dl ++ [v + 1000 * ((s[k]).toNat - 48)]).length (i64s (dl ++ [v + 1000 * ((s[k]).toNat - 48)])) := by
          have := hown6
          rw [e6] at this
          simp only [i64s, List.map_append, List.map_cons, List.map_nil, List.length_append, List.length_cons, List.length_nil] at this ⊢
          exact this
        have hblk6 : Blk w6 w.heap.size (.cells #[.bool false, .slice none 0 0] 89 (0, 0)) :=
          (hgr6.block _ (hblk.alloc _).lt (fun e => by have := (HT.out _ e.symm).1; omega)).trans (hblk.alloc _)
        have hf6 : Fr No w w6 := (hf.alloc _).grown hgr6 (fun k hk hlt => by have := (HT.out _ hk).1; omega)
        go_roundg k
        case measure => have := HR.out; omega
        case rel => exact ⟨k, rfl, dl ++ [v + 1000 * ((s[k]).toNat - 48)], 0, 1, a6, c6, by omega, by simp, rfl, rfl, by go_num, HP.out, by simpa using hown7, hf6, hblk6⟩
end Go.Proofs.YtklhfbgmadblcaaDoor
