/- The reference's numbers: cut, made. -/
import Derived.Test.YtklhfbgmadblcaaDoorOwn
import Derived.Test.YtklhfbgmadblcaaDoorNum
import Derived.Test.YtklhfbgmadblcaaDoorRows
import Derived.Deep.QuietTactic
import Derived.BigQuiet
namespace Go.Proofs.YtklhfbgmadblcaaDoor
open Go.RowKit
set_option linter.unusedVariables false
set_option linter.unusedSimpArgs false

def i64s (xs : List Nat) : List Value := xs.map fun (x : Nat) => Value.int .i64 x
theorem i64s_len (xs : List Nat) : (i64s xs).length = xs.length := by simp [i64s]
theorem i64s_get {xs : List Nat} {j x : Nat} (h : xs[j]? = some x) : (i64s xs)[j]? = some (.int .i64 x) := by simp [i64s, h]
theorem i64s_take (xs : List Nat) (k : Nat) : (i64s xs).take k = i64s (xs.take k) := by simp [i64s, List.map_take]

set_option maxHeartbeats 1000000 in
theorem cut_calls (B : Nat) (v : Value) (xs : List Nat) (w : World) (hl : xs.length ≤ 1000000000) (h : w.ownsRow B 3 1 v xs.length (i64s xs)) :
    Calls Tryd.prog 78 #[v] w fun e w' => ∃ a c, e = .returned (.slice a (trimT xs).length c) ∧ w'.ownsRow B 3 1 (.slice a (trimT xs).length c) (trimT xs).length (i64s (trimT xs)) ∧ (Value.slice a (trimT xs).length c).ownBlock = v.ownBlock ∧ Qd w w' := by
  rcases own_cases h with ⟨rfl, hn, hx⟩ | ⟨g, cap, rfl, hB, hg, hcap⟩
  · have hxs : xs = [] := by simpa [i64s] using hx
    subst hxs
    go_enter Tryd.func78, Tryd.ntmps78
    go_wp2_with fail
    go_loopg [3] 0 (fun r x3 wr => wr = w ∧ x3 = .int .i64 0)
    case atStart => exact ⟨rfl, rfl⟩
    case round =>
      obtain ⟨rfl, rfl⟩ := hrel
      go_wp2_with fail
      go_ret
      exact ⟨_, _, rfl, h, rfl, Qd.refl _⟩
  · go_enter Tryd.func78, Tryd.ntmps78
    go_wp2_with fail
    go_loopg [3] xs.length (fun r x3 wr => wr = w ∧ ∃ k : Nat, r = k ∧ k ≤ xs.length ∧ x3 = .int .i64 k ∧ ∀ j, k ≤ j → j < xs.length → xs[j]? = some 0)
    case atStart => exact ⟨rfl, xs.length, rfl, Nat.le_refl _, rfl, fun j h1 h2 => by omega⟩
    case round =>
      obtain ⟨rfl, k, hr, hk, rfl, hz⟩ := hrel
      have HR := Lib.hid hr
      have HZ := Lib.hid hz
      clear hr hz
      cases k with
      | zero =>
        go_wp2_with fail
        go_ret
        have ht := trimT_at (Nat.zero_le _) HZ.out (Or.inl rfl)
        have ho := own_take h (Nat.zero_le xs.length)
        rw [ht]
        exact ⟨_, _, rfl, by simpa [i64s] using ho, rfl, Qd.refl _⟩
      | succ m =>
        have hm : xs[m]? = some (xs[m]'(by omega)) := List.getElem?_eq_getElem (by omega)
        have hc := own_cell h (i64s_get hm)
        have HM := Lib.hid hm
        clear hm
        by_cases h0 : xs[m]'(by omega) = 0
        · go_wp2_with fail
          go_roundg m
          case measure => have := HR.out; omega
          case rel => exact ⟨rfl, m, rfl, by omega, rfl, fun j h1 h2 => by
            by_cases e : j = m
            · subst e; rw [HM.out, h0]
            · exact HZ.out j (by omega) h2⟩
        · go_wp2_with fail
          go_ret
          have ht := trimT_at (k := m + 1) (by omega) HZ.out (Or.inr ⟨_, HM.out, h0⟩)
          have ho := own_take h (k := m + 1) (by omega)
          rw [ht, List.length_take, Nat.min_eq_left (by omega), ← i64s_take]
          exact ⟨_, _, rfl, by simpa using ho, rfl, Qd.refl _⟩

/-- a number of the reference: below 0 or not, its digits -/
abbrev nV (neg : Bool) (v : Value) : Value := .agg #[.bool neg, v]

set_option maxHeartbeats 1000000 in
theorem made_false (B : Nat) (v : Value) (xs : List Nat) (w : World) (hl : xs.length ≤ 1000000000) (h : w.ownsRow B 3 1 v xs.length (i64s xs)) :
    Calls Tryd.prog 73 #[.bool false, v] w fun e w' => ∃ a c, e = .returned (nV false (.slice a (trimT xs).length c)) ∧ w'.ownsRow B 3 1 (.slice a (trimT xs).length c) (trimT xs).length (i64s (trimT xs)) ∧ (Value.slice a (trimT xs).length c).ownBlock = v.ownBlock ∧ Fr No w w' := by
  go_enter Tryd.func73, Tryd.ntmps73
  go_wp2_with fail
  refine (cut_calls B v xs _ hl (h.alloc _)).mono ?_
  rintro e w1 ⟨a, c, rfl, ho, hb, hq⟩
  obtain ⟨k, rfl⟩ := hq
  go_wp2_with fail
  have hne : (Value.slice a (trimT xs).length c).ownBlock ≠ some w.heap.size := fun hk => by
    rw [hb] at hk; have := (h.lt _ hk).2; omega
  refine bodyPost_ret (v := nV false (.slice a (trimT xs).length c)) (by simp [results, Tryd.results73, go_sem, nV]) rfl ⟨a, c, rfl, ?_, hb, ?_⟩
  · exact ownsRow_setCell_other (ownsRow_setCell_other ho hne _) hne _
  · with_reducible repeat (first | refine Fr.setCell ?_ _ (fun hh => absurd hh (Nat.lt_irrefl _)) | refine Fr.drewN ?_ _ | refine Fr.alloc ?_ _ | exact Fr.refl _ _)

theorem info_int : (Tryd.prog.info? 3).map (fun i => (i.zero, i.size, i.bytes)) = some (some (.int .i64 0), 1, 8) := by kernel_rfl

def zs (n : Nat) : List Nat := List.replicate n 0
theorem made_zeros (n : Nat) : (madeCells (Value.int .i64 0).cells (n * 1)).toList = i64s (zs n) := by
  rw [Nat.mul_one]; exact (toList_madeCells_one _ _).trans (by simp [i64s, zs])

set_option maxRecDepth 100000 in
set_option maxHeartbeats 1000000 in
theorem cutBy_calls (B : Nat) (a0 : Option Addr) (c0 : Nat) (xs : List Nat) (k : Nat) (w : World) (hl : xs.length ≤ 1000000) (hk : 0 < k) (hk2 : k ≤ 4294967296) (hx : ∀ x ∈ xs, x < 10000) (h : w.ownsRow B 3 1 (.slice a0 xs.length c0) xs.length (i64s xs)) :
    Calls Tryd.prog 79 #[.slice a0 xs.length c0, .int .i64 k] w fun e w' => ∃ a c, e = .returned (.tuple #[.slice a (dig 10000 (valB 10000 xs / k)).length c, .int .i64 ((valB 10000 xs % k : Nat) : Int)]) ∧
      w'.ownsRow w.heap.size 3 1 (.slice a (dig 10000 (valB 10000 xs / k)).length c) (dig 10000 (valB 10000 xs / k)).length (i64s (dig 10000 (valB 10000 xs / k))) ∧ Fr No w w' := by
  obtain ⟨i0, hi, hz0, hz1, hz2⟩ := info_parts info_int
  have HX := Lib.hid hx
  clear hx
  go_enter Tryd.func79, Tryd.ntmps79
  go_wp2_with ((at_make; go_loud (refine wpList_make_full _ rfl _ _ 47 rfl w.heap.size 3 i0 (.int .i64 0) 1 Tryd.underlying47 hi hz0 hz1 .i64 .i64 xs.length xs.length xs.length rfl rfl rfl rfl ?c2 ?c3 (Nat.le_refl _) ?_; (case c2 => (rw [hz2]; omega)); (case c3 => (unfold maxLen; omega)); intro w1 hown hgr; rw [made_zeros] at hown)))
  go_loopg [7, 8] xs.length (fun r x7 x8 wr => ∃ m : Nat, r = m ∧ m ≤ xs.length ∧ x8 = .int .i64 ((m : Int) - 1) ∧ x7 = .int .i64 ((divL 10000 k (xs.drop m)).2 : Nat) ∧ wr.ownsRow w.heap.size 3 1 (.slice (some ⟨w.heap.size, 0, none⟩) xs.length xs.length) xs.length (i64s (zs m ++ (divL 10000 k (xs.drop m)).1)) ∧ Fr No w wr)
  case atStart => exact ⟨xs.length, rfl, Nat.le_refl _, rfl, by simp [divL], by simpa [divL] using hown, (Fr.refl No w).grown hgr (fun _ h _ => by cases h)⟩
  case round =>
    obtain ⟨m, hr, hm, rfl, rfl, ho, hf⟩ := hrel
    have HR := Lib.hid hr
    clear hr
    cases m with
    | zero =>
      have hQl := divL_len 10000 k xs
      have hQ := trimT_eq (b := 10000) (by omega) (divL_lt (b := 10000) hk HX.out)
      rw [(divL_quo (b := 10000) hk xs).1] at hQ
      have hR := (divL_quo (b := 10000) hk xs).2
      simp only [zs, List.replicate_zero, List.nil_append, List.drop_zero] at ho ⊢
      generalize (divL 10000 k xs).1 = Q at *
      generalize (divL 10000 k xs).2 = R at *
      have ho2 : wr.ownsRow w.heap.size 3 1 (.slice (some ⟨w.heap.size, 0, none⟩) xs.length xs.length) Q.length (i64s Q) := by rw [hQl]; exact ho
      have hl2 : Q.length ≤ 1000000000 := by omega
      have HQ := Lib.hid hQ
      have HR2 := Lib.hid hR
      clear hQ hQl hR ho
      go_wp2_with fail
      refine (cut_calls w.heap.size _ Q _ hl2 ho2).mono ?_
      rintro e w2 ⟨a, c, rfl, ho3, hb3, hq3⟩
      go_wp2_with fail
      go_ret2
      rw [HQ.out] at ho3 ⊢
      rw [← HR2.out]
      exact ⟨a, c, rfl, ho3, hf.qd hq3⟩
    | succ m =>
      have hxm : xs[m]? = some (xs[m]'(by omega)) := List.getElem?_eq_getElem (by omega)
      have hx1 : xs[m]'(by omega) < 10000 := HX.out _ (List.getElem_mem _)
      have hdr : xs.drop m = xs[m]'(by omega) :: xs.drop (m + 1) := List.drop_eq_getElem_cons (by omega)
      have hrest := divL_rest 10000 hk (xs.drop (m + 1))
      have HO := Lib.hid ho
      have HD := Lib.hid hdr
      rcases own_cases (own_fr h hf (fun _ _ x => x)) with ⟨_, hn, _⟩ | ⟨g, cap, hsl, hB, hg, hcap⟩
      · omega
      · simp only [Value.slice.injEq] at hsl
        obtain ⟨rfl, _, rfl⟩ := hsl
        have hc := own_cell (own_fr h hf (fun _ _ x => x)) (i64s_get hxm)
        have hzl : (zs (m + 1) ++ (divL 10000 k (xs.drop (m + 1))).1)[m]? = some 0 := by
          rw [List.getElem?_append_left (by simp [zs])]; simp [zs]
        have hs := own_cell ho (i64s_get hzl)
        have hfz := ho.frozenAt m
        obtain ⟨R, hR⟩ : ∃ R, (divL 10000 k (xs.drop (m + 1))).2 = R := ⟨_, rfl⟩
        rw [hR] at hrest ⊢
        have HRR := Lib.hid hR
        clear hR ho hdr hxm hzl
        obtain ⟨X, hX⟩ : ∃ X, xs[m]'(by omega) = X := ⟨_, rfl⟩
        have HXX := Lib.hid hX
        rw [hX] at hx1 hc
        clear hX
        go_wp2_with fail
        have hsto := HO.out.stored m (.int .i64 (((R * 10000 + X) / k : Nat) : Int))
        have e1 : ((R : Int) * 10000 + (X : Int)) / (k : Int) = (((R * 10000 + X) / k : Nat) : Int) := by push_cast; rfl
        have e2 : ((R : Int) * 10000 + (X : Int)) % (k : Int) = (((R * 10000 + X) % k : Nat) : Int) := by push_cast; rfl
        go_roundg m
        case measure => have := HR.out; omega
        case rel =>
          have hD : divL 10000 k (xs.drop m) = ((R * 10000 + X) / k :: (divL 10000 k (xs.drop (m + 1))).1, (R * 10000 + X) % k) := by
            rw [HD.out, divL, HRR.out, HXX.out]
          refine ⟨m, rfl, by omega, by go_num, by rw [e2, hD], ?_, hf.setCell _ (fun hh => absurd hh (Nat.lt_irrefl _))⟩
          rw [e1, hD]
          have h5 := hsto.1
          have e5 : (i64s (zs (m + 1) ++ (divL 10000 k (xs.drop (m + 1))).1)).set m (.int .i64 (((R * 10000 + X) / k : Nat) : Int)) = i64s (zs m ++ (R * 10000 + X) / k :: (divL 10000 k (xs.drop (m + 1))).1) := by
            unfold i64s zs
            rw [List.replicate_succ', List.append_assoc, List.map_append, List.set_append_right _ _ (by simp)]
            simp
          rw [e5] at h5
          exact h5
end Go.Proofs.YtklhfbgmadblcaaDoor
