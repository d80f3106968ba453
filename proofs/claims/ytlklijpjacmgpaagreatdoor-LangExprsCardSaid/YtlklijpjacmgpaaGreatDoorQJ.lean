/- Name and Names, the program's and the reference's. -/
import Derived.Test.YtlklijpjacmgpaaGreatDoorQB
import Derived.Test.YtlklijpjacmgpaaGreatDoorQA
import Derived.Test.YtlklijpjacmgpaaGreatDoorGf
import Derived.Test.YtlklijpjacmgpaaGreatDoorGg
import Derived.BigQuiet
import Derived.Deep.QuietTactic
namespace Go.Proofs.YtlklijpjacmgpaaGreatDoor
open Go.RowKit
set_option linter.unusedVariables false
set_option linter.unusedSimpArgs false
attribute [local go_sem ↓] Go.wp_at_zero Go.wp_at_succ

/-- whether a text is a name -/
noncomputable def nameB (l : List UInt8) : Bool := match scanS l with
  | .ok [x, _] => decide (x.kind = 1) && decide (x.text = l)
  | _ => false

theorem nameB_not {l : List UInt8} (h : (scanS l).code ≠ 0 ∨ (scanS l).toks.length ≠ 2) : nameB l = false := by
  unfold nameB
  split
  · rename_i x y hx
    rw [hx] at h
    simp [Res.code, Res.toks] at h
  · rfl
theorem nameB_two {l : List UInt8} {x y : Tok} (h : (scanS l).toks = [x, y]) (h0 : (scanS l).code = 0) : nameB l = (decide (x.kind = 1) && decide (x.text = l)) := by
  unfold nameB
  cases hs : scanS l with
  | bad e p => rw [hs] at h; simp [Res.toks] at h
  | ok t => rw [hs] at h; simp only [Res.toks] at h; subst h; rfl

set_option maxRecDepth 100000 in
set_option maxHeartbeats 2000000 in
theorem Name_calls (s : ByteArray) (w : World) (hT : Tb w) (hs : s.size ≤ maxLen) : Calls Tryz.prog 92 #[.string s] w fun e w' => e = .returned (.bool (nameB s.data.toList)) ∧ Fr No w w' := by
  have hlen := scan_len s.data.toList
  obtain ⟨B, hB⟩ : ∃ B, nameB s.data.toList = B := ⟨_, rfl⟩
  rw [hB]
  go_enter Tryz.func92, Tryz.ntmps92
  go_wp2_with fail
  refine (Scan_any s w hT hs).mono ?_
  rintro e w1 ⟨a, c, rfl, ho, hf⟩
  obtain ⟨n, hn⟩ : ∃ n, (scanS s.data.toList).code = n := ⟨_, rfl⟩
  obtain ⟨t, ht⟩ : ∃ t, (scanS s.data.toList).toks = t := ⟨_, rfl⟩
  obtain ⟨pl, hpl⟩ : ∃ pl, (scanS s.data.toList).pl = pl := ⟨_, rfl⟩
  rw [ht] at hlen
  rw [hn, ht, hpl]
  unfold plA
  clear hpl
  rw [ht] at ho
  by_cases h0 : n = 0
  · by_cases h2 : t.length = 2
    · obtain ⟨x, y, rfl⟩ : ∃ x y, t = [x, y] := by
        match t, h2 with
        | [x, y], _ => exact ⟨x, y, rfl⟩
      have hBe := nameB_two ht (by rw [hn]; exact h0)
      rw [hB] at hBe
      subst h0
      rcases own_cases ho with ⟨_, hn, _⟩ | ⟨g, cap, hsl, hB', hg, hcap⟩
      · simp at hn
      simp only [Value.slice.injEq] at hsl
      obtain ⟨rfl, _, rfl⟩ := hsl
      obtain ⟨p0, p1, _, _, _, _⟩ := tok_at ho (i := 0) rfl
      have HB := Lib.hid hBe
      clear hBe hB hn ht ho h2 hlen
      simp only [List.length_cons, List.length_nil, Nat.zero_add, Nat.zero_mul] at *
      by_cases hk : x.kind = 1
      · obtain ⟨X, hX⟩ : ∃ X : ByteArray, (⟨x.text.toArray⟩ : ByteArray) = X := ⟨_, rfl⟩
        rw [hX] at p1
        by_cases hx : X = s
        · have e : B = true := by
            rw [HB.out, hk]
            have : x.text = s.data.toList := by rw [← hx, ← hX]
            simp [this]
          rw [hk] at p0
          rw [hx] at p1
          subst e
          clear hk hx hX
          go_wp2_with fail
          go_ret
          exact ⟨rfl, hf.alloc _⟩
        · have e : B = false := by
            rw [HB.out, hk]
            have : ¬ x.text = s.data.toList := fun e => hx (by rw [← hX, e])
            simp [this]
          have hxe : (X.toList == s.toList) = false := by
            rw [beq_eq_false_iff_ne]
            intro e2
            rw [ByteArray.toList_eq, ByteArray.toList_eq] at e2
            exact hx (ByteArray.ext (Array.toList_inj.1 e2))
          rw [hk] at p0
          subst e
          clear hk hX
          go_wp2_with fail
          go_ret
          exact ⟨rfl, hf.alloc _⟩
      · have e : B = false := by
          rw [HB.out]
          simp [hk]
        subst e
        go_wp2_with fail
        go_ret
        exact ⟨rfl, hf.alloc _⟩
    · have e : B = false := by
        rw [← hB]
        exact nameB_not (Or.inr (by rw [ht]; exact h2))
      have h2' : ((t.length : Int) == 2) = false := by rw [beq_eq_false_iff_ne]; omega
      subst e h0
      clear hB ht hn h2
      go_wp2_with fail
      go_ret
      exact ⟨rfl, hf.alloc _⟩
  · have e : B = false := by
      rw [← hB]
      exact nameB_not (Or.inl (by rw [hn]; exact h0))
    have h2' : (n == 0) = false := by rw [beq_eq_false_iff_ne]; exact h0
    subst e
    clear hB ht hn h0
    go_wp2_with fail
    go_ret
    exact ⟨rfl, hf.alloc _⟩
set_option maxRecDepth 100000 in
set_option maxHeartbeats 2000000 in
theorem rName_calls (s : ByteArray) (w : World) (hs : s.size ≤ maxLen) : Calls Tryz.prog 99 #[.string s] w fun e w' => e = .returned (.bool (nameB s.data.toList)) ∧ Fr No w w' := by
  have hlen := scan_len s.data.toList
  obtain ⟨B, hB⟩ : ∃ B, nameB s.data.toList = B := ⟨_, rfl⟩
  rw [hB]
  go_enter Tryz.func99, Tryz.ntmps99
  go_wp2_with fail
  refine (rScan_any s w hs).mono ?_
  rintro e w1 ⟨a, c, rfl, ho, hf⟩
  obtain ⟨n, hn⟩ : ∃ n, (scanS s.data.toList).code = n := ⟨_, rfl⟩
  obtain ⟨t, ht⟩ : ∃ t, (scanS s.data.toList).toks = t := ⟨_, rfl⟩
  obtain ⟨pl, hpl⟩ : ∃ pl, (scanS s.data.toList).pl = pl := ⟨_, rfl⟩
  rw [ht] at hlen
  rw [hn, ht, hpl]
  unfold plA
  clear hpl
  rw [ht] at ho
  by_cases h0 : n = 0
  · by_cases h2 : t.length = 2
    · obtain ⟨x, y, rfl⟩ : ∃ x y, t = [x, y] := by
        match t, h2 with
        | [x, y], _ => exact ⟨x, y, rfl⟩
      have hBe := nameB_two ht (by rw [hn]; exact h0)
      rw [hB] at hBe
      subst h0
      rcases own_cases ho with ⟨_, hn, _⟩ | ⟨g, cap, hsl, hB', hg, hcap⟩
      · simp at hn
      simp only [Value.slice.injEq] at hsl
      obtain ⟨rfl, _, rfl⟩ := hsl
      obtain ⟨p0, p1, _, _, _, _⟩ := tok_at ho (i := 0) rfl
      have HB := Lib.hid hBe
      clear hBe hB hn ht ho h2 hlen
      simp only [List.length_cons, List.length_nil, Nat.zero_add, Nat.zero_mul] at *
      by_cases hk : x.kind = 1
      · obtain ⟨X, hX⟩ : ∃ X : ByteArray, (⟨x.text.toArray⟩ : ByteArray) = X := ⟨_, rfl⟩
        rw [hX] at p1
        by_cases hx : X = s
        · have e : B = true := by
            rw [HB.out, hk]
            have : x.text = s.data.toList := by rw [← hx, ← hX]
            simp [this]
          rw [hk] at p0
          rw [hx] at p1
          subst e
          clear hk hx hX
          go_wp2_with fail
          go_ret
          exact ⟨rfl, hf.alloc _⟩
        · have e : B = false := by
            rw [HB.out, hk]
            have : ¬ x.text = s.data.toList := fun e => hx (by rw [← hX, e])
            simp [this]
          have hxe : (X.toList == s.toList) = false := by
            rw [beq_eq_false_iff_ne]
            intro e2
            rw [ByteArray.toList_eq, ByteArray.toList_eq] at e2
            exact hx (ByteArray.ext (Array.toList_inj.1 e2))
          rw [hk] at p0
          subst e
          clear hk hX
          go_wp2_with fail
          go_ret
          exact ⟨rfl, hf.alloc _⟩
      · have e : B = false := by
          rw [HB.out]
          simp [hk]
        subst e
        go_wp2_with fail
        go_ret
        exact ⟨rfl, hf.alloc _⟩
    · have e : B = false := by
        rw [← hB]
        exact nameB_not (Or.inr (by rw [ht]; exact h2))
      have h2' : ((t.length : Int) == 2) = false := by rw [beq_eq_false_iff_ne]; omega
      subst e h0
      clear hB ht hn h2
      go_wp2_with fail
      go_ret
      exact ⟨rfl, hf.alloc _⟩
  · have e : B = false := by
      rw [← hB]
      exact nameB_not (Or.inl (by rw [hn]; exact h0))
    have h2' : (n == 0) = false := by rw [beq_eq_false_iff_ne]; exact h0
    subst e
    clear hB ht hn h0
    go_wp2_with fail
    go_ret
    exact ⟨rfl, hf.alloc _⟩

/-- names, one beside the other another -/
def NmGood (nm : List (List UInt8)) (k : Nat) : Prop := ∀ i x, i < k → nm[i]? = some x → nameB x = true ∧ ∀ j, j < i → nm[j]? ≠ some x
theorem NmGood.step {nm : List (List UInt8)} {k : Nat} {x : List UInt8} (h : NmGood nm k) (hx : nm[k]? = some x) (hn : nameB x = true) (hd : ∀ j, j < k → nm[j]? ≠ some x) : NmGood nm (k + 1) := by
  intro i y hi hy
  by_cases e : i = k
  · subst e
    rw [hx] at hy
    cases hy
    exact ⟨hn, hd⟩
  · exact h i y (by omega) hy
theorem NmGood.not_name {nm : List (List UInt8)} {k n : Nat} {x : List UInt8} (hk : k < n) (hx : nm[k]? = some x) (hn : nameB x = false) : ¬ NmGood nm n := fun h => by
  have := (h k x hk hx).1
  rw [hn] at this
  cases this
theorem NmGood.not_twice {nm : List (List UInt8)} {j k n : Nat} {x : List UInt8} (hk : k < n) (hj : j < k) (hx : nm[k]? = some x) (hy : nm[j]? = some x) : ¬ NmGood nm n := fun h => (h k x hk hx).2 j hj hy
theorem bytes_ne {X Y : ByteArray} (h : ¬ Y = X) : (Y.toList == X.toList) = false := by
  rw [beq_eq_false_iff_ne]
  intro e2
  rw [ByteArray.toList_eq, ByteArray.toList_eq] at e2
  exact h (ByteArray.ext (Array.toList_inj.1 e2))
/-- what Names answers -/
def NmsR (nm : List (List UInt8)) (r : Int) : Prop := (r = 0 ∧ nm.length ≤ 16 ∧ NmGood nm nm.length) ∨ (r = 1 ∧ ¬ (nm.length ≤ 16 ∧ NmGood nm nm.length))
theorem NmsR.det {nm : List (List UInt8)} {r s : Int} (h : NmsR nm r) (h' : NmsR nm s) : r = s := by
  rcases h with ⟨rfl, h1⟩ | ⟨rfl, h1⟩ <;> rcases h' with ⟨rfl, h2⟩ | ⟨rfl, h2⟩
  · rfl
  · exact absurd h1 h2
  · exact absurd h2 h1
  · rfl
set_option maxRecDepth 100000 in
set_option maxHeartbeats 4000000 in
theorem rNames_calls {w : World} {Nv : Value} {nm : List (List UInt8)} (h : NmIn w Nv nm) (hs : ∀ x ∈ nm, x.length ≤ maxLen) (hl : nm.length ≤ maxLen) :
    Calls Tryz.prog 55 #[Nv] w fun e w' => ∃ r, e = .returned (.int .i64 r) ∧ NmsR nm r ∧ Fr No w w' := by
  obtain ⟨aN, cN, rfl, hcN, _⟩ := id h
  by_cases h16 : nm.length ≤ 16
  · have hd : decide ((16 : Int) < (nm.length : Int)) = false := decide_eq_false (by omega)
    go_enter Tryz.func55, Tryz.ntmps55
    go_wp2_with fail
    go_loopg [3] nm.length (fun gk x3 wr => ∃ k : Nat, gk = nm.length - k ∧ k ≤ nm.length ∧ x3 = .int .i64 k ∧ NmGood nm k ∧ Fr No w wr)
    case atStart => exact ⟨0, rfl, Nat.zero_le _, rfl, fun i x hi => absurd hi (Nat.not_lt_zero _), Fr.refl _ _⟩
    case round =>
      obtain ⟨k, hgk, hk, rfl, hg, hf⟩ := hrel
      have HG := Lib.hid (And.intro hgk hg)
      clear hgk hg
      by_cases hlt : k < nm.length
      · obtain ⟨x, hx⟩ : ∃ x, nm[k]? = some x := ⟨nm[k], List.getElem?_eq_getElem hlt⟩
        obtain ⟨g1, o1, cap1, e1, _, hgl1, d0⟩ := (h.fr hf).cell hx
        simp only [Value.slice.injEq] at e1
        obtain ⟨rfl, _, rfl⟩ := e1
        have hxs := hs x (List.mem_of_getElem? hx)
        have i1 : (0 : Int) ≤ (k : Int) := by omega
        have i2 : (k : Int) < (nm.length : Int) := by omega
        have HX := Lib.hid hx
        clear hx
        go_wp2_with fail
        refine (rName_calls ⟨x.toArray⟩ wr (by rw [Lib.size_eq]; exact hxs)).mono ?_
        rintro e w1 ⟨rfl, hf1⟩
        have hf2 := hf.callNo hf1
        simp only
        cases hn : nameB x with
        | false =>
          go_wp2_with fail
          go_ret
          exact ⟨1, rfl, Or.inr ⟨rfl, fun hh => NmGood.not_name hlt HX.out hn hh.2⟩, hf2⟩
        | true =>
          have d1 := d0
          clear d0
          go_wp2_with fail
          go_loopg [4] k (fun gj x4 wi => ∃ j : Nat, gj = k - j ∧ j ≤ k ∧ x4 = .int .i64 j ∧ (∀ i, i < j → nm[i]? ≠ some x) ∧ Fr No w wi)
          case atStart => exact ⟨0, rfl, Nat.zero_le _, rfl, fun i hi => absurd hi (Nat.not_lt_zero _), hf2⟩
          case round =>
            obtain ⟨j, hgj, hj, rfl, hne, hfi⟩ := hrel
            have HJ := Lib.hid (And.intro hgj hne)
            clear hgj hne
            by_cases hjk : j < k
            · obtain ⟨y, hy⟩ : ∃ y, nm[j]? = some y := ⟨nm[j], List.getElem?_eq_getElem (by omega)⟩
              obtain ⟨g2, o2, cap2, e2, _, hgl2, c1⟩ := (h.fr hfi).cell HX.out
              simp only [Value.slice.injEq, Option.some.injEq, Addr.mk.injEq, and_true, true_and] at e2
              obtain ⟨⟨rfl, rfl⟩, rfl⟩ := e2
              obtain ⟨g2, o2, cap2, e2, _, hgl3, c2⟩ := (h.fr hfi).cell hy
              simp only [Value.slice.injEq, Option.some.injEq, Addr.mk.injEq, and_true, true_and] at e2
              obtain ⟨⟨rfl, rfl⟩, rfl⟩ := e2
              have j1 : (0 : Int) ≤ (j : Int) := by omega
              have j2 : (j : Int) < (nm.length : Int) := by omega
              obtain ⟨X, hX⟩ : ∃ X : ByteArray, (⟨x.toArray⟩ : ByteArray) = X := ⟨_, rfl⟩
              obtain ⟨Y, hY⟩ : ∃ Y : ByteArray, (⟨y.toArray⟩ : ByteArray) = Y := ⟨_, rfl⟩
              rw [hX] at c1
              rw [hY] at c2
              have HXY := Lib.hid (And.intro hX hY)
              have HY := Lib.hid hy
              clear hX hY hy
              by_cases hyx : Y = X
              · subst hyx
                go_upto_region 11 with (fail)
                go_quiet (fail)
                go_wp2_with fail
                go_ret
                refine ⟨1, rfl, Or.inr ⟨rfl, fun hh => NmGood.not_twice hlt hjk HX.out ?_ hh.2⟩, hfi.drewN _⟩
                have : y = x := by
                  have e3 : (⟨y.toArray⟩ : ByteArray) = ⟨x.toArray⟩ := by rw [HXY.out.1, HXY.out.2]
                  simpa using congrArg (fun b => b.data.toList) e3
                rw [HY.out, this]
              · have hxe := bytes_ne hyx
                go_upto_region 11 with (fail)
                go_quiet (fail)
                go_wp2_with fail
                go_roundg (k - (j + 1))
                case measure => have := HJ.out.1; omega
                case rel =>
                  refine ⟨j + 1, rfl, by omega, by go_num, fun i hi => ?_, hfi.drewN _⟩
                  by_cases e : i = j
                  · subst e
                    rw [HY.out]
                    intro e3
                    simp only [Option.some.injEq] at e3
                    exact hyx (by rw [← HXY.out.1, ← HXY.out.2, e3])
                  · exact HJ.out.2 i (by omega)
            · obtain rfl : j = k := by omega
              have i4 : ¬ ((j : Int) < (j : Int)) := by omega
              go_wp2_with fail
              go_roundg (nm.length - (j + 1))
              case measure => have := HG.out.1; omega
              case rel => exact ⟨j + 1, rfl, by omega, by go_num, HG.out.2.step HX.out hn HJ.out.2, hfi⟩
      · obtain rfl : k = nm.length := by omega
        have i2 : ¬ ((nm.length : Int) < (nm.length : Int)) := by omega
        go_wp2_with fail
        go_ret
        exact ⟨0, rfl, Or.inl ⟨rfl, h16, HG.out.2⟩, hf⟩
  · have hd : decide ((16 : Int) < (nm.length : Int)) = true := decide_eq_true (by omega)
    go_enter Tryz.func55, Tryz.ntmps55
    go_wp2_with fail
    go_ret
    exact ⟨1, rfl, Or.inr ⟨rfl, fun hh => h16 hh.1⟩, Fr.refl _ _⟩
set_option maxRecDepth 100000 in
set_option maxHeartbeats 4000000 in
theorem Names_calls {w : World} {Nv : Value} {nm : List (List UInt8)} (hT : Tb w) (h : NmIn w Nv nm) (hs : ∀ x ∈ nm, x.length ≤ maxLen) (hl : nm.length ≤ maxLen) :
    Calls Tryz.prog 51 #[Nv] w fun e w' => ∃ r, e = .returned (.int .i64 r) ∧ NmsR nm r ∧ Fr No w w' := by
  obtain ⟨aN, cN, rfl, hcN, _⟩ := id h
  by_cases h16 : nm.length ≤ 16
  · have hd : decide ((16 : Int) < (nm.length : Int)) = false := decide_eq_false (by omega)
    go_enter Tryz.func51, Tryz.ntmps51
    go_wp2_with fail
    go_loopg [12] nm.length (fun gk x3 wr => ∃ k : Nat, gk = nm.length - k ∧ k ≤ nm.length ∧ x3 = .int .i64 k ∧ NmGood nm k ∧ Fr No w wr)
    case atStart => exact ⟨0, rfl, Nat.zero_le _, rfl, fun i x hi => absurd hi (Nat.not_lt_zero _), Fr.refl _ _⟩
    case round =>
      obtain ⟨k, hgk, hk, rfl, hg, hf⟩ := hrel
      have HG := Lib.hid (And.intro hgk hg)
      clear hgk hg
      by_cases hlt : k < nm.length
      · obtain ⟨x, hx⟩ : ∃ x, nm[k]? = some x := ⟨nm[k], List.getElem?_eq_getElem hlt⟩
        obtain ⟨g1, o1, cap1, e1, _, hgl1, d0⟩ := (h.fr hf).cell hx
        simp only [Value.slice.injEq] at e1
        obtain ⟨rfl, _, rfl⟩ := e1
        have hxs := hs x (List.mem_of_getElem? hx)
        have i1 : (0 : Int) ≤ (k : Int) := by omega
        have i2 : (k : Int) < (nm.length : Int) := by omega
        have HX := Lib.hid hx
        clear hx
        go_wp2_with fail
        refine (Name_calls ⟨x.toArray⟩ wr (hT.no hf) (by rw [Lib.size_eq]; exact hxs)).mono ?_
        rintro e w1 ⟨rfl, hf1⟩
        have hf2 := hf.callNo hf1
        simp only
        cases hn : nameB x with
        | false =>
          go_wp2_with fail
          go_ret
          exact ⟨1, rfl, Or.inr ⟨rfl, fun hh => NmGood.not_name hlt HX.out hn hh.2⟩, hf2⟩
        | true =>
          clear d0
          obtain ⟨X, hX⟩ : ∃ X : ByteArray, (⟨x.toArray⟩ : ByteArray) = X := ⟨_, rfl⟩
          rw [hX]
          have HXX := Lib.hid hX
          clear hX
          go_wp2_with fail
          go_loopg [24] k (fun gj x4 wi => ∃ j : Nat, gj = k - j ∧ j ≤ k ∧ x4 = .int .i64 j ∧ (∀ i, i < j → nm[i]? ≠ some x) ∧ Fr No w wi)
          case atStart => exact ⟨0, rfl, Nat.zero_le _, rfl, fun i hi => absurd hi (Nat.not_lt_zero _), hf2⟩
          case round =>
            obtain ⟨j, hgj, hj, rfl, hne, hfi⟩ := hrel
            have HJ := Lib.hid (And.intro hgj hne)
            clear hgj hne
            by_cases hjk : j < k
            · obtain ⟨y, hy⟩ : ∃ y, nm[j]? = some y := ⟨nm[j], List.getElem?_eq_getElem (by omega)⟩
              obtain ⟨g2, o2, cap2, e2, _, hgl3, c2⟩ := (h.fr hfi).cell hy
              simp only [Value.slice.injEq, Option.some.injEq, Addr.mk.injEq, and_true, true_and] at e2
              obtain ⟨⟨rfl, rfl⟩, rfl⟩ := e2
              have j1 : (0 : Int) ≤ (j : Int) := by omega
              have j2 : (j : Int) < (k : Int) := by omega
              obtain ⟨Y, hY⟩ : ∃ Y : ByteArray, (⟨y.toArray⟩ : ByteArray) = Y := ⟨_, rfl⟩
              rw [hY] at c2
              have HXY := Lib.hid (And.intro HXX.out hY)
              have HY := Lib.hid hy
              clear hY hy
              by_cases hyx : X = Y
              · subst hyx
                go_wp2_with fail
                go_ret
                refine ⟨1, rfl, Or.inr ⟨rfl, fun hh => NmGood.not_twice hlt hjk HX.out ?_ hh.2⟩, hfi⟩
                have : y = x := by
                  have e3 : (⟨y.toArray⟩ : ByteArray) = ⟨x.toArray⟩ := by rw [HXY.out.1, HXY.out.2]
                  simpa using congrArg (fun b => b.data.toList) e3
                rw [HY.out, this]
              · have hxe := bytes_ne hyx
                have hxe2 := bytes_ne (fun e => hyx e.symm)
                go_wp2_with fail
                go_roundg (k - (j + 1))
                case measure => have := HJ.out.1; omega
                case rel =>
                  refine ⟨j + 1, rfl, by omega, by go_num, fun i hi => ?_, hfi⟩
                  by_cases e : i = j
                  · subst e
                    rw [HY.out]
                    intro e3
                    simp only [Option.some.injEq] at e3
                    exact hyx (by rw [← HXY.out.1, ← HXY.out.2, e3])
                  · exact HJ.out.2 i (by omega)
            · obtain rfl : j = k := by omega
              have i4 : ¬ ((j : Int) < (j : Int)) := by omega
              go_wp2_with fail
              go_roundg (nm.length - (j + 1))
              case measure => have := HG.out.1; omega
              case rel => exact ⟨j + 1, rfl, by omega, by go_num, HG.out.2.step HX.out hn HJ.out.2, hfi⟩
      · obtain rfl : k = nm.length := by omega
        have i2 : ¬ ((nm.length : Int) < (nm.length : Int)) := by omega
        go_wp2_with fail
        go_ret
        exact ⟨0, rfl, Or.inl ⟨rfl, h16, HG.out.2⟩, hf⟩
  · have hd : decide ((16 : Int) < (nm.length : Int)) = true := decide_eq_true (by omega)
    go_enter Tryz.func51, Tryz.ntmps51
    go_wp2_with fail
    go_ret
    exact ⟨1, rfl, Or.inr ⟨rfl, fun hh => h16 hh.1⟩, Fr.refl _ _⟩
end Go.Proofs.YtlklijpjacmgpaaGreatDoor
