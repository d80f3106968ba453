/- point -/
import Derived.Test.YtklhfbgmadblcaaDoorA2
namespace Go.Proofs.YtklhfbgmadblcaaDoor
open Go.RowKit
set_option linter.unusedVariables false
set_option linter.unusedSimpArgs false

theorem con_at {S : ByteArray} {i k : Nat} (h : i + 1 + k < S.size) : con (S.data.toList.drop (i + 1))[k]? = if (S[i + 1 + k]).toNat / 64 = 2 then some ((S[i + 1 + k]).toNat % 64) else none := by
  rw [List.getElem?_drop, List.getElem?_eq_getElem (by rw [← Lib.size_eq]; exact h)]
  rfl
theorem con_past {S : ByteArray} {i k : Nat} (h : ¬ i + 1 + k < S.size) : con (S.data.toList.drop (i + 1))[k]? = none := by
  rw [List.getElem?_drop, List.getElem?_eq_none (by rw [← Lib.size_eq]; omega)]
  rfl

/-- the loop's own: what v is after k rounds -/
theorem con_at' {S : ByteArray} {i k : Nat} (h : i + (k + 1) < S.size) : con (S.data.toList.drop (i + 1))[k]? = if (S[i + (k + 1)]).toNat / 64 = 2 then some ((S[i + (k + 1)]).toNat % 64) else none := by
  rw [List.getElem?_drop, show i + 1 + k = i + (k + 1) by omega, List.getElem?_eq_getElem (by rw [← Lib.size_eq]; exact h)]
  rfl
def Ac (S : ByteArray) (i v0 : Nat) (k v : Nat) : Prop := acc (S.data.toList.drop (i + 1)) v0 k = some v
theorem Ac.next {S : ByteArray} {i v0 k v : Nat} (h : Ac S i v0 k v) (hk : i + (k + 1) < S.size) (hc : 128 ≤ (S[i + (k + 1)]).toNat ∧ (S[i + (k + 1)]).toNat ≤ 191) : Ac S i v0 (k + 1) (v * 64 + (S[i + (k + 1)]).toNat - 128) := by
  unfold Ac at *
  simp only [acc, h, Option.bind_some]
  rw [con_at' hk, if_pos (by omega)]
  simp only [Option.map_some]
  exact congrArg some (by omega)
theorem Ac.bad {S : ByteArray} {i v0 k v n : Nat} (hk : ¬ i + 1 + k < S.size) (hn : k < n) : acc (S.data.toList.drop (i + 1)) v0 n = none := by
  induction n with
  | zero => omega
  | succ n ih =>
    simp only [acc]
    by_cases e : k = n
    · subst e; rw [con_past hk]; cases acc (List.drop (i + 1) S.data.toList) v0 k <;> rfl
    · rw [ih (by omega)]; rfl
theorem Ac.bad2 {S : ByteArray} {i v0 k v n : Nat} (hk : i + (k + 1) < S.size) (hc : ¬ (128 ≤ (S[i + (k + 1)]).toNat ∧ (S[i + (k + 1)]).toNat ≤ 191)) (hn : k < n) : acc (S.data.toList.drop (i + 1)) v0 n = none := by
  induction n with
  | zero => omega
  | succ n ih =>
    simp only [acc]
    by_cases e : k = n
    · subst e; rw [con_at' hk, if_neg (by omega)]; cases acc (List.drop (i + 1) S.data.toList) v0 k <;> rfl
    · rw [ih (by omega)]; rfl

def Post (S : ByteArray) (i : Nat) (w : World) (e : Ending) (w' : World) : Prop :=
  e = .returned (.tuple #[.int .i64 (ptR (dec (S.data.toList.drop i))).1, .int .i64 (ptR (dec (S.data.toList.drop i))).2]) ∧ w = w'


theorem among_iff {c lo hi : Int} : among c lo hi = true ↔ lo ≤ c ∧ c ≤ hi := by simp [among]
theorem among_not {c lo hi : Int} : among c lo hi = false ↔ ¬ (lo ≤ c ∧ c ≤ hi) := by simp [among]
def Bd (k v : Nat) : Prop := (k = 0 → v < 32) ∧ (k = 1 → v < 2048) ∧ (k = 2 → v < 131072) ∧ (k = 3 → v < 8388608) ∧ k ≤ 3
theorem Bd.le {k v : Nat} (h : Bd k v) : v < 8388608 := by obtain ⟨h0, h1, h2, h3, h4⟩ := h; omega
theorem Bd.next {k v b : Nat} (h : Bd k v) (hk : k < 3) (hb : 128 ≤ b ∧ b ≤ 191) : Bd (k + 1) (v * 64 + b - 128) := by
  obtain ⟨h0, h1, h2, h3, h4⟩ := h
  refine ⟨by omega, by omega, by omega, by omega, by omega⟩
theorem ret_two {a b c d : Int} (h : a = c) (h' : b = d) : Ending.returned (.tuple #[.int .i64 a, .int .i64 b]) = .returned (.tuple #[.int .i64 c, .int .i64 d]) := by rw [h, h']
theorem fin_ok {n least v : Nat} (h1 : ¬ ((v : Int) < least)) (h2 : (v : Int) ≤ 1114111) (h3 : among v 55296 57343 = false) : fin n least v = some (v, n) := by
  unfold fin
  rw [among_not] at h3
  rw [if_pos ⟨by omega, okc_iff.2 (by omega)⟩]
theorem fin_no {n least v : Nat} (h : (v : Int) < least ∨ 1114111 < (v : Int) ∨ among v 55296 57343 = true) : fin n least v = none := by
  unfold fin
  rw [among_iff] at h
  rw [if_neg]
  rintro ⟨a, b⟩
  rw [okc_iff] at b
  omega
theorem dec_bad {x : Option (Nat × Nat)} (h : x = none) : ptR x = (0, 0) := by rw [h]; rfl


set_option maxRecDepth 100000 in
set_option maxHeartbeats 4000000 in
theorem point_two (S : ByteArray) (i : Nat) (w : World) (hi : i < S.size) (hS : S.size ≤ 4096) (h : 192 ≤ (S[i]).toNat ∧ (S[i]).toNat ≤ 223) :
    Calls Tryd.prog 66 #[.string S, .int .i64 i] w (Post S i w) := by
  have hb := (S[i]).toNat_lt
  have hd := drop_at hi
  have HD := Lib.hid hd
  clear hd
  have hlow : decide (((S[i]).toNat : Int) < 128) = false := by simp; omega
  have ha192 : among ((S[i]).toNat : Int) 192 223 = true := among_iff.2 (by omega)
  go_enter Tryd.func66, Tryd.ntmps66
  go_wp2_with (first | (go_at_call 34; refine (among_calls _ _ _ _).mono ?_; rintro e w' ⟨rfl, rfl⟩))
  go_loop [8, 10] (fun x8 x10 => ∃ k v : Nat, k + 1 ≤ 2 ∧ x10 = .int .i64 ((k + 1 : Nat) : Int) ∧ x8 = .int .i64 (v : Int) ∧ Ac S i ((S[i]).toNat - 192) k v ∧ Bd k v) (fun _ x10 => 2 - (intOf x10).toNat)
  case atStart => exact ⟨0, (S[i]).toNat - 192, by omega, rfl, by rw [show (((S[i]).toNat - 192 : Nat) : Int) = ((S[i]).toNat : Int) - 192 by omega], rfl, by unfold Bd; omega⟩
  case round =>
    obtain ⟨k, v, hk, rfl, rfl, hA, hB⟩ := hrel
    have HA := Lib.hid hA
    have hB' := hB.le
    have HB := Lib.hid hB
    clear hB hA
    by_cases hlt : k + 1 < 2
    · by_cases h1 : i + (k + 1) < S.size
      · have hu := (S[i + (k + 1)]).toNat_lt
        by_cases h2 : 128 ≤ (S[i + (k + 1)]).toNat ∧ (S[i + (k + 1)]).toNat ≤ 191
        · have hg : among ((S[i + (k + 1)]).toNat : Int) 128 191 = true := among_iff.2 (by omega)
          go_wp2_with (first | (go_at_call 34; refine (among_calls _ _ _ _).mono ?_; rintro e w' ⟨rfl, rfl⟩))
          go_round
          case rel => exact ⟨k + 1, _, by omega, by go_num, by rw [show (v : Int) * 64 + ((S[i + (k + 1)]).toNat : Int) - 128 = ((v * 64 + (S[i + (k + 1)]).toNat - 128 : Nat) : Int) by omega], HA.out.next h1 h2, HB.out.next (by omega) h2⟩
          case measure => simp [intOf]; omega
        · have hg : among ((S[i + (k + 1)]).toNat : Int) 128 191 = false := among_not.2 (by omega)
          go_wp2_with (first | (go_at_call 34; refine (among_calls _ _ _ _).mono ?_; rintro e w' ⟨rfl, rfl⟩))
          go_ret2
          have hz : dec (S.data.toList.drop i) = none := by rw [HD.out, dec_two (by omega), Ac.bad2 (v := v) h1 h2 (by omega)]; rfl
          exact ⟨by rw [hz]; rfl, rfl⟩
      · go_wp2_with (first | (go_at_call 34; refine (among_calls _ _ _ _).mono ?_; rintro e w' ⟨rfl, rfl⟩))
        go_ret2
        have hz : dec (S.data.toList.drop i) = none := by rw [HD.out, dec_two (by omega), Ac.bad (v := v) (k := k) (by omega) (by omega)]; rfl
        exact ⟨by rw [hz]; rfl, rfl⟩
    · obtain rfl : k = 2 - 1 := by omega
      have HE := Lib.hid (show dec (S.data.toList.drop i) = fin 2 128 v by rw [HD.out, dec_two (by omega)]; have h9 := HA.out; unfold Ac at h9; rw [h9]; rfl)
      by_cases q1 : (v : Int) < 128
      · go_wp2_with (first | (go_at_call 34; refine (among_calls _ _ _ _).mono ?_; rintro e w' ⟨rfl, rfl⟩))
        go_ret2
        exact ⟨by rw [HE.out, fin_no (Or.inl (by omega))]; rfl, rfl⟩
      · by_cases q2 : (v : Int) ≤ 1114111
        · by_cases q3 : among v 55296 57343 = true
          · go_wp2_with (first | (go_at_call 34; refine (among_calls _ _ _ _).mono ?_; rintro e w' ⟨rfl, rfl⟩))
            go_ret2
            exact ⟨by rw [HE.out, fin_no (Or.inr (Or.inr q3))]; rfl, rfl⟩
          · have q3 : among v 55296 57343 = false := by simpa using q3
            go_wp2_with (first | (go_at_call 34; refine (among_calls _ _ _ _).mono ?_; rintro e w' ⟨rfl, rfl⟩))
            go_ret2
            exact ⟨by rw [HE.out, fin_ok (by omega) q2 q3]; rfl, rfl⟩
        · go_wp2_with (first | (go_at_call 34; refine (among_calls _ _ _ _).mono ?_; rintro e w' ⟨rfl, rfl⟩))
          go_ret2
          exact ⟨by rw [HE.out, fin_no (Or.inr (Or.inl (by omega)))]; rfl, rfl⟩

set_option maxRecDepth 100000 in
set_option maxHeartbeats 4000000 in
theorem point_three (S : ByteArray) (i : Nat) (w : World) (hi : i < S.size) (hS : S.size ≤ 4096) (h : 224 ≤ (S[i]).toNat ∧ (S[i]).toNat ≤ 239) :
    Calls Tryd.prog 66 #[.string S, .int .i64 i] w (Post S i w) := by
  have hb := (S[i]).toNat_lt
  have hd := drop_at hi
  have HD := Lib.hid hd
  clear hd
  have hlow : decide (((S[i]).toNat : Int) < 128) = false := by simp; omega
  have ha192 : among ((S[i]).toNat : Int) 192 223 = false := among_not.2 (by omega)
  have ha224 : among ((S[i]).toNat : Int) 224 239 = true := among_iff.2 (by omega)
  go_enter Tryd.func66, Tryd.ntmps66
  go_wp2_with (first | (go_at_call 34; refine (among_calls _ _ _ _).mono ?_; rintro e w' ⟨rfl, rfl⟩))
  go_loop [8, 10] (fun x8 x10 => ∃ k v : Nat, k + 1 ≤ 3 ∧ x10 = .int .i64 ((k + 1 : Nat) : Int) ∧ x8 = .int .i64 (v : Int) ∧ Ac S i ((S[i]).toNat - 224) k v ∧ Bd k v) (fun _ x10 => 3 - (intOf x10).toNat)
  case atStart => exact ⟨0, (S[i]).toNat - 224, by omega, rfl, by rw [show (((S[i]).toNat - 224 : Nat) : Int) = ((S[i]).toNat : Int) - 224 by omega], rfl, by unfold Bd; omega⟩
  case round =>
    obtain ⟨k, v, hk, rfl, rfl, hA, hB⟩ := hrel
    have HA := Lib.hid hA
    have hB' := hB.le
    have HB := Lib.hid hB
    clear hB hA
    by_cases hlt : k + 1 < 3
    · by_cases h1 : i + (k + 1) < S.size
      · have hu := (S[i + (k + 1)]).toNat_lt
        by_cases h2 : 128 ≤ (S[i + (k + 1)]).toNat ∧ (S[i + (k + 1)]).toNat ≤ 191
        · have hg : among ((S[i + (k + 1)]).toNat : Int) 128 191 = true := among_iff.2 (by omega)
          go_wp2_with (first | (go_at_call 34; refine (among_calls _ _ _ _).mono ?_; rintro e w' ⟨rfl, rfl⟩))
          go_round
          case rel => exact ⟨k + 1, _, by omega, by go_num, by rw [show (v : Int) * 64 + ((S[i + (k + 1)]).toNat : Int) - 128 = ((v * 64 + (S[i + (k + 1)]).toNat - 128 : Nat) : Int) by omega], HA.out.next h1 h2, HB.out.next (by omega) h2⟩
          case measure => simp [intOf]; omega
        · have hg : among ((S[i + (k + 1)]).toNat : Int) 128 191 = false := among_not.2 (by omega)
          go_wp2_with (first | (go_at_call 34; refine (among_calls _ _ _ _).mono ?_; rintro e w' ⟨rfl, rfl⟩))
          go_ret2
          have hz : dec (S.data.toList.drop i) = none := by rw [HD.out, dec_three (by omega), Ac.bad2 (v := v) h1 h2 (by omega)]; rfl
          exact ⟨by rw [hz]; rfl, rfl⟩
      · go_wp2_with (first | (go_at_call 34; refine (among_calls _ _ _ _).mono ?_; rintro e w' ⟨rfl, rfl⟩))
        go_ret2
        have hz : dec (S.data.toList.drop i) = none := by rw [HD.out, dec_three (by omega), Ac.bad (v := v) (k := k) (by omega) (by omega)]; rfl
        exact ⟨by rw [hz]; rfl, rfl⟩
    · obtain rfl : k = 3 - 1 := by omega
      have HE := Lib.hid (show dec (S.data.toList.drop i) = fin 3 2048 v by rw [HD.out, dec_three (by omega)]; have h9 := HA.out; unfold Ac at h9; rw [h9]; rfl)
      by_cases q1 : (v : Int) < 2048
      · go_wp2_with (first | (go_at_call 34; refine (among_calls _ _ _ _).mono ?_; rintro e w' ⟨rfl, rfl⟩))
        go_ret2
        exact ⟨by rw [HE.out, fin_no (Or.inl (by omega))]; rfl, rfl⟩
      · by_cases q2 : (v : Int) ≤ 1114111
        · by_cases q3 : among v 55296 57343 = true
          · go_wp2_with (first | (go_at_call 34; refine (among_calls _ _ _ _).mono ?_; rintro e w' ⟨rfl, rfl⟩))
            go_ret2
            exact ⟨by rw [HE.out, fin_no (Or.inr (Or.inr q3))]; rfl, rfl⟩
          · have q3 : among v 55296 57343 = false := by simpa using q3
            go_wp2_with (first | (go_at_call 34; refine (among_calls _ _ _ _).mono ?_; rintro e w' ⟨rfl, rfl⟩))
            go_ret2
            exact ⟨by rw [HE.out, fin_ok (by omega) q2 q3]; rfl, rfl⟩
        · go_wp2_with (first | (go_at_call 34; refine (among_calls _ _ _ _).mono ?_; rintro e w' ⟨rfl, rfl⟩))
          go_ret2
          exact ⟨by rw [HE.out, fin_no (Or.inr (Or.inl (by omega)))]; rfl, rfl⟩

set_option maxRecDepth 100000 in
set_option maxHeartbeats 4000000 in
theorem point_four (S : ByteArray) (i : Nat) (w : World) (hi : i < S.size) (hS : S.size ≤ 4096) (h : 240 ≤ (S[i]).toNat ∧ (S[i]).toNat ≤ 247) :
    Calls Tryd.prog 66 #[.string S, .int .i64 i] w (Post S i w) := by
  have hb := (S[i]).toNat_lt
  have hd := drop_at hi
  have HD := Lib.hid hd
  clear hd
  have hlow : decide (((S[i]).toNat : Int) < 128) = false := by simp; omega
  have ha192 : among ((S[i]).toNat : Int) 192 223 = false := among_not.2 (by omega)
  have ha224 : among ((S[i]).toNat : Int) 224 239 = false := among_not.2 (by omega)
  have ha240 : among ((S[i]).toNat : Int) 240 247 = true := among_iff.2 (by omega)
  go_enter Tryd.func66, Tryd.ntmps66
  go_wp2_with (first | (go_at_call 34; refine (among_calls _ _ _ _).mono ?_; rintro e w' ⟨rfl, rfl⟩))
  go_loop [8, 10] (fun x8 x10 => ∃ k v : Nat, k + 1 ≤ 4 ∧ x10 = .int .i64 ((k + 1 : Nat) : Int) ∧ x8 = .int .i64 (v : Int) ∧ Ac S i ((S[i]).toNat - 240) k v ∧ Bd k v) (fun _ x10 => 4 - (intOf x10).toNat)
  case atStart => exact ⟨0, (S[i]).toNat - 240, by omega, rfl, by rw [show (((S[i]).toNat - 240 : Nat) : Int) = ((S[i]).toNat : Int) - 240 by omega], rfl, by unfold Bd; omega⟩
  case round =>
    obtain ⟨k, v, hk, rfl, rfl, hA, hB⟩ := hrel
    have HA := Lib.hid hA
    have hB' := hB.le
    have HB := Lib.hid hB
    clear hB hA
    by_cases hlt : k + 1 < 4
    · by_cases h1 : i + (k + 1) < S.size
      · have hu := (S[i + (k + 1)]).toNat_lt
        by_cases h2 : 128 ≤ (S[i + (k + 1)]).toNat ∧ (S[i + (k + 1)]).toNat ≤ 191
        · have hg : among ((S[i + (k + 1)]).toNat : Int) 128 191 = true := among_iff.2 (by omega)
          go_wp2_with (first | (go_at_call 34; refine (among_calls _ _ _ _).mono ?_; rintro e w' ⟨rfl, rfl⟩))
          go_round
          case rel => exact ⟨k + 1, _, by omega, by go_num, by rw [show (v : Int) * 64 + ((S[i + (k + 1)]).toNat : Int) - 128 = ((v * 64 + (S[i + (k + 1)]).toNat - 128 : Nat) : Int) by omega], HA.out.next h1 h2, HB.out.next (by omega) h2⟩
          case measure => simp [intOf]; omega
        · have hg : among ((S[i + (k + 1)]).toNat : Int) 128 191 = false := among_not.2 (by omega)
          go_wp2_with (first | (go_at_call 34; refine (among_calls _ _ _ _).mono ?_; rintro e w' ⟨rfl, rfl⟩))
          go_ret2
          have hz : dec (S.data.toList.drop i) = none := by rw [HD.out, dec_four (by omega), Ac.bad2 (v := v) h1 h2 (by omega)]; rfl
          exact ⟨by rw [hz]; rfl, rfl⟩
      · go_wp2_with (first | (go_at_call 34; refine (among_calls _ _ _ _).mono ?_; rintro e w' ⟨rfl, rfl⟩))
        go_ret2
        have hz : dec (S.data.toList.drop i) = none := by rw [HD.out, dec_four (by omega), Ac.bad (v := v) (k := k) (by omega) (by omega)]; rfl
        exact ⟨by rw [hz]; rfl, rfl⟩
    · obtain rfl : k = 4 - 1 := by omega
      have HE := Lib.hid (show dec (S.data.toList.drop i) = fin 4 65536 v by rw [HD.out, dec_four (by omega)]; have h9 := HA.out; unfold Ac at h9; rw [h9]; rfl)
      by_cases q1 : (v : Int) < 65536
      · go_wp2_with (first | (go_at_call 34; refine (among_calls _ _ _ _).mono ?_; rintro e w' ⟨rfl, rfl⟩))
        go_ret2
        exact ⟨by rw [HE.out, fin_no (Or.inl (by omega))]; rfl, rfl⟩
      · by_cases q2 : (v : Int) ≤ 1114111
        · by_cases q3 : among v 55296 57343 = true
          · go_wp2_with (first | (go_at_call 34; refine (among_calls _ _ _ _).mono ?_; rintro e w' ⟨rfl, rfl⟩))
            go_ret2
            exact ⟨by rw [HE.out, fin_no (Or.inr (Or.inr q3))]; rfl, rfl⟩
          · have q3 : among v 55296 57343 = false := by simpa using q3
            go_wp2_with (first | (go_at_call 34; refine (among_calls _ _ _ _).mono ?_; rintro e w' ⟨rfl, rfl⟩))
            go_ret2
            exact ⟨by rw [HE.out, fin_ok (by omega) q2 q3]; rfl, rfl⟩
        · go_wp2_with (first | (go_at_call 34; refine (among_calls _ _ _ _).mono ?_; rintro e w' ⟨rfl, rfl⟩))
          go_ret2
          exact ⟨by rw [HE.out, fin_no (Or.inr (Or.inl (by omega)))]; rfl, rfl⟩

set_option maxRecDepth 100000 in
set_option maxHeartbeats 4000000 in
theorem point_calls (S : ByteArray) (i : Nat) (w : World) (hi : i < S.size) (hS : S.size ≤ 4096) :
    Calls Tryd.prog 66 #[.string S, .int .i64 i] w (Post S i w) := by
  by_cases h2 : 192 ≤ (S[i]).toNat ∧ (S[i]).toNat ≤ 223
  · exact point_two S i w hi hS h2
  by_cases h3 : 224 ≤ (S[i]).toNat ∧ (S[i]).toNat ≤ 239
  · exact point_three S i w hi hS h3
  by_cases h4 : 240 ≤ (S[i]).toNat ∧ (S[i]).toNat ≤ 247
  · exact point_four S i w hi hS h4
  have hb := (S[i]).toNat_lt
  have hd := drop_at hi
  have HD := Lib.hid hd
  clear hd
  have ha1 : among ((S[i]).toNat : Int) 192 223 = false := among_not.2 (by omega)
  have ha2 : among ((S[i]).toNat : Int) 224 239 = false := among_not.2 (by omega)
  have ha3 : among ((S[i]).toNat : Int) 240 247 = false := among_not.2 (by omega)
  by_cases h1 : (S[i]).toNat < 128
  · go_enter Tryd.func66, Tryd.ntmps66
    go_wp2
    go_ret2
    refine ⟨?_, rfl⟩
    rw [HD.out, dec_one (by omega)]; rfl
  · go_enter Tryd.func66, Tryd.ntmps66
    go_wp2_with (first | (go_at_call 34; refine (among_calls _ _ _ _).mono ?_; rintro e w' ⟨rfl, rfl⟩))
    go_ret2
    refine ⟨?_, rfl⟩
    rw [HD.out, dec_else (by omega) (by omega)]; rfl
end Go.Proofs.YtklhfbgmadblcaaDoor
