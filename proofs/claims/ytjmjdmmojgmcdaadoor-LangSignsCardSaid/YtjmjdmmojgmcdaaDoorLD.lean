/- The reader's name, variable, into, out. -/
import Derived.Test.YtjmjdmmojgmcdaaDoorLC
namespace Go.Proofs.YtjmjdmmojgmcdaaDoor
open Go.RowKit
set_option linter.unusedVariables false
set_option linter.unusedSimpArgs false
attribute [local go_sem ↓] Go.wp_at_zero Go.wp_at_succ

set_option maxRecDepth 100000 in
set_option maxHeartbeats 1000000 in
theorem word_calls (x : List UInt8) (w : World) : Calls Tryd.prog 75 #[.string ⟨x.toArray⟩] w fun e w' => e = .returned (.bool (wordS x)) ∧ Fr No w w' := by
  obtain ⟨R, hR⟩ : ∃ R, wordS x = R := ⟨_, rfl⟩
  rw [hR]
  have HR := Lib.hid hR
  clear hR
  go_enter Tryd.func75, Tryd.ntmps75
  go_wp2_with fail
  all_goals (go_ret; exact ⟨by rw [← HR.out]; simp_all [wordS, words, vars_, any_, skip_, stop_, mark_, choose_, or_, loop_, if_, else_, while_], Fr.refl _ _⟩)

set_option maxRecDepth 100000 in
set_option maxHeartbeats 1000000 in
theorem name_rdr {w : World} {b : Nat} {lv nv mv : Value} {o : Nat} {toks r : List Tok} (h : Rdr w b lv nv mv o toks r) :
    Calls Tryd.prog 44 #[.pointer (some ⟨b, 0, none⟩)] w fun e w' => e = .returned (.bool (nameS r)) ∧ Rdr w' b lv nv mv o toks r ∧ Fr No w w' := by
  obtain ⟨R, hR⟩ : ∃ R, nameS r = R := ⟨_, rfl⟩
  rw [hR]
  obtain ⟨K, hK⟩ : ∃ K, (hereT r).kind = K := ⟨_, rfl⟩
  obtain ⟨T, hT⟩ : ∃ T, (hereT r).text = T := ⟨_, rfl⟩
  have hR2 := hR
  unfold nameS at hR2
  rw [hK, hT] at hR2
  obtain ⟨W, hW⟩ : ∃ W, wordS T = W := ⟨_, rfl⟩
  rw [hW] at hR2
  have HW := Lib.hid (And.intro hR2 (And.intro hW (And.intro hK hT)))
  clear hR hR2 hW
  go_enter Tryd.func44, Tryd.ntmps44
  go_wp2_with fail
  refine (here_rdr h).mono ?_
  rintro e w1 ⟨rfl, h1, hf1⟩
  simp only [tokC]
  rw [hK, hT]
  by_cases hk : K = 1
  · have e : R = !W := by rw [← HW.out.1]; simp [hk]
    have HE := Lib.hid e
    subst hk
    clear e hK hT h
    have hfk := fld_kind
    have hft := fld_text
    go_wp2_with fail
    refine (here_rdr h1).mono ?_
    rintro e w2 ⟨rfl, h2, hf2⟩
    simp only [tokC]
    rw [HW.out.2.2.1, HW.out.2.2.2]
    go_wp2_with fail
    refine (word_calls T _).mono ?_
    rintro e w3 ⟨rfl, hf3⟩
    rw [HW.out.2.1]
    go_wp2_with fail
    go_ret
    exact ⟨by rw [HE.out]; rfl, h2.no hf3, (hf1.callNo hf2).callNo hf3⟩
  · have e : R = false := by rw [← HW.out.1]; simp [hk]
    have b1 : (K == 1) = false := by simpa using hk
    have HE := Lib.hid e
    clear e hK hT h hk
    have hfk := fld_kind
    go_wp2_with fail
    go_ret
    exact ⟨by rw [HE.out]; rfl, h1, hf1⟩

set_option maxRecDepth 100000 in
set_option maxHeartbeats 1000000 in
theorem into_rdr {w : World} {b : Nat} {lv nv mv : Value} {o : Nat} {toks r : List Tok} (hl : toks.length ≤ 100000) (x : List UInt8) (h : Rdr w b lv nv mv o toks r) :
    Calls Tryd.prog 90 #[.pointer (some ⟨b, 0, none⟩), .string ⟨x.toArray⟩] w fun e w' => Fr (· = b) w w' ∧ match intoS x o r with
      | .error (c, p) => Threw c p e
      | .ok r1 => e = .returned (.tuple #[]) ∧ Rdr w' b lv nv mv (o + 1) toks r1 := by
  by_cases hs : (hereT r).kind = 3 ∧ (hereT r).text = x
  · by_cases ho : 16 ≤ o
    · have e : intoS x o r = .error (83, (hereT r).at_) := by unfold intoS; rw [if_neg (by simpa using hs), if_pos ho]
      rw [e]
      obtain ⟨hk, hx⟩ := hs
      have hd : decide ((o : Int) < 16) = false := by simp; omega
      clear e ho
      go_enter Tryd.func90, Tryd.ntmps90
      go_wp2_with fail
      refine (here_rdr h).mono ?_
      rintro e w1 ⟨rfl, h1, hf1⟩
      simp only [tokC]
      rw [hk, hx]
      clear hk hx
      go_wp2_with fail
      refine (need_true b _ _).mono ?_
      rintro e w2 ⟨rfl, rfl⟩
      obtain ⟨i, y, a, hb, ht⟩ := h1.no ((Fr.refl No w1).alloc (.cells #[.int .i64 3, .string ⟨x.toArray⟩, .int .i64 (hereT r).at_.b, .int .i64 (hereT r).at_.g, .int .i64 (hereT r).at_.l, .int .i64 (hereT r).at_.c] 59 (0, 0)))
      have R := Blk.all hb
      have Z := Blk.frees hb
      have hbl := hb.lt
      have HB := Lib.hid (And.intro a (And.intro hb ht))
      clear a hb ht h1 h
      go_wp2_with fail
      refine (need_rdr ⟨i, y, HB.out.1, HB.out.2.1, HB.out.2.2⟩ 83).mono ?_
      rintro e w3 ⟨ht, hf3⟩
      unfold Threw at ht
      subst ht
      go_wp2_with fail
      exact ⟨rfl, ((Fr.ofNo hf1).alloc _).callNo hf3, rfl⟩
    · have e : intoS x o r = .ok (passT r) := by unfold intoS; rw [if_neg (by simpa using hs), if_neg ho]
      rw [e]
      obtain ⟨hk, hx⟩ := hs
      have hd : decide ((o : Int) < 16) = true := by simp; omega
      have ho2 : o < 16 := by omega
      clear e ho
      go_enter Tryd.func90, Tryd.ntmps90
      go_wp2_with fail
      refine (here_rdr h).mono ?_
      rintro e w1 ⟨rfl, h1, hf1⟩
      simp only [tokC]
      rw [hk, hx]
      clear hk hx
      go_wp2_with fail
      refine (need_true b _ _).mono ?_
      rintro e w2 ⟨rfl, rfl⟩
      obtain ⟨i, y, a, hb, ht⟩ := h1.no ((Fr.refl No w1).alloc (.cells #[.int .i64 3, .string ⟨x.toArray⟩, .int .i64 (hereT r).at_.b, .int .i64 (hereT r).at_.g, .int .i64 (hereT r).at_.l, .int .i64 (hereT r).at_.c] 59 (0, 0)))
      have R := Blk.all hb
      have Z := Blk.frees hb
      have hbl := hb.lt
      have HB := Lib.hid (And.intro a (And.intro hb ht))
      clear a hb ht h1 h
      go_wp2_with fail
      refine (need_true b _ _).mono ?_
      rintro e w3 ⟨rfl, rfl⟩
      go_wp2_with fail
      have hq := ((Fr.ofNo (S := (· = b)) hf1).alloc (.cells #[.int .i64 3, .string ⟨x.toArray⟩, .int .i64 (hereT r).at_.b, .int .i64 (hereT r).at_.g, .int .i64 (hereT r).at_.l, .int .i64 (hereT r).at_.c] 59 (0, 0))).setCell (a := ⟨b, 3, none⟩) (.int .i64 ((o : Int) + 1)) (fun _ => rfl)
      have hb3 := (HB.out.2.1.setOff 3 (.int .i64 ((o : Int) + 1)))
      have ht3 := HB.out.2.2.no ((Fr.refl (· = b) _).setCell (a := ⟨b, 3, none⟩) (.int .i64 ((o : Int) + 1)) (fun _ => rfl))
      refine (pass_rdr (o := o + 1) (r := r) hl ⟨i, y, HB.out.1, hb3, ht3⟩).mono ?_
      rintro e w4 ⟨rfl, h4, hf4⟩
      go_wp2_with fail
      go_end0
      exact ⟨hq.call hf4 (fun _ _ x => x), rfl, h4⟩
  · have e : intoS x o r = .error (80, (hereT r).at_) := by unfold intoS; rw [if_pos (by simpa using hs)]
    rw [e]
    obtain ⟨K, hK⟩ : ∃ K, (hereT r).kind = K := ⟨_, rfl⟩
    obtain ⟨T, hT⟩ : ∃ T, (hereT r).text = T := ⟨_, rfl⟩
    rw [hK, hT] at hs
    clear e
    by_cases hk : K = 3
    · have hx : (T == x) = false := by rw [beq_eq_false_iff_ne]; exact fun h => hs ⟨hk, h⟩
      subst hk
      clear hs
      go_enter Tryd.func90, Tryd.ntmps90
      go_wp2_with fail
      refine (here_rdr h).mono ?_
      rintro e w1 ⟨rfl, h1, hf1⟩
      simp only [tokC]
      rw [hK, hT]
      clear hK hT h
      go_wp2_with fail
      refine (need_rdr (h1.no ((Fr.refl No w1).alloc _)) 80).mono ?_
      rintro e w3 ⟨ht, hf3⟩
      unfold Threw at ht
      subst ht
      go_wp2_with fail
      exact ⟨rfl, ((Fr.ofNo hf1).alloc _).callNo hf3, rfl⟩
    · have b1 : (K == 3) = false := by simpa using hk
      clear hs hk
      go_enter Tryd.func90, Tryd.ntmps90
      go_wp2_with fail
      refine (here_rdr h).mono ?_
      rintro e w1 ⟨rfl, h1, hf1⟩
      simp only [tokC]
      rw [hK, hT]
      clear hK hT h
      go_wp2_with fail
      refine (need_rdr (h1.no ((Fr.refl No w1).alloc _)) 80).mono ?_
      rintro e w3 ⟨ht, hf3⟩
      unfold Threw at ht
      subst ht
      go_wp2_with fail
      exact ⟨rfl, ((Fr.ofNo hf1).alloc _).callNo hf3, rfl⟩

set_option maxRecDepth 100000 in
set_option maxHeartbeats 1000000 in
theorem out_rdr {w : World} {b : Nat} {lv nv mv : Value} {o : Nat} {toks r : List Tok} (hl : toks.length ≤ 100000) (hom : o ≤ 1000) (x : List UInt8) (h : Rdr w b lv nv mv (o + 1) toks r) :
    Calls Tryd.prog 91 #[.pointer (some ⟨b, 0, none⟩), .string ⟨x.toArray⟩] w fun e w' => Fr (· = b) w w' ∧ match mustS x r with
      | .error (c, p) => Threw c p e
      | .ok r1 => e = .returned (.tuple #[]) ∧ Rdr w' b lv nv mv o toks r1 := by
  cases hx : isT x r with
  | true =>
    have e : mustS x r = .ok (passT r) := by unfold mustS; rw [if_pos hx]
    rw [e]
    go_enter Tryd.func91, Tryd.ntmps91
    go_wp2_with fail
    refine (must_yes hl x h hx).mono ?_
    rintro e w1 ⟨rfl, ⟨i, y, a, hb, ht⟩, hf1⟩
    have R := Blk.all hb
    have Z := Blk.frees hb
    have HB := Lib.hid (And.intro a (And.intro hb ht))
    clear a hb ht h
    go_wp2_with fail
    go_end0
    have hb3 := HB.out.2.1.setOff 3 (.int .i64 (o : Int))
    have ht3 := HB.out.2.2.no ((Fr.refl (· = b) _).setCell (a := ⟨b, 3, none⟩) (.int .i64 (o : Int)) (fun _ => rfl))
    exact ⟨hf1.setCell (a := ⟨b, 3, none⟩) _ (fun _ => rfl), rfl, ⟨i, y, HB.out.1, hb3, ht3⟩⟩
  | false =>
    have e : mustS x r = .error (80, (hereT r).at_) := by unfold mustS; rw [if_neg (by simp [hx])]
    rw [e]
    go_enter Tryd.func91, Tryd.ntmps91
    go_wp2_with fail
    refine (must_no hl x h hx).mono ?_
    rintro e w1 ⟨ht, hf1⟩
    unfold Threw at ht
    subst ht
    go_wp2_with fail
    exact ⟨rfl, hf1, rfl⟩

/-- names that can be read -/
def NmAt (w : World) (b : Nat) (nv : Value) (nm : List (List UInt8)) : Prop :=
  ∃ a c, nv = .slice a nm.length c ∧ ∀ i x, nm[i]? = some x → ∃ g off, a = some ⟨g, off, none⟩ ∧ w.cell? ⟨g, off + i, none⟩ = some (.string ⟨x.toArray⟩) ∧ g ≠ b
theorem NmAt.no {S : Nat → Prop} {w w' : World} {b : Nat} {nv : Value} {nm : List (List UInt8)} (h : NmAt w b nv nm) (f : Fr S w w') (hS : ∀ k, k ≠ b → ¬ S k := by intro k hk; first | exact hk | exact fun x => x) : NmAt w' b nv nm := by
  obtain ⟨a, c, rfl, hc⟩ := h
  refine ⟨a, c, rfl, fun i x hx => ?_⟩
  obtain ⟨g, off, rfl, h1, h2⟩ := hc i x hx
  refine ⟨g, off, rfl, ?_, h2⟩
  have hlt : g < w.heap.size := by
    rcases Nat.lt_or_ge g w.heap.size with hh | hh
    · exact hh
    · simp [World.cell?, hh] at h1
  rw [← h1]
  exact World.cell?_of_block (f.block g hlt (hS g h2))
/-- a name's number, -1: it is none -/
def varI (nm : List (List UInt8)) (x : List UInt8) : Int := match varS nm x with
  | none => -1
  | some v => v
theorem varS_here {nm : List (List UInt8)} {x : List UInt8} {k : Nat} (hk : k < nm.length) (h0 : ∀ j, j < k → nm[j]? ≠ some x) (h : nm[k]? = some x) : varS nm x = some k := by
  unfold varS
  rw [List.findIdx?_eq_some_iff_getElem]
  refine ⟨hk, ?_, fun j hj => ?_⟩
  · have := (List.getElem?_eq_some_iff.1 h).2
    simp [this]
  · have h1 := h0 j hj
    have hj2 : j < nm.length := by omega
    rw [List.getElem?_eq_getElem hj2] at h1
    simpa using h1
theorem varS_none {nm : List (List UInt8)} {x : List UInt8} (h0 : ∀ j, j < nm.length → nm[j]? ≠ some x) : varS nm x = none := by
  unfold varS
  rw [List.findIdx?_eq_none_iff]
  intro y hy
  obtain ⟨j, hj, rfl⟩ := List.mem_iff_getElem.1 hy
  have h1 := h0 j hj
  rw [List.getElem?_eq_getElem hj] at h1
  simpa using h1

set_option maxRecDepth 100000 in
set_option maxHeartbeats 1000000 in
theorem variable_rdr {w : World} {b : Nat} {lv nv mv : Value} {i o : Nat} {nm : List (List UInt8)} (hl : nm.length ≤ 100000) (x : List UInt8) (hb : Blk w b (rdC lv i nv o mv)) (hn : NmAt w b nv nm) :
    Calls Tryd.prog 46 #[.pointer (some ⟨b, 0, none⟩), .string ⟨x.toArray⟩] w fun e w' => e = .returned (.int .i64 (varI nm x)) ∧ Fr No w w' := by
  obtain ⟨V, hV⟩ : ∃ V, varI nm x = V := ⟨_, rfl⟩
  rw [hV]
  have HV := Lib.hid hV
  clear hV
  obtain ⟨a, c, rfl, hc⟩ := hn
  have R := Blk.all hb
  clear hb
  go_enter Tryd.func46, Tryd.ntmps46
  go_wp2_with fail
  go_loopg [12] nm.length (fun r x12 wr => ∃ k : Nat, r = nm.length - k ∧ k ≤ nm.length ∧ x12 = .int .i64 k ∧ wr = w ∧ ∀ j, j < k → nm[j]? ≠ some x)
  case atStart => exact ⟨0, rfl, Nat.zero_le _, rfl, rfl, fun j hj => by omega⟩
  case round =>
    obtain ⟨k, hr, hk, rfl, rfl, h0⟩ := hrel
    have HR := Lib.hid (And.intro hr h0)
    clear hr h0
    by_cases hlt : k < nm.length
    · obtain ⟨y, hy⟩ : ∃ y, nm[k]? = some y := ⟨nm[k], List.getElem?_eq_getElem hlt⟩
      obtain ⟨g, off, rfl, hcc, hgb⟩ := hc k y hy
      have HY := Lib.hid (And.intro hy hc)
      clear hy hc
      have i0 : (0 : Int) ≤ (k : Int) := by omega
      have i1 : (k : Int) < (nm.length : Int) := by omega
      by_cases hxy : x = y
      · have e : V = (k : Int) := by
          rw [← HV.out]
          unfold varI
          rw [varS_here hlt HR.out.2 (by rw [hxy]; exact HY.out.1)]
        subst e
        subst hxy
        go_wp2_with fail
        go_ret
        exact ⟨rfl, Fr.refl _ _⟩
      · have hxe : (x == y) = false := by rw [beq_eq_false_iff_ne]; exact hxy
        have HX := Lib.hid hxy
        clear hxy
        go_wp2_with fail
        go_roundg (nm.length - (k + 1))
        case measure => rw [HR.out.1]; omega
        case rel => exact ⟨k + 1, rfl, by omega, by go_num, rfl, fun j hj => by
          by_cases e : j = k
          · subst e; rw [HY.out.1]; exact fun h => HX.out (Option.some.inj h).symm
          · exact HR.out.2 j (by omega)⟩
    · obtain rfl : k = nm.length := by omega
      have e : V = -1 := by
        rw [← HV.out]
        unfold varI
        rw [varS_none HR.out.2]
      subst e
      clear hc hlt
      go_wp2_with fail
      go_ret
      exact ⟨rfl, Fr.refl _ _⟩
end Go.Proofs.YtjmjdmmojgmcdaaDoor
