/- Text, numbers, what Scan answers, frames, owned rows: the parts that hang on no function of the reference. -/
import Derived.Test.YtlklijpjacmgpaaGreatDoorRows
import GoSem.Core.Utf8
import Derived.Lib.Strings
import Derived.Lib.DecodeN
import Derived.Lib.RuneCount
import Derived.WalkKit
import Derived.WalkSpells
import Derived.WalkLawsBesides
import Derived.Lib.Hide
import Derived.Deep.Draws
import Derived.Deep.LoopGhost
import Derived.Deep.QuietTactic
import Derived.BigQuiet
import Derived.RegionTactic
import Derived.ChangeAlike
import Derived.StillTailTactics
import Derived.Deep.RegionWith
namespace Go.Proofs.YtlklijpjacmgpaaGreatDoor
open Go

/-- a code point that is written -/
def okc (c : Nat) : Bool := decide (c < 0xD800) || (decide (0xE000 ≤ c) && decide (c ≤ 0x10FFFF))
/-- its bytes -/
def enc (c : Nat) : List UInt8 :=
  if c < 0x80 then [UInt8.ofNat c]
  else if c < 0x800 then [UInt8.ofNat (0xC0 + c / 64), UInt8.ofNat (0x80 + c % 64)]
  else if c < 0x10000 then [UInt8.ofNat (0xE0 + c / 4096), UInt8.ofNat (0x80 + c / 64 % 64), UInt8.ofNat (0x80 + c % 64)]
  else [UInt8.ofNat (0xF0 + c / 262144), UInt8.ofNat (0x80 + c / 4096 % 64), UInt8.ofNat (0x80 + c / 64 % 64), UInt8.ofNat (0x80 + c % 64)]
/-- a byte that goes on: its six bits -/
def con (o : Option UInt8) : Option Nat := match o with
  | some b => if b.toNat / 64 = 2 then some (b.toNat % 64) else none
  | none => none
/-- the code point at the head of a list, and how many bytes it has -/
def dec (l : List UInt8) : Option (Nat × Nat) :=
  match l with
  | [] => none
  | b :: r =>
    if b.toNat < 0x80 then some (b.toNat, 1)
    else if b.toNat / 32 = 6 then
      (con r[0]?).bind fun x => if 0x80 ≤ b.toNat % 32 * 64 + x then some (b.toNat % 32 * 64 + x, 2) else none
    else if b.toNat / 16 = 14 then
      (con r[0]?).bind fun x => (con r[1]?).bind fun y =>
        if 0x800 ≤ b.toNat % 16 * 4096 + x * 64 + y ∧ okc (b.toNat % 16 * 4096 + x * 64 + y) = true then some (b.toNat % 16 * 4096 + x * 64 + y, 3) else none
    else if b.toNat / 8 = 30 then
      (con r[0]?).bind fun x => (con r[1]?).bind fun y => (con r[2]?).bind fun z =>
        if 0x10000 ≤ b.toNat % 8 * 262144 + x * 4096 + y * 64 + z ∧ okc (b.toNat % 8 * 262144 + x * 4096 + y * 64 + z) = true then some (b.toNat % 8 * 262144 + x * 4096 + y * 64 + z, 4) else none
    else none
theorem con_lt {o : Option UInt8} {x : Nat} (h : con o = some x) : x < 64 := by
  unfold con at h
  split at h
  · split at h
    · cases h; exact Nat.mod_lt _ (by omega)
    · cases h
  · cases h
theorem con_byte {o : Option UInt8} {x : Nat} (h : con o = some x) : o = some (UInt8.ofNat (0x80 + x)) := by
  unfold con at h
  split at h
  · rename_i b
    split at h
    · cases h
      congr 1
      apply UInt8.toNat_inj.mp
      have := b.toNat_lt
      simp only [UInt8.toNat_ofNat']
      omega
    · cases h
  · cases h
theorem con_mk {x : Nat} (h : x < 64) : con (some (UInt8.ofNat (0x80 + x))) = some x := by
  have e : (UInt8.ofNat (0x80 + x)).toNat = 0x80 + x := by simp only [UInt8.toNat_ofNat']; omega
  simp only [con, e]
  rw [if_pos (by omega)]
  congr 1
  omega
theorem okc_iff {c : Nat} : okc c = true ↔ c < 0xD800 ∨ (0xE000 ≤ c ∧ c ≤ 0x10FFFF) := by simp [okc]
theorem dec_enc {c : Nat} (hc : okc c = true) (r : List UInt8) : dec (enc c ++ r) = some (c, (enc c).length) := by
  have h := okc_iff.1 hc
  unfold enc
  by_cases h1 : c < 0x80
  · simp only [if_pos h1, List.cons_append, List.nil_append, dec]
    have e : (UInt8.ofNat c).toNat = c := by simp only [UInt8.toNat_ofNat']; omega
    simp only [e, if_pos h1, List.length_cons, List.length_nil]
  · rw [if_neg h1]
    by_cases h2 : c < 0x800
    · simp only [if_pos h2, List.cons_append, List.nil_append, dec]
      have e : (UInt8.ofNat (0xC0 + c / 64)).toNat = 0xC0 + c / 64 := by simp only [UInt8.toNat_ofNat']; omega
      simp only [e, List.getElem?_cons_zero, con_mk (show c % 64 < 64 by omega), Option.bind_some, List.length_cons, List.length_nil]
      rw [if_neg (by omega), if_pos (by omega), if_pos (by omega)]
      congr 2
      omega
    · rw [if_neg h2]
      by_cases h3 : c < 0x10000
      · simp only [if_pos h3, List.cons_append, List.nil_append, dec]
        have e : (UInt8.ofNat (0xE0 + c / 4096)).toNat = 0xE0 + c / 4096 := by simp only [UInt8.toNat_ofNat']; omega
        simp only [e, List.getElem?_cons_zero, List.getElem?_cons_succ, con_mk (show c % 64 < 64 by omega), con_mk (show c / 64 % 64 < 64 by omega), Option.bind_some, List.length_cons, List.length_nil]
        rw [if_neg (by omega), if_neg (by omega), if_pos (by omega)]
        have e2 : (0xE0 + c / 4096) % 16 * 4096 + c / 64 % 64 * 64 + c % 64 = c := by omega
        rw [e2, if_pos ⟨by omega, hc⟩]
      · simp only [if_neg h3, List.cons_append, List.nil_append, dec]
        have e : (UInt8.ofNat (0xF0 + c / 262144)).toNat = 0xF0 + c / 262144 := by simp only [UInt8.toNat_ofNat']; omega
        simp only [e, List.getElem?_cons_zero, List.getElem?_cons_succ, con_mk (show c % 64 < 64 by omega), con_mk (show c / 64 % 64 < 64 by omega), con_mk (show c / 4096 % 64 < 64 by omega), Option.bind_some, List.length_cons, List.length_nil]
        rw [if_neg (by omega), if_neg (by omega), if_neg (by omega), if_pos (by omega)]
        have e2 : (0xF0 + c / 262144) % 8 * 262144 + c / 4096 % 64 * 4096 + c / 64 % 64 * 64 + c % 64 = c := by omega
        rw [e2, if_pos ⟨by omega, hc⟩]
theorem drop_cons_of_get {l : List UInt8} {b : UInt8} (h : l[0]? = some b) : l = b :: l.drop 1 := by
  cases l with
  | nil => cases h
  | cons a r => simp at h; subst h; rfl
theorem byte_eq {b : UInt8} {n : Nat} (h : n = b.toNat) : UInt8.ofNat n = b := by
  subst h; simp
theorem dec_spec {l : List UInt8} {c n : Nat} (h : dec l = some (c, n)) : okc c = true ∧ n = (enc c).length ∧ l = enc c ++ l.drop n := by
  cases l with
  | nil => cases h
  | cons b r =>
    have hb := b.toNat_lt
    simp only [dec] at h
    split at h
    · rename_i h1
      simp only [Option.some.injEq, Prod.mk.injEq] at h
      obtain ⟨rfl, rfl⟩ := h
      refine ⟨okc_iff.2 (by omega), ?_, ?_⟩
      · simp [enc, if_pos h1]
      · simp [enc, if_pos h1]
    · split at h
      · rename_i h1 h2
        obtain ⟨x, hx, h⟩ := Option.bind_eq_some_iff.1 h
        split at h
        · rename_i h3
          simp only [Option.some.injEq, Prod.mk.injEq] at h
          obtain ⟨rfl, rfl⟩ := h
          have hx' := con_lt hx
          have er := drop_cons_of_get (con_byte hx)
          refine ⟨okc_iff.2 (by omega), ?_, ?_⟩
          · unfold enc; rw [if_neg (by omega), if_pos (by omega)]; rfl
          · unfold enc; rw [if_neg (by omega), if_pos (by omega), byte_eq (b := b) (by omega)]
            rw [show (b.toNat % 32 * 64 + x) % 64 = x by omega]
            simp only [List.cons_append, List.nil_append, List.drop_succ_cons, List.cons.injEq, true_and]
            exact er
        · cases h
      · split at h
        · rename_i h1 h2 h3
          obtain ⟨x, hx, h⟩ := Option.bind_eq_some_iff.1 h
          obtain ⟨y, hy, h⟩ := Option.bind_eq_some_iff.1 h
          split at h
          · rename_i h4
            simp only [Option.some.injEq, Prod.mk.injEq] at h
            obtain ⟨rfl, rfl⟩ := h
            have hx' := con_lt hx
            have hy' := con_lt hy
            have er := drop_cons_of_get (con_byte hx)
            have er2 := drop_cons_of_get (l := r.drop 1) (b := UInt8.ofNat (0x80 + y)) (by rw [← con_byte hy]; simp)
            refine ⟨h4.2, ?_, ?_⟩
            · unfold enc; rw [if_neg (by omega), if_neg (by omega), if_pos (by omega)]; rfl
            · unfold enc; rw [if_neg (by omega), if_neg (by omega), if_pos (by omega), byte_eq (b := b) (by omega)]
              rw [show (b.toNat % 16 * 4096 + x * 64 + y) / 64 % 64 = x by omega, show (b.toNat % 16 * 4096 + x * 64 + y) % 64 = y by omega]
              simp only [List.cons_append, List.nil_append, List.drop_succ_cons, List.cons.injEq, true_and]
              rw [List.drop_drop] at er2
              rw [← er2]; exact er
          · cases h
        · split at h
          · rename_i h1 h2 h3 h4
            obtain ⟨x, hx, h⟩ := Option.bind_eq_some_iff.1 h
            obtain ⟨y, hy, h⟩ := Option.bind_eq_some_iff.1 h
            obtain ⟨z, hz, h⟩ := Option.bind_eq_some_iff.1 h
            split at h
            · rename_i h5
              simp only [Option.some.injEq, Prod.mk.injEq] at h
              obtain ⟨rfl, rfl⟩ := h
              have hx' := con_lt hx
              have hy' := con_lt hy
              have hz' := con_lt hz
              have er := drop_cons_of_get (con_byte hx)
              have er2 := drop_cons_of_get (l := r.drop 1) (b := UInt8.ofNat (0x80 + y)) (by rw [← con_byte hy]; simp)
              have er3 := drop_cons_of_get (l := r.drop 2) (b := UInt8.ofNat (0x80 + z)) (by rw [← con_byte hz]; simp)
              refine ⟨h5.2, ?_, ?_⟩
              · unfold enc; rw [if_neg (by omega), if_neg (by omega), if_neg (by omega)]; rfl
              · unfold enc; rw [if_neg (by omega), if_neg (by omega), if_neg (by omega), byte_eq (b := b) (by omega)]
                rw [show (b.toNat % 8 * 262144 + x * 4096 + y * 64 + z) / 4096 % 64 = x by omega, show (b.toNat % 8 * 262144 + x * 4096 + y * 64 + z) / 64 % 64 = y by omega, show (b.toNat % 8 * 262144 + x * 4096 + y * 64 + z) % 64 = z by omega]
                simp only [List.cons_append, List.nil_append, List.drop_succ_cons, List.cons.injEq, true_and]
                rw [List.drop_drop] at er2 er3
                rw [← er3, ← er2]; exact er
            · cases h
          · cases h
theorem enc_pos (c : Nat) : 0 < (enc c).length := by
  unfold enc; repeat' split
  all_goals simp
theorem enc_le (c : Nat) : (enc c).length ≤ 4 := by
  unfold enc; repeat' split
  all_goals simp
theorem dec_pos {l : List UInt8} {c n : Nat} (h : dec l = some (c, n)) : 0 < n := by rw [(dec_spec h).2.1]; exact enc_pos c
theorem dec_le {l : List UInt8} {c n : Nat} (h : dec l = some (c, n)) : n ≤ l.length := by
  have h1 := congrArg List.length (dec_spec h).2.2
  have h2 := (dec_spec h).2.1
  simp at h1; omega
end Go.Proofs.YtlklijpjacmgpaaGreatDoor

namespace Go.Proofs.YtlklijpjacmgpaaGreatDoor
open Go
set_option linter.unusedVariables false
set_option linter.unusedSimpArgs false

theorem get_bang (s : ByteArray) (i : Nat) : s.get! i = (s.data.toList[i]?).getD 0 := by
  have : s.get! i = s.data[i]! := rfl
  rw [this, getElem!_def]
  cases h : s.data[i]? with
  | none => simp [h]; rfl
  | some x => simp [h]
theorem con_some (b : UInt8) : con (some b) = if b.toNat / 64 = 2 then some (b.toNat % 64) else none := rfl
theorem con_none : con none = none := rfl
set_option maxHeartbeats 1000000 in
theorem decode_head (s : ByteArray) (b : UInt8) (r : List UInt8) (h : s.data.toList = b :: r) : Utf8.decode s 0 = (dec (b :: r)).getD (65533, 1) := by
  have hn : s.size = r.length + 1 := by rw [Lib.size_eq, h]; rfl
  have g0 : s.get! 0 = b := by rw [get_bang, h]; rfl
  have g1 : s.get! 1 = (r[0]?).getD 0 := by rw [get_bang, h]; simp
  have g2 : s.get! 2 = (r[1]?).getD 0 := by rw [get_bang, h]; simp
  have g3 : s.get! 3 = (r[2]?).getD 0 := by rw [get_bang, h]; simp
  rw [Lib.decode_at, hn]
  simp only [Nat.zero_add, g0, g1, g2, g3, Nat.sub_zero]
  have hb := b.toNat_lt
  cases h0 : r[0]? with
  | none =>
    have hl : r.length = 0 := by simpa using h0
    have e1 : r[1]? = none := by simp [hl]
    have e2 : r[2]? = none := by simp [hl]
    simp only [dec, h0, e1, e2, con_none, Option.bind_none, Lib.decodeN, hl]
    by_cases c1 : b.toNat < 128
    · simp [c1]
    · simp [c1]
  | some x =>
    have hl : 0 < r.length := (List.getElem?_eq_some_iff.1 h0).1
    have hx := x.toNat_lt
    have l1 : (1 < r.length + 1) = True := eq_true (by omega)
    cases h1 : r[1]? with
    | none =>
      have hl1 : r.length ≤ 1 := by simpa using h1
      have e2 : r[2]? = none := by simp; omega
      have l2 : (2 < r.length + 1) = False := eq_false (by omega)
      simp only [dec, h0, h1, e2, con_none, con_some, Lib.decodeN, l1, l2, Option.getD_some, Option.getD_none, true_and, false_and, and_false, if_false]
      by_cases c1 : b.toNat < 128
      · simp [c1]
      · by_cases c2 : b.toNat / 32 = 6
        · by_cases c3 : x.toNat / 64 = 2
          · by_cases c4 : 128 ≤ b.toNat % 32 * 64 + x.toNat % 64 <;> simp [c1, c2, c3, c4]
          · simp [c1, c2, c3]
            repeat' split
            all_goals simp
        · simp [c1, c2]
          repeat' split
          all_goals simp
    | some y =>
      have hl1 : 1 < r.length := (List.getElem?_eq_some_iff.1 h1).1
      have hy := y.toNat_lt
      have l2 : (2 < r.length + 1) = True := eq_true (by omega)
      cases h2 : r[2]? with
      | none =>
        have hl2 : r.length ≤ 2 := by simpa using h2
        have l3 : (3 < r.length + 1) = False := eq_false (by omega)
        simp only [dec, h0, h1, h2, con_none, con_some, Lib.decodeN, l1, l2, l3, Option.getD_some, Option.getD_none, true_and, false_and, and_false, if_false]
        by_cases c1 : b.toNat < 128
        · simp [c1]
        · by_cases c2 : b.toNat / 32 = 6
          · by_cases c3 : x.toNat / 64 = 2
            · by_cases c4 : 128 ≤ b.toNat % 32 * 64 + x.toNat % 64 <;> simp [c1, c2, c3, c4]
            · have c5 : ¬ b.toNat / 16 = 14 := by omega
              simp [c1, c2, c3, c5]
          · by_cases c5 : b.toNat / 16 = 14
            · by_cases c3 : x.toNat / 64 = 2
              · by_cases c4 : y.toNat / 64 = 2
                · simp only [c1, c2, c3, c4, c5, if_true, if_false, false_and, true_and, and_true, Option.bind_some, okc_iff]
                  split <;> simp_all <;> grind
                · simp [c1, c2, c3, c4, c5]
              · simp [c1, c2, c3, c5]
            · simp [c1, c2, c5]
              repeat' split
              all_goals simp
      | some z =>
        have hl2 : 2 < r.length := (List.getElem?_eq_some_iff.1 h2).1
        have hz := z.toNat_lt
        have l3 : (3 < r.length + 1) = True := eq_true (by omega)
        simp only [dec, h0, h1, h2, con_some, Lib.decodeN, l1, l2, l3, Option.getD_some, true_and]
        by_cases c1 : b.toNat < 128
        · simp [c1]
        · by_cases c2 : b.toNat / 32 = 6
          · have c5 : ¬ b.toNat / 16 = 14 := by omega
            have c6 : ¬ b.toNat / 8 = 30 := by omega
            by_cases c3 : x.toNat / 64 = 2
            · by_cases c4 : 128 ≤ b.toNat % 32 * 64 + x.toNat % 64 <;> simp [c1, c2, c3, c4]
            · simp [c1, c2, c3, c5, c6]
          · by_cases c5 : b.toNat / 16 = 14
            · have c6 : ¬ b.toNat / 8 = 30 := by omega
              by_cases c3 : x.toNat / 64 = 2
              · by_cases c4 : y.toNat / 64 = 2
                · simp only [c1, c2, c3, c4, c5, if_true, if_false, false_and, true_and, and_true, Option.bind_some, okc_iff]
                  split <;> simp_all <;> grind
                · simp [c1, c2, c3, c4, c5, c6]
              · simp [c1, c2, c3, c5, c6]
            · by_cases c6 : b.toNat / 8 = 30
              · by_cases c3 : x.toNat / 64 = 2
                · by_cases c4 : y.toNat / 64 = 2
                  · by_cases c7 : z.toNat / 64 = 2
                    · simp only [c1, c2, c3, c4, c5, c6, c7, if_true, if_false, false_and, true_and, and_true, Option.bind_some, okc_iff]
                      split <;> simp_all <;> grind
                    · simp [c1, c2, c3, c4, c5, c6, c7]
                  · simp [c1, c2, c3, c4, c5, c6]
                · simp [c1, c2, c3, c5, c6]
              · simp [c1, c2, c5, c6]
theorem dec_no_err {l : List UInt8} {n : Nat} (h : dec l = some (65533, n)) : n = 3 := by
  rw [(dec_spec h).2.1]; rfl
/-- the text l is the code points cs, and then t, which begins with none -/
structure Txt (l : List UInt8) (cs : List Nat) (t : List UInt8) : Prop where
  eq : l = cs.flatMap enc ++ t
  ok : ∀ c ∈ cs, okc c = true
  stop : dec t = none
theorem Txt.nil {t : List UInt8} (h : dec t = none) : Txt t [] t := ⟨rfl, fun c hc => absurd hc (List.not_mem_nil), h⟩
theorem Txt.cons {l : List UInt8} {c : Nat} {cs : List Nat} {t : List UInt8} (hc : okc c = true) (h : Txt l cs t) : Txt (enc c ++ l) (c :: cs) t :=
  ⟨by rw [h.eq]; simp, fun d hd => by
    cases hd with
    | head => exact hc
    | tail _ hd => exact h.ok d hd, h.stop⟩
theorem Txt.ex_aux : ∀ (n : Nat) (l : List UInt8), l.length ≤ n → ∃ cs t, Txt l cs t
  | 0, l, h => ⟨[], l, Txt.nil (by cases l with | nil => rfl | cons _ _ => simp at h)⟩
  | n + 1, l, h => by
    cases hd : dec l with
    | none => exact ⟨[], l, Txt.nil hd⟩
    | some p =>
      obtain ⟨c, k⟩ := p
      obtain ⟨h1, h2, h3⟩ := dec_spec hd
      have hk := dec_pos hd
      obtain ⟨cs, t, ht⟩ := Txt.ex_aux n (l.drop k) (by simp; omega)
      exact ⟨c :: cs, t, by rw [h3]; exact Txt.cons h1 ht⟩
/-- every text is one -/
theorem Txt.ex (l : List UInt8) : ∃ cs t, Txt l cs t := Txt.ex_aux l.length l (Nat.le_refl _)
theorem Txt.dec_nil {l t : List UInt8} (h : Txt l [] t) : dec l = none ∧ l = t := by
  have : l = t := by simpa using h.eq
  exact ⟨this ▸ h.stop, this⟩
theorem Txt.dec_cons {l : List UInt8} {c : Nat} {cs : List Nat} {t : List UInt8} (h : Txt l (c :: cs) t) : dec l = some (c, (enc c).length) ∧ okc c = true ∧ Txt (l.drop (enc c).length) cs t := by
  have hc := h.ok c (List.mem_cons_self ..)
  have e : l = enc c ++ (cs.flatMap enc ++ t) := by rw [h.eq]; simp
  refine ⟨by rw [e]; exact dec_enc hc _, hc, ?_⟩
  refine ⟨by rw [e]; simp, fun d hd => h.ok d (List.mem_cons_of_mem _ hd), h.stop⟩
/-- there is only one -/
theorem Txt.uniq {l : List UInt8} {cs cs' : List Nat} {t t' : List UInt8} (h : Txt l cs t) (h' : Txt l cs' t') : cs = cs' ∧ t = t' := by
  induction cs generalizing l cs' with
  | nil =>
    cases cs' with
    | nil => exact ⟨rfl, h.dec_nil.2 ▸ h'.dec_nil.2 ▸ rfl⟩
    | cons c cs' => have := h.dec_nil.1; rw [h'.dec_cons.1] at this; cases this
  | cons c cs ih =>
    cases cs' with
    | nil => have := h'.dec_nil.1; rw [h.dec_cons.1] at this; cases this
    | cons c' cs' =>
      have e := h.dec_cons.1.symm.trans h'.dec_cons.1
      simp only [Option.some.injEq, Prod.mk.injEq] at e
      obtain ⟨rfl, _⟩ := e
      obtain ⟨e1, e2⟩ := ih h.dec_cons.2.2 h'.dec_cons.2.2
      exact ⟨by rw [e1], e2⟩
theorem flat_len_le (cs : List Nat) : cs.length ≤ (cs.flatMap enc).length := by
  induction cs with
  | nil => simp
  | cons c cs ih => have := enc_pos c; simp only [List.flatMap_cons, List.length_append, List.length_cons]; omega
theorem Txt.len {l : List UInt8} {cs : List Nat} {t : List UInt8} (h : Txt l cs t) : l.length = (cs.flatMap enc).length + t.length := by rw [h.eq]; simp
theorem Txt.len_le {l : List UInt8} {cs : List Nat} {t : List UInt8} (h : Txt l cs t) : cs.length ≤ l.length := by
  have := h.len; have := flat_len_le cs; omega
/-- places -/
structure Pl where
  b : Nat
  g : Nat
  l : Nat
  c : Nat
deriving DecidableEq

def behind (p : Pl) (c : Nat) : Pl := ⟨p.b + (enc c).length, p.g + 1, if c = 10 then p.l + 1 else p.l, if c = 10 then 1 else p.c + 1⟩
def along (p : Pl) (cs : List Nat) : Pl := cs.foldl behind p
theorem along_nil (p : Pl) : along p [] = p := rfl
theorem along_cons (p : Pl) (c : Nat) (cs : List Nat) : along p (c :: cs) = along (behind p c) cs := rfl
theorem along_append (p : Pl) (a b : List Nat) : along p (a ++ b) = along (along p a) b := List.foldl_append ..
theorem along_b (p : Pl) (cs : List Nat) : (along p cs).b = p.b + (cs.flatMap enc).length := by
  induction cs generalizing p with
  | nil => rfl
  | cons c cs ih => rw [along_cons, ih]; simp [behind]; omega
theorem along_g (p : Pl) (cs : List Nat) : (along p cs).g = p.g + cs.length := by
  induction cs generalizing p with
  | nil => rfl
  | cons c cs ih => rw [along_cons, ih]; simp [behind]; omega
theorem along_l (p : Pl) (cs : List Nat) : p.l ≤ (along p cs).l ∧ (along p cs).l ≤ p.l + cs.length := by
  induction cs generalizing p with
  | nil => exact ⟨Nat.le_refl _, Nat.le_refl _⟩
  | cons c cs ih =>
    rw [along_cons]
    have := ih (behind p c)
    have e : (behind p c).l = if c = 10 then p.l + 1 else p.l := rfl
    simp only [List.length_cons]
    split at e <;> omega
theorem along_c (p : Pl) (cs : List Nat) : (along p cs).c ≤ p.c + cs.length + 1 := by
  induction cs generalizing p with
  | nil => show p.c ≤ _; omega
  | cons c cs ih =>
    rw [along_cons]
    have := ih (behind p c)
    have e : (behind p c).c = if c = 10 then 1 else p.c + 1 := rfl
    simp only [List.length_cons]
    split at e <;> omega
def start : Pl := ⟨0, 0, 1, 1⟩
/-- a place within a text of n bytes -/
def Pl.fits (p : Pl) (n : Nat) : Prop := p.b ≤ n ∧ p.g ≤ n ∧ p.l ≤ n + 1 ∧ p.c ≤ n + 2
theorem along_fits {l : List UInt8} {cs ds : List Nat} {t : List UInt8} (h : Txt l (cs ++ ds) t) : (along start cs).fits l.length := by
  have h1 := h.len
  have h2 := flat_len_le cs
  have hb := along_b start cs
  have hg := along_g start cs
  have hl := along_l start cs
  have hc := along_c start cs
  simp only [List.flatMap_append, List.length_append] at h1
  simp only [start] at hb hg hl hc ⊢
  exact ⟨by omega, by omega, by omega, by omega⟩
/-- how many runes -/
theorem runeCount_flat (cs : List Nat) (hok : ∀ c ∈ cs, okc c = true) (s : ByteArray) :
    ∀ (fuel pos : Nat), s.data.toList.drop pos = cs.flatMap enc → pos ≤ s.size → cs.length ≤ fuel → Lib.runeCountFrom s fuel pos = cs.length := by
  induction cs with
  | nil =>
    intro fuel pos h hp _
    have : s.size ≤ pos := by
      have := congrArg List.length h
      rw [Lib.size_eq]; simp only [List.length_drop, List.flatMap_nil, List.length_nil] at this; omega
    exact Lib.runeCountFrom_end s fuel pos (by omega)
  | cons c cs ih =>
    intro fuel pos h hp hf
    obtain ⟨fuel, rfl⟩ : ∃ m, fuel = m + 1 := ⟨fuel - 1, by simp at hf; omega⟩
    have hl := congrArg List.length h
    have hc := enc_pos c
    have hsz := Lib.size_eq s
    simp only [List.length_drop, List.flatMap_cons, List.length_append] at hl
    have hlt : pos < s.size := by omega
    have hd : Utf8.decode s pos = (c, (enc c).length) := by
      have h0 := Lib.decode_at s pos
      obtain ⟨b, r, hbr⟩ : ∃ b r, s.data.toList.drop pos = b :: r := by
        cases hq : s.data.toList.drop pos with
        | nil => rw [hq] at h; have := congrArg List.length h; simp at this; omega
        | cons b r => exact ⟨b, r, rfl⟩
      have h1 := decode_head ⟨(s.data.toList.drop pos).toArray⟩ b r (by simpa using hbr)
      have e : Utf8.decode ⟨(s.data.toList.drop pos).toArray⟩ 0 = Utf8.decode s pos := by
        rw [Lib.decode_at, Lib.decode_at]
        have hs2 : (⟨(s.data.toList.drop pos).toArray⟩ : ByteArray).size = s.size - pos := by rw [Lib.size_eq, Lib.size_eq]; simp
        have hg : ∀ i, (⟨(s.data.toList.drop pos).toArray⟩ : ByteArray).get! i = s.get! (pos + i) := fun i => by
          rw [get_bang, get_bang]; simp
        simp only [hs2, hg, Nat.zero_add, Nat.sub_zero, Nat.add_zero]
      rw [← e, h1, ← hbr, h, List.flatMap_cons, dec_enc (hok c (List.mem_cons_self ..))]
      rfl
    unfold Lib.runeCountFrom
    rw [if_pos hlt, hd]
    simp only
    rw [ih (fun d hd => hok d (List.mem_cons_of_mem _ hd)) fuel (pos + (enc c).length) ?_ (by omega) (by simp at hf; omega)]
    · simp; omega
    · rw [← List.drop_drop, h, List.flatMap_cons, List.drop_left]
theorem runeCount_of (s : ByteArray) (cs : List Nat) (hok : ∀ c ∈ cs, okc c = true) (h : s.data.toList = cs.flatMap enc) : Lib.runeCount s = cs.length := by
  have := flat_len_le cs
  have hl := congrArg List.length h
  exact runeCount_flat cs hok s s.size 0 (by simpa using h) (Nat.zero_le _) (by rw [Lib.size_eq]; omega)
end Go.Proofs.YtlklijpjacmgpaaGreatDoor

namespace Go.Proofs.YtlklijpjacmgpaaGreatDoor
open Go
set_option linter.unusedVariables false
set_option linter.unusedSimpArgs false

/-- the number that digits to the base b say -/
def valB (b : Nat) : List Nat → Nat
  | [] => 0
  | d :: ds => d + b * valB b ds
/-- its digits -/
def dig (b n : Nat) : List Nat := if h : n = 0 ∨ b < 2 then [] else n % b :: dig b (n / b)
termination_by n
decreasing_by
  have : b ≥ 2 := by omega
  exact Nat.div_lt_self (by omega) (by omega)
theorem dig_zero (b : Nat) : dig b 0 = [] := by unfold dig; simp
theorem dig_pos {b n : Nat} (hb : 2 ≤ b) (hn : n ≠ 0) : dig b n = n % b :: dig b (n / b) := by
  rw [dig]; rw [dif_neg (by omega)]
theorem valB_append (b : Nat) (xs ys : List Nat) : valB b (xs ++ ys) = valB b xs + b ^ xs.length * valB b ys := by
  induction xs with
  | nil => simp [valB]
  | cons x xs ih => simp only [List.cons_append, valB, ih, List.length_cons, Nat.pow_succ]; rw [Nat.mul_add, Nat.mul_comm (b ^ _) b, Nat.mul_assoc]; omega
theorem valB_replicate (b n : Nat) : valB b (List.replicate n 0) = 0 := by
  induction n with
  | zero => rfl
  | succ n ih => simp [List.replicate_succ, valB, ih]
theorem valB_dig {b : Nat} (hb : 2 ≤ b) (n : Nat) : valB b (dig b n) = n := by
  induction n using Nat.strongRecOn with
  | _ n ih =>
    by_cases hn : n = 0
    · subst hn; simp [dig_zero, valB]
    · rw [dig_pos hb hn, valB, ih (n / b) (Nat.div_lt_self (by omega) (by omega))]
      have := Nat.mod_add_div n b
      omega
theorem valB_lt {b : Nat} (hb : 1 ≤ b) : ∀ {xs : List Nat}, (∀ x ∈ xs, x < b) → valB b xs < b ^ xs.length
  | [], _ => by simp [valB]
  | x :: xs, h => by
    have h1 := valB_lt hb (xs := xs) (fun y hy => h y (List.mem_cons_of_mem _ hy))
    have h2 := h x (List.mem_cons_self ..)
    simp only [valB, List.length_cons, Nat.pow_succ]
    have h3 : b * (valB b xs + 1) ≤ b * b ^ xs.length := Nat.mul_le_mul_left b h1
    rw [Nat.mul_comm (b ^ _) b]
    rw [Nat.mul_add] at h3
    omega
theorem dig_lt {b : Nat} (hb : 2 ≤ b) (n : Nat) : ∀ x ∈ dig b n, x < b := by
  induction n using Nat.strongRecOn with
  | _ n ih =>
    by_cases hn : n = 0
    · subst hn; simp [dig_zero]
    · rw [dig_pos hb hn]
      intro x hx
      cases hx with
      | head => exact Nat.mod_lt _ (by omega)
      | tail _ hx => exact ih (n / b) (Nat.div_lt_self (by omega) (by omega)) x hx
/-- without those 0 on top -/
def trimT : List Nat → List Nat
  | [] => []
  | x :: xs => match trimT xs with
    | [] => if x = 0 then [] else [x]
    | y :: ys => x :: y :: ys
theorem trimT_eq {b : Nat} (hb : 2 ≤ b) : ∀ {xs : List Nat}, (∀ x ∈ xs, x < b) → trimT xs = dig b (valB b xs)
  | [], _ => by simp [trimT, valB, dig_zero]
  | x :: xs, h => by
    have h1 := trimT_eq hb (xs := xs) (fun y hy => h y (List.mem_cons_of_mem _ hy))
    have h2 := h x (List.mem_cons_self ..)
    have hm : (x + b * valB b xs) % b = x := by rw [Nat.add_mul_mod_self_left, Nat.mod_eq_of_lt h2]
    have hd : (x + b * valB b xs) / b = valB b xs := by rw [Nat.add_mul_div_left _ _ (by omega), Nat.div_eq_of_lt h2]; omega
    simp only [trimT, valB]
    by_cases hv : valB b xs = 0
    · rw [hv, dig_zero] at h1
      rw [h1, hv]
      by_cases hx : x = 0
      · simp [hx, dig_zero]
      · have := dig_pos (b := b) (n := x + b * 0) hb (by omega)
        rw [this]
        simp [hx, Nat.mod_eq_of_lt h2, Nat.div_eq_of_lt h2, dig_zero]
    · have hp := dig_pos (b := b) (n := x + b * valB b xs) hb (by
        have : 0 < b * valB b xs := Nat.mul_pos (by omega) (by omega)
        omega)
      rw [hp, hm, hd, h1]
      rw [dig_pos hb hv]
theorem trimT_prefix : ∀ (xs : List Nat), ∃ k, k ≤ xs.length ∧ trimT xs = xs.take k ∧ (∀ j, k ≤ j → j < xs.length → xs[j]? = some 0) ∧ (k = 0 ∨ ∃ y, xs[k - 1]? = some y ∧ y ≠ 0)
  | [] => ⟨0, Nat.le_refl _, rfl, fun j _ h => by simp at h, Or.inl rfl⟩
  | x :: xs => by
    obtain ⟨k, hk, h1, h2, h3⟩ := trimT_prefix xs
    simp only [trimT]
    cases hq : trimT xs with
    | nil =>
      have k0 : k = 0 := by
        rcases h3 with h3 | ⟨y, hy, _⟩
        · exact h3
        · have hl := congrArg List.length (hq.symm.trans h1)
          simp only [List.length_nil, List.length_take] at hl
          omega
      subst k0
      by_cases hx : x = 0
      · refine ⟨0, Nat.zero_le _, by simp [hx], fun j _ hj => ?_, Or.inl rfl⟩
        cases j with
        | zero => simp [hx]
        | succ j => simp only [List.getElem?_cons_succ]; exact h2 j (Nat.zero_le _) (by simpa using hj)
      · refine ⟨1, by simp, by simp [hx], fun j hj1 hj => ?_, Or.inr ⟨x, by simp, hx⟩⟩
        cases j with
        | zero => omega
        | succ j => simp only [List.getElem?_cons_succ]; exact h2 j (Nat.zero_le _) (by simpa using hj)
    | cons y ys =>
      refine ⟨k + 1, by simp; omega, by rw [List.take_succ_cons, ← h1, hq], fun j hj1 hj => ?_, Or.inr ?_⟩
      · cases j with
        | zero => omega
        | succ j => simp only [List.getElem?_cons_succ]; exact h2 j (by omega) (by simpa using hj)
      · rcases h3 with h3 | ⟨z, hz, hz0⟩
        · subst h3; rw [hq] at h1; simp at h1
        · refine ⟨z, ?_, hz0⟩
          cases k with
          | zero => rw [hq] at h1; simp at h1
          | succ k => simpa using hz
/-- where the cutting stops -/
theorem trimT_at {xs : List Nat} {k : Nat} (hk : k ≤ xs.length) (h : ∀ j, k ≤ j → j < xs.length → xs[j]? = some 0) (h2 : k = 0 ∨ ∃ y, xs[k - 1]? = some y ∧ y ≠ 0) : trimT xs = xs.take k := by
  obtain ⟨k', hk', h1, h3, h4⟩ := trimT_prefix xs
  have : k = k' := by
    rcases Nat.lt_trichotomy k k' with hlt | heq | hgt
    · rcases h4 with h4 | ⟨y, hy, hy0⟩
      · omega
      · have := h (k' - 1) (by omega) (by omega)
        rw [this] at hy; simp at hy; omega
    · exact heq
    · rcases h2 with h2 | ⟨y, hy, hy0⟩
      · omega
      · have := h3 (k - 1) (by omega) (by omega)
        rw [this] at hy; simp at hy; omega
  rw [this]; exact h1
/-- division by a small number: the digits of the quotient, and the rest -/
def divL (b k : Nat) : List Nat → List Nat × Nat
  | [] => ([], 0)
  | a :: ds => (((divL b k ds).2 * b + a) / k :: (divL b k ds).1, ((divL b k ds).2 * b + a) % k)
theorem divL_len (b k : Nat) (xs : List Nat) : (divL b k xs).1.length = xs.length := by
  induction xs with
  | nil => rfl
  | cons x xs ih => simp [divL, ih]
theorem divL_rest {k : Nat} (b : Nat) (hk : 0 < k) (xs : List Nat) : (divL b k xs).2 < k := by
  cases xs with
  | nil => exact hk
  | cons x xs => exact Nat.mod_lt _ hk
theorem divL_lt {b k : Nat} (hk : 0 < k) {xs : List Nat} (h : ∀ x ∈ xs, x < b) : ∀ x ∈ (divL b k xs).1, x < b := by
  induction xs with
  | nil => intro x hx; cases hx
  | cons x xs ih =>
    intro y hy
    cases hy with
    | head =>
      have h1 := divL_rest b hk xs
      have h2 := h x (List.mem_cons_self ..)
      refine (Nat.div_lt_iff_lt_mul hk).2 ?_
      have : ((divL b k xs).2 + 1) * b ≤ k * b := Nat.mul_le_mul_right b h1
      rw [Nat.add_mul] at this
      rw [Nat.mul_comm b k]
      omega
    | tail _ hy => exact ih (fun z hz => h z (List.mem_cons_of_mem _ hz)) y hy
theorem divL_val {b k : Nat} (hk : 0 < k) (xs : List Nat) : valB b xs = k * valB b (divL b k xs).1 + (divL b k xs).2 := by
  induction xs with
  | nil => simp [valB, divL]
  | cons x xs ih =>
    simp only [valB, divL]
    have h1 := Nat.div_add_mod ((divL b k xs).2 * b + x) k
    rw [ih, Nat.mul_add, Nat.mul_add]
    have e1 : b * (k * valB b (divL b k xs).1) = k * (b * valB b (divL b k xs).1) := by rw [← Nat.mul_assoc, ← Nat.mul_assoc, Nat.mul_comm b k]
    rw [e1, Nat.mul_comm b (divL b k xs).2]
    omega
theorem divL_quo {b k : Nat} (hk : 0 < k) (xs : List Nat) : valB b (divL b k xs).1 = valB b xs / k ∧ (divL b k xs).2 = valB b xs % k := by
  have h := divL_val (b := b) hk xs
  have hr := divL_rest b hk xs
  rw [h]
  refine ⟨?_, ?_⟩
  · rw [Nat.mul_add_div hk, Nat.div_eq_of_lt hr]; omega
  · rw [Nat.mul_add_mod, Nat.mod_eq_of_lt hr]
/-- decimal digits of a number, as bytes -/
def decText (n : Nat) : List UInt8 := if n = 0 then [48] else (dig 10 n).reverse.map fun d => UInt8.ofNat (48 + d)
/-- the number that digits say -/
def digVal (ds : List Nat) : Nat := ds.foldl (fun v d => v * 10 + (d - 48)) 0
theorem digVal_snoc (ds : List Nat) (d : Nat) : digVal (ds ++ [d]) = digVal ds * 10 + (d - 48) := by simp [digVal]
theorem digVal_val (ds : List Nat) : digVal ds = valB 10 (ds.reverse.map (· - 48)) := by
  rw [← List.reverse_reverse ds]
  generalize ds.reverse = rs
  induction rs with
  | nil => rfl
  | cons r rs ih => simp only [List.reverse_cons, List.reverse_reverse] at ih ⊢; rw [digVal_snoc, ih]; simp [valB]; omega
/-- digits without noughts ahead -/
def bareL : List UInt8 → List UInt8
  | x :: y :: r => if x = 48 then bareL (y :: r) else x :: y :: r
  | l => l
theorem trimT_nil_append {xs ys : List Nat} (h : trimT ys = []) : trimT (xs ++ ys) = trimT xs := by
  induction xs with
  | nil => simpa [trimT] using h
  | cons x xs ih => simp [trimT, ih]
theorem trimT_snoc {xs : List Nat} {y : Nat} (hy : y ≠ 0) : trimT (xs ++ [y]) = xs ++ [y] := by
  induction xs with
  | nil => simp [trimT, hy]
  | cons x xs ih =>
    simp only [List.cons_append, trimT, ih]
    cases xs <;> rfl
theorem bareL_eq : ∀ (ds : List Nat), ds ≠ [] → (∀ d ∈ ds, 48 ≤ d ∧ d ≤ 57) → bareL (ds.map UInt8.ofNat) = decText (digVal ds)
  | [], h, _ => absurd rfl h
  | [d], _, h => by
    have hd := h d (List.mem_cons_self ..)
    have e : digVal [d] = d - 48 := by simp [digVal]
    rw [e]
    simp only [List.map_cons, List.map_nil, bareL, decText]
    by_cases h0 : d - 48 = 0
    · rw [if_pos h0]; have : d = 48 := by omega
      subst this; rfl
    · rw [if_neg h0, dig_pos (by omega) h0, show (d - 48) / 10 = 0 by omega, dig_zero, show (d - 48) % 10 = d - 48 by omega]
      simp only [List.reverse_cons, List.reverse_nil, List.nil_append, List.map_cons, List.map_nil]
      rw [show 48 + (d - 48) = d by omega]
  | d :: e :: r, _, h => by
    have hd := h d (List.mem_cons_self ..)
    have ih := bareL_eq (e :: r) (by simp) (fun x hx => h x (List.mem_cons_of_mem _ hx))
    simp only [List.map_cons, bareL] at ih ⊢
    by_cases h0 : d = 48
    · subst h0
      rw [if_pos (by decide)]
      rw [ih]
      congr 1
    · have hne : UInt8.ofNat d ≠ 48 := by
        intro hc
        have := congrArg UInt8.toNat hc
        simp [UInt8.toNat_ofNat'] at this
        omega
      rw [if_neg hne]
      have hv := digVal_val (d :: e :: r)
      have hlt : ∀ x ∈ ((d :: e :: r).reverse.map (· - 48)), x < 10 := by
        intro x hx
        simp only [List.mem_map, List.mem_reverse] at hx
        obtain ⟨y, hy, rfl⟩ := hx
        have := h y hy
        omega
      have ht := trimT_eq (b := 10) (by omega) hlt
      rw [← hv] at ht
      have e2 : (d :: e :: r).reverse.map (· - 48) = ((e :: r).reverse.map (· - 48)) ++ [d - 48] := by simp
      rw [e2, trimT_snoc (by omega), ← e2] at ht
      have hn0 : digVal (d :: e :: r) ≠ 0 := by
        intro hc
        rw [hc, dig_zero] at ht
        simp at ht
      unfold decText
      rw [if_neg hn0, ← ht]
      simp only [List.map_reverse, List.reverse_reverse, List.map_map]
      show UInt8.ofNat d :: UInt8.ofNat e :: List.map UInt8.ofNat r = List.map _ (d :: e :: r)
      have hm : ∀ l : List Nat, (∀ x ∈ l, 48 ≤ x ∧ x ≤ 57) → l.map UInt8.ofNat = l.map ((fun d => UInt8.ofNat (48 + d)) ∘ fun x => x - 48) := by
        intro l hl
        refine List.map_congr_left fun x hx => ?_
        have := hl x hx
        simp only [Function.comp_apply]
        congr 1
        omega
      exact hm (d :: e :: r) h
/-- how many digits -/
theorem dig_len_le {b n k : Nat} (hb : 2 ≤ b) : (dig b n).length ≤ k ↔ n < b ^ k := by
  induction k generalizing n with
  | zero =>
    simp only [Nat.le_zero, List.length_eq_zero_iff, Nat.pow_zero]
    constructor
    · intro h
      by_cases hn : n = 0
      · omega
      · rw [dig_pos hb hn] at h; simp at h
    · intro h; rw [show n = 0 by omega, dig_zero]
  | succ k ih =>
    by_cases hn : n = 0
    · subst hn; simp [dig_zero]; exact Nat.pow_pos (by omega)
    · rw [dig_pos hb hn]
      simp only [List.length_cons, Nat.add_le_add_iff_right]
      rw [ih, Nat.pow_succ, Nat.div_lt_iff_lt_mul (by omega)]
end Go.Proofs.YtlklijpjacmgpaaGreatDoor

namespace Go.Proofs.YtlklijpjacmgpaaGreatDoor
open Go
set_option linter.unusedVariables false
set_option linter.unusedSimpArgs false

def isBlank (c : Int) : Bool := decide (c = 9 ∨ c = 10 ∨ c = 13 ∨ c = 32 ∨ c = 160 ∨ c = 12288)
def isLetter (c : Int) : Bool := decide ((65 ≤ c ∧ c ≤ 90) ∨ (97 ≤ c ∧ c ≤ 122) ∨ (913 ≤ c ∧ c ≤ 929) ∨ (931 ≤ c ∧ c ≤ 937) ∨ (945 ≤ c ∧ c ≤ 969) ∨ (1040 ≤ c ∧ c ≤ 1103))
def isDigit (c : Int) : Bool := decide (48 ≤ c ∧ c ≤ 57)
def isMark (c : Int) : Bool := decide (c = 95 ∨ c = 176 ∨ c = 8242 ∨ (8320 ≤ c ∧ c ≤ 8329))
def isSign (c : Int) : Bool := decide (c = 43 ∨ c = 45 ∨ c = 42 ∨ c = 47 ∨ c = 37 ∨ c = 40 ∨ c = 41 ∨ c = 123 ∨ c = 125 ∨ c = 44 ∨ c = 59 ∨ c = 58 ∨ c = 61 ∨ c = 33 ∨ c = 63 ∨ c = 64 ∨ c = 183 ∨ c = 215 ∨ c = 247 ∨ c = 8722 ∨ c = 8788 ∨ c = 8800)
/-- the class of a code -/
def cls (c : Int) : Int := if isBlank c then 1 else if isLetter c then 2 else if isDigit c then 3 else if isMark c then 4 else if c = 35 then 6 else if isSign c then 5 else 0
def fold (c : Int) : Int := if c = 183 ∨ c = 215 then 42 else if c = 247 then 47 else if c = 8722 then 45 else c
theorem cls_range (c : Int) : 0 ≤ cls c ∧ cls c ≤ 6 := by
  unfold cls
  repeat' split
  all_goals omega
/-- behind blanks and comments -/
def skipC : Bool → List Nat → List Nat
  | _, [] => []
  | cm, c :: cs =>
    if c = 10 then skipC false cs
    else if cls c = 6 then skipC true cs
    else if cm then skipC true cs
    else if cls c = 1 then skipC false cs
    else c :: cs
theorem skipC_suffix : ∀ (cs : List Nat) (cm : Bool), ∃ mid, cs = mid ++ skipC cm cs
  | [], cm => ⟨[], by simp [skipC]⟩
  | c :: cs, cm => by
    simp only [skipC]
    repeat' split
    · obtain ⟨m, h⟩ := skipC_suffix cs false; exact ⟨c :: m, by simp [← h]⟩
    · obtain ⟨m, h⟩ := skipC_suffix cs true; exact ⟨c :: m, by simp [← h]⟩
    · obtain ⟨m, h⟩ := skipC_suffix cs true; exact ⟨c :: m, by simp [← h]⟩
    · obtain ⟨m, h⟩ := skipC_suffix cs false; exact ⟨c :: m, by simp [← h]⟩
    · exact ⟨[], rfl⟩
theorem skipC_le (cs : List Nat) (cm : Bool) : (skipC cm cs).length ≤ cs.length := by
  obtain ⟨m, h⟩ := skipC_suffix cs cm
  have := congrArg List.length h
  simp at this; omega
/-- what was passed -/
def skipped (cs : List Nat) : List Nat := cs.take (cs.length - (skipC false cs).length)
theorem skipped_append (cs : List Nat) : skipped cs ++ skipC false cs = cs := by
  obtain ⟨m, h⟩ := skipC_suffix cs false
  have hl := congrArg List.length h
  simp at hl
  have : skipped cs = m := by
    unfold skipped
    rw [show cs.length - (skipC false cs).length = m.length by omega]
    conv => lhs; rw [h]
    simp
  rw [this]; exact h.symm
def part (c : Nat) : Bool := decide (cls c = 2 ∨ cls c = 3 ∨ cls c = 4)
def digit (c : Nat) : Bool := decide (cls c = 3)
inductive TR where
  | bad (e : Int)
  | ok (kind : Int) (text : List UInt8) (n : Nat)
/-- the token that stands ahead -/
def tk : List Nat → TR
  | [] => .ok 0 [] 0
  | c :: r =>
    if cls c = 2 then
      (if 16 < ((c :: r).takeWhile part).length then .bad 42 else .ok 1 (((c :: r).takeWhile part).flatMap enc) ((c :: r).takeWhile part).length)
    else if cls c = 3 then
      (if 2 ^ 1024 ≤ digVal ((c :: r).takeWhile digit) then .bad 2 else .ok 2 (decText (digVal ((c :: r).takeWhile digit))) ((c :: r).takeWhile digit).length)
    else if cls c = 5 then
      (if c = 8788 then .ok 3 [58, 61] 1
       else if c = 8800 then .ok 3 [33, 61] 1
       else if c = 58 ∨ c = 33 then (if r.head? = some 61 then .ok 3 [UInt8.ofNat c, 61] 2 else .bad 41)
       else .ok 3 [UInt8.ofNat (fold c).toNat] 1)
    else .bad 41
structure Tok where
  kind : Int
  text : List UInt8
  at_ : Pl
inductive Res where
  | bad (e : Int) (p : Pl)
  | ok (l : List Tok)
def Res.cons (x : Tok) : Res → Res
  | .bad e p => .bad e p
  | .ok l => .ok (x :: l)
def Res.pre (l : List Tok) : Res → Res
  | .bad e p => .bad e p
  | .ok r => .ok (l ++ r)
theorem Res.pre_nil (r : Res) : Res.pre [] r = r := by cases r <;> rfl
theorem Res.pre_cons (l : List Tok) (x : Tok) (r : Res) : Res.pre l (Res.cons x r) = Res.pre (l ++ [x]) r := by
  cases r <;> simp [Res.pre, Res.cons]
/-- the tokens of what is left; 'brk': behind it stand bytes that are none -/
def scan (brk : Bool) : Nat → List Nat → List Nat → Res
  | 0, pre, cs => .bad 0 start
  | n + 1, pre, cs =>
    match skipC false cs with
    | [] => if brk then .bad 40 (along start (pre ++ cs)) else .ok [⟨0, [], along start (pre ++ cs)⟩]
    | c :: r =>
      match tk (c :: r) with
      | .bad e => .bad e (along start (pre ++ skipped cs))
      | .ok k x m => Res.cons ⟨k, x, along start (pre ++ skipped cs)⟩ (scan brk n (pre ++ skipped cs ++ (c :: r).take m) ((c :: r).drop m))
end Go.Proofs.YtlklijpjacmgpaaGreatDoor

namespace Go.Proofs.YtlklijpjacmgpaaGreatDoor
open Go.RowKit
set_option linter.unusedVariables false
set_option linter.unusedSimpArgs false

theorem ret_int {k : IntKind} {a b : Int} (h : a = b) : Ending.returned (.int k a) = .returned (.int k b) := by rw [h]
theorem ret_bool {a b : Bool} (h : a = b) : Ending.returned (.bool a) = .returned (.bool b) := by rw [h]
theorem ret_str {a b : ByteArray} (h : a = b) : Ending.returned (.string a) = .returned (.string b) := by rw [h]
theorem wrap64_byte (b : UInt8) : wrap64 (b.toNat : Int) = (b.toNat : Int) := IntWalk.wrap64_in _ (by have := b.toNat_lt; omega)
theorem wrap64_nat (n : Nat) (h : n ≤ 9223372036854775807) : wrap64 (n : Int) = (n : Int) := IntWalk.wrap64_in _ (by omega)
/-- Nothing that was there has turned, but for the blocks of S. -/
structure Fr (S : Nat → Prop) (w w' : World) : Prop where
  os : w'.os = w.os
  tape : w'.tape = w.tape
  output : w'.output = w.output
  size : w.heap.size ≤ w'.heap.size
  block : ∀ k, k < w.heap.size → ¬ S k → w'.heap[k]? = w.heap[k]?
def No (k : Nat) : Prop := False
theorem Fr.refl (S : Nat → Prop) (w : World) : Fr S w w := ⟨rfl, rfl, rfl, Nat.le_refl _, fun _ _ _ => rfl⟩
theorem Fr.trans {S S' : Nat → Prop} {a b c : World} (h : Fr S a b) (k : Fr S' b c) (hs : ∀ k, k < a.heap.size → S' k → S k) : Fr S a c :=
  ⟨k.os.trans h.os, k.tape.trans h.tape, k.output.trans h.output, Nat.le_trans h.size k.size,
    fun i hi hn => (k.block i (Nat.lt_of_lt_of_le hi h.size) (fun hc => hn (hs i hi hc))).trans (h.block i hi hn)⟩
theorem Fr.mono {S S' : Nat → Prop} {a b : World} (h : Fr S a b) (hs : ∀ k, k < a.heap.size → S k → S' k) : Fr S' a b :=
  ⟨h.os, h.tape, h.output, h.size, fun i hi hn => h.block i hi (fun hc => hn (hs i hi hc))⟩
theorem Fr.of_below {S : Nat → Prop} {w w' : World} (h : Below w.heap.size w w') : Fr S w w' := ⟨h.os, h.tape, h.output, h.size, fun k hk _ => h.block k hk⟩
theorem Fr.below {w w' : World} (h : Fr No w w') : Below w.heap.size w w' := ⟨h.os, h.tape, h.output, h.size, fun k hk => h.block k hk (fun x => x)⟩
theorem Fr.drew {S : Nat → Prop} {w0 w : World} (h : Fr S w0 w) : Fr S w0 w.drew := ⟨h.os, h.tape, h.output, h.size, h.block⟩
theorem Fr.drewN {S : Nat → Prop} {w0 w : World} (h : Fr S w0 w) (n : Nat) : Fr S w0 (w.drewN n) := ⟨h.os, h.tape, h.output, h.size, h.block⟩
theorem Fr.alloc {S : Nat → Prop} {w0 w : World} (h : Fr S w0 w) (o : Obj) : Fr S w0 (w.alloc o) :=
  ⟨h.os, h.tape, h.output, by have := h.size; show _ ≤ (w.heap.push o).size; simp; omega, fun k hk hn => by
    rw [Below.heap_alloc _ _ _ (by have := h.size; omega)]; exact h.block k hk hn⟩
theorem Fr.setCell {S : Nat → Prop} {w0 w : World} (h : Fr S w0 w) {a : Addr} (u : Value) (hs : a.block < w0.heap.size → S a.block) : Fr S w0 (w.setCell a u) :=
  ⟨h.os, h.tape, h.output, by have := h.size; simp [World.setCell]; omega, fun k hk hn => by
    rw [Below.heap_setCell _ _ _ _ (fun e => by subst e; exact hn (hs hk))]; exact h.block k hk hn⟩
theorem Fr.call {S S' : Nat → Prop} {w0 w w' : World} (h : Fr S w0 w) (k : Fr S' w w') (hs : ∀ k, k < w0.heap.size → S' k → S k) : Fr S w0 w' := h.trans k hs
theorem Fr.callNo {S : Nat → Prop} {w0 w w' : World} (h : Fr S w0 w) (k : Fr No w w') : Fr S w0 w' := h.trans k (fun _ _ x => x.elim)
/-- Block b holds o. -/
def Blk (w : World) (b : Nat) (o : Obj) : Prop := w.heap[b]? = some o
theorem Blk.cast {w : World} {b : Nat} {o o' : Obj} (h : Blk w b o) (e : o = o') : Blk w b o' := e ▸ h
theorem Blk.lt {w : World} {b : Nat} {o : Obj} (h : Blk w b o) : b < w.heap.size := (Array.getElem?_eq_some_iff.1 h).1
theorem Blk.fr {w w' : World} {S : Nat → Prop} {b : Nat} {o : Obj} (h : Blk w b o) (f : Fr S w w') (hs : ¬ S b) : Blk w' b o := (f.block b h.lt hs).trans h
theorem Blk.drew {w : World} {b : Nat} {o : Obj} (h : Blk w b o) : Blk w.drew b o := h
theorem Blk.drewN {w : World} {b : Nat} {o : Obj} (h : Blk w b o) (n : Nat) : Blk (w.drewN n) b o := h
theorem Blk.alloc {w : World} {b : Nat} {o : Obj} (h : Blk w b o) (o' : Obj) : Blk (w.alloc o') b o := (Below.heap_alloc _ _ _ h.lt).trans h
theorem Blk.new (w : World) (o : Obj) : Blk (w.alloc o) w.heap.size o := by show (w.heap.push o)[w.heap.size]? = _; simp
theorem Blk.setOff {w : World} {b : Nat} {cs : Array Value} {t : TypeId} {f : Nat × Nat} (h : Blk w b (.cells cs t f)) (i : Nat) (u : Value) :
    Blk (w.setCell ⟨b, i, none⟩ u) b (.cells (cs.setIfInBounds i u) t f) := by
  show ((w.heap.modify b _)[b]?) = _
  rw [Array.getElem?_modify, if_pos rfl]
  have h' : w.heap[b]? = _ := h
  rw [h']
  rfl
theorem Blk.set_ne {w : World} {b : Nat} {o : Obj} (h : Blk w b o) (a : Addr) (u : Value) (hne : b ≠ a.block) : Blk (w.setCell a u) b o := (Below.heap_setCell _ _ _ _ hne).trans h
theorem Blk.cell {w : World} {b : Nat} {cs : Array Value} {t : TypeId} {f : Nat × Nat} (h : Blk w b (.cells cs t f)) (i : Nat) (v : Value) (hv : cs[i]? = some v) : w.cell? ⟨b, i, none⟩ = some v := by
  have h' : w.heap[b]? = _ := h
  simp [World.cell?, h', hv]
theorem Blk.free {w : World} {b : Nat} {cs : Array Value} {t : TypeId} (h : Blk w b (.cells cs t (0, 0))) (i : Nat) : w.frozen? ⟨b, i, none⟩ = false := by
  have h' : w.heap[b]? = _ := h
  simp [World.frozen?, h']
/-- Only the count of draws has turned. -/
def Qd (w w' : World) : Prop := ∃ k, w' = w.drewN k
theorem Qd.refl (w : World) : Qd w w := ⟨0, rfl⟩
theorem Qd.trans {a b c : World} (h : Qd a b) (k : Qd b c) : Qd a c := by
  obtain ⟨n, rfl⟩ := h; obtain ⟨m, rfl⟩ := k; exact ⟨n + m, by rw [World.drewN_drewN]⟩
theorem Qd.drew {a b : World} (h : Qd a b) : Qd a b.drew := h.trans ⟨1, rfl⟩
theorem Qd.drewN {a b : World} (h : Qd a b) (n : Nat) : Qd a (b.drewN n) := h.trans ⟨n, rfl⟩
theorem Qd.blk {a b : World} (h : Qd a b) {n : Nat} {o : Obj} (hb : Blk a n o) : Blk b n o := by obtain ⟨k, rfl⟩ := h; exact hb
theorem Qd.fr {a b : World} (h : Qd a b) (S : Nat → Prop) : Fr S a b := by obtain ⟨k, rfl⟩ := h; exact (Fr.refl S a).drewN k
theorem Qd.size {a b : World} (h : Qd a b) : b.heap.size = a.heap.size := by obtain ⟨k, rfl⟩ := h; rfl
theorem Fr.qd {S : Nat → Prop} {w0 a b : World} (h : Fr S w0 a) (k : Qd a b) : Fr S w0 b := h.trans (k.fr S) (fun _ _ x => x)
end Go.Proofs.YtlklijpjacmgpaaGreatDoor

namespace Go.Proofs.YtlklijpjacmgpaaGreatDoor
open Go.RowKit
set_option linter.unusedVariables false
set_option linter.unusedSimpArgs false

theorem Fr.grown {S : Nat → Prop} {w0 w w' : World} {row : Option Nat} (h : Fr S w0 w) (g : w.grownBy w' row) (hr : ∀ k, row = some k → k < w0.heap.size → S k) : Fr S w0 w' :=
  ⟨g.os.trans h.os, g.tape.trans h.tape, g.output.trans h.output, Nat.le_trans h.size g.size,
    fun k hk hn => (g.block k (Nat.lt_of_lt_of_le hk h.size) (fun e => hn (hr k e.symm hk))).trans (h.block k hk hn)⟩
theorem own_fr {S : Nat → Prop} {w w' : World} {B : Nat} {e : TypeId} {size : Nat} {v : Value} {n : Nat} {xs : List Value} (h : w.ownsRow B e size v n xs) (f : Fr S w w') (hs : ∀ k, v.ownBlock = some k → ¬ S k) : w'.ownsRow B e size v n xs := by
  obtain ⟨h1, h2⟩ := h
  refine ⟨h1, ?_⟩
  rcases h2 with h2 | ⟨g, cap, cur, hv, hg, hh, r⟩
  · exact Or.inl h2
  · refine Or.inr ⟨g, cap, cur, hv, hg, ?_, r⟩
    rw [f.block g (Array.getElem?_eq_some_iff.1 hh).1 (hs g (by rw [hv]; rfl))]; exact hh
theorem own_mono {w : World} {B B' : Nat} {e : TypeId} {size : Nat} {v : Value} {n : Nat} {xs : List Value} (h : w.ownsRow B e size v n xs) (hb : B' ≤ B) : w.ownsRow B' e size v n xs := by
  obtain ⟨h1, h2⟩ := h
  refine ⟨h1, ?_⟩
  rcases h2 with h2 | ⟨g, cap, cur, hv, hg, r⟩
  · exact Or.inl h2
  · exact Or.inr ⟨g, cap, cur, hv, by omega, r⟩
theorem own_qd {w w' : World} {B : Nat} {e : TypeId} {size : Nat} {v : Value} {n : Nat} {xs : List Value} (h : w.ownsRow B e size v n xs) (q : Qd w w') : w'.ownsRow B e size v n xs := by
  obtain ⟨k, rfl⟩ := q; exact h
theorem own_take {w : World} {B : Nat} {e : TypeId} {size : Nat} {a : Option Addr} {n cap : Nat} {xs : List Value} (h : w.ownsRow B e size (.slice a n cap) n xs) {k : Nat} (hk : k ≤ n) : w.ownsRow B e size (.slice a k cap) k (xs.take (k * size)) := by
  obtain ⟨h1, h2⟩ := h
  have hle : k * size ≤ n * size := Nat.mul_le_mul_right size hk
  refine ⟨by rw [List.length_take, h1]; omega, ?_⟩
  rcases h2 with ⟨h2, h3⟩ | ⟨g, c, cur, hv, hg, hh, h4, h5, h6, h7⟩
  · simp only [Value.slice.injEq] at h2
    obtain ⟨rfl, rfl, rfl⟩ := h2
    exact Or.inl ⟨by simp; omega, by omega⟩
  · simp only [Value.slice.injEq] at hv
    obtain ⟨rfl, _, rfl⟩ := hv
    refine Or.inr ⟨g, cap, cur, rfl, hg, hh, by omega, h5, h6, ?_⟩
    rw [← h7, List.take_take, Nat.min_eq_left hle]
/-- nil, or at the head of a block -/
theorem own_cases {w : World} {B : Nat} {e : TypeId} {size : Nat} {v : Value} {n : Nat} {xs : List Value} (h : w.ownsRow B e size v n xs) :
    (v = .slice none 0 0 ∧ n = 0 ∧ xs = []) ∨ ∃ g cap, v = .slice (some ⟨g, 0, none⟩) n cap ∧ B ≤ g ∧ g < w.heap.size ∧ n ≤ cap := by
  obtain ⟨h1, h2⟩ := h
  rcases h2 with ⟨h2, h3⟩ | ⟨g, c, cur, hv, hg, hh, h4, h5, h6, h7⟩
  · subst h3; exact Or.inl ⟨h2, rfl, by simpa using h1⟩
  · exact Or.inr ⟨g, c, hv, hg, (Array.getElem?_eq_some_iff.1 hh).1, h4⟩
theorem own_form {w : World} {B : Nat} {e : TypeId} {size : Nat} {v : Value} {n : Nat} {xs : List Value} (h : w.ownsRow B e size v n xs) : ∃ a cap, v = .slice a n cap := by
  obtain ⟨h1, h2⟩ := h
  rcases h2 with ⟨h2, h3⟩ | ⟨g, c, cur, hv, hg, hh, h4, h5, h6, h7⟩
  · subst h3; exact ⟨_, _, h2⟩
  · exact ⟨_, _, hv⟩
theorem own_cell {w : World} {B : Nat} {e : TypeId} {size : Nat} {g n cap : Nat} {xs : List Value} (h : w.ownsRow B e size (.slice (some ⟨g, 0, none⟩) n cap) n xs) {j : Nat} {u : Value} (hj : xs[j]? = some u) : w.cell? ⟨g, j, none⟩ = some u := by
  have := h.cells (g := g) rfl j u hj
  by_cases h0 : j = 0
  · subst h0; simpa [Addr.add] using this
  · simpa [Addr.add, h0] using this
theorem new_one (w : World) (v : Value) (t : TypeId) : ∀ j u, [v][j]? = some u → (w.alloc (.cells #[v] t (0, 0))).cell? ((⟨w.heap.size, 0, none⟩ : Addr).add j) = some u := by
  intro j u h
  cases j with
  | zero =>
    simp at h
    subst h
    exact (Blk.new w (.cells #[v] t (0, 0))).cell 0 v rfl
  | succ j => simp at h
theorem one_cell {v : Value} (h : v.oneCell' = true) : ∀ u ∈ [v], u.oneCell' = true := by
  intro u hu; simp at hu; subst hu; exact h
theorem apart_kept {w w' : World} {B e size n : Nat} {v : Value} {xs : List Value} (h : w.ownsRow B e size v n xs) {row : Option Nat} (hr : ∀ k, row = some k → k < B) (g : w.grownBy w' row) : w'.ownsRow B e size v n xs := by
  refine h.kept g ?_
  cases hv : v.ownBlock with
  | none => exact Or.inl rfl
  | some k =>
    refine Or.inr fun hc => ?_
    have h1 := (h.lt k hv).1
    have h2 := hr k hc.symm
    omega
end Go.Proofs.YtlklijpjacmgpaaGreatDoor

namespace Go.Proofs.YtlklijpjacmgpaaGreatDoor
open Go.RowKit

def among (c lo hi : Int) : Bool := decide (lo ≤ c ∧ c ≤ hi)
set_option maxHeartbeats 400000 in
theorem letter_calls (c : Int) (w : World) :
    Calls Tryz.prog 160 #[.int .i64 c] w fun e w' => e = .returned (.bool (isLetter c)) ∧ w = w' := by
  go_enter Tryz.func160, Tryz.ntmps160
  go_wp2
  all_goals
    go_ret
    exact ⟨ret_bool (by unfold isLetter; grind), rfl⟩
set_option maxHeartbeats 400000 in
theorem sign_calls (c : Int) (w : World) :
    Calls Tryz.prog 161 #[.int .i64 c] w fun e w' => e = .returned (.bool (isSign c)) ∧ w = w' := by
  go_enter Tryz.func161, Tryz.ntmps161
  go_wp2
  all_goals
    go_ret
    exact ⟨ret_bool (by unfold isSign; grind), rfl⟩
set_option maxHeartbeats 400000 in
theorem Class_calls (c : Int) (w : World) :
    Calls Tryz.prog 154 #[.int .i64 c] w fun e w' => e = .returned (.int .i64 (cls c)) ∧ w = w' := by
  go_enter Tryz.func154, Tryz.ntmps154
  go_wp2_with (first | (go_at_call 160; refine (letter_calls _ _).mono ?_; rintro e w' ⟨rfl, rfl⟩) | (go_at_call 161; refine (sign_calls _ _).mono ?_; rintro e w' ⟨rfl, rfl⟩))
  all_goals
    go_ret
    exact ⟨ret_int (by unfold cls isBlank isDigit isMark; grind), rfl⟩
set_option maxHeartbeats 400000 in
theorem Fold_calls (c : Int) (w : World) :
    Calls Tryz.prog 158 #[.int .i64 c] w fun e w' => e = .returned (.int .i64 (fold c)) ∧ w = w' := by
  go_enter Tryz.func158, Tryz.ntmps158
  go_wp2
  all_goals
    go_ret
    exact ⟨ret_int (by unfold fold; grind), rfl⟩
def sg : List Nat := [43, 45, 42, 47, 37, 40, 41, 123, 125, 44, 59, 58, 61, 33, 63, 64]
abbrev sgs : ByteArray := { data := #[43, 45, 42, 47, 37, 40, 41, 123, 125, 44, 59, 58, 61, 33, 63, 64] }
theorem sgs_at (k : Nat) (h : k < 16) (h' : k < sgs.size) : wrap64 ((sgs[k]).toNat : Int) = (sg.getD k 0 : Nat) := by
  rw [wrap64_byte]
  have : k = 0 ∨ k = 1 ∨ k = 2 ∨ k = 3 ∨ k = 4 ∨ k = 5 ∨ k = 6 ∨ k = 7 ∨ k = 8 ∨ k = 9 ∨ k = 10 ∨ k = 11 ∨ k = 12 ∨ k = 13 ∨ k = 14 ∨ k = 15 := by omega
  rcases this with rfl | rfl | rfl | rfl | rfl | rfl | rfl | rfl | rfl | rfl | rfl | rfl | rfl | rfl | rfl | rfl <;> rfl
theorem cls_sg (k : Nat) (h : k < 16) : cls (sg.getD k 0 : Nat) = 5 := by
  have : k = 0 ∨ k = 1 ∨ k = 2 ∨ k = 3 ∨ k = 4 ∨ k = 5 ∨ k = 6 ∨ k = 7 ∨ k = 8 ∨ k = 9 ∨ k = 10 ∨ k = 11 ∨ k = 12 ∨ k = 13 ∨ k = 14 ∨ k = 15 := by omega
  rcases this with rfl | rfl | rfl | rfl | rfl | rfl | rfl | rfl | rfl | rfl | rfl | rfl | rfl | rfl | rfl | rfl <;> rfl
theorem not_sg {c : Int} (h : ∀ j, j < 16 → c ≠ (sg.getD j 0 : Nat)) : c ≠ 43 ∧ c ≠ 45 ∧ c ≠ 42 ∧ c ≠ 47 ∧ c ≠ 37 ∧ c ≠ 40 ∧ c ≠ 41 ∧ c ≠ 123 ∧ c ≠ 125 ∧ c ≠ 44 ∧ c ≠ 59 ∧ c ≠ 58 ∧ c ≠ 61 ∧ c ≠ 33 ∧ c ≠ 63 ∧ c ≠ 64 :=
  ⟨h 0 (by omega), h 1 (by omega), h 2 (by omega), h 3 (by omega), h 4 (by omega), h 5 (by omega), h 6 (by omega), h 7 (by omega), h 8 (by omega), h 9 (by omega), h 10 (by omega), h 11 (by omega), h 12 (by omega), h 13 (by omega), h 14 (by omega), h 15 (by omega)⟩
end Go.Proofs.YtlklijpjacmgpaaGreatDoor

namespace Go.Proofs.YtlklijpjacmgpaaGreatDoor
open Go.RowKit
set_option linter.unusedVariables false
set_option linter.unusedSimpArgs false

def acc (r : List UInt8) (v : Nat) : Nat → Option Nat
  | 0 => some v
  | k + 1 => (acc r v k).bind fun u => (con r[k]?).map fun x => u * 64 + x
def ptR : Option (Nat × Nat) → Nat × Nat
  | some p => p
  | none => (0, 0)
def fin (n least : Nat) (v : Nat) : Option (Nat × Nat) := if least ≤ v ∧ okc v = true then some (v, n) else none
theorem dec_two {b : UInt8} {r : List UInt8} (h : 192 ≤ b.toNat ∧ b.toNat ≤ 223) : dec (b :: r) = (acc r (b.toNat - 192) 1).bind (fin 2 128) := by
  have hb := b.toNat_lt
  simp only [dec, acc, Option.bind_some]
  rw [if_neg (by omega), if_pos (by omega)]
  cases hx : con r[0]? with
  | none => rfl
  | some x =>
    have := con_lt hx
    simp only [Option.bind_some, Option.map_some, fin]
    have e : b.toNat % 32 * 64 + x = (b.toNat - 192) * 64 + x := by omega
    rw [e]
    have ho : okc ((b.toNat - 192) * 64 + x) = true := okc_iff.2 (by omega)
    simp [ho]
theorem dec_three {b : UInt8} {r : List UInt8} (h : 224 ≤ b.toNat ∧ b.toNat ≤ 239) : dec (b :: r) = (acc r (b.toNat - 224) 2).bind (fin 3 2048) := by
  have hb := b.toNat_lt
  simp only [dec, acc, Option.bind_some]
  rw [if_neg (by omega), if_neg (by omega), if_pos (by omega)]
  cases hx : con r[0]? with
  | none => rfl
  | some x =>
    have := con_lt hx
    cases hy : con r[1]? with
    | none => simp
    | some y =>
      have := con_lt hy
      simp only [Option.bind_some, Option.map_some, fin]
      have e : b.toNat % 16 * 4096 + x * 64 + y = ((b.toNat - 224) * 64 + x) * 64 + y := by omega
      rw [e]
theorem dec_four {b : UInt8} {r : List UInt8} (h : 240 ≤ b.toNat ∧ b.toNat ≤ 247) : dec (b :: r) = (acc r (b.toNat - 240) 3).bind (fin 4 65536) := by
  have hb := b.toNat_lt
  simp only [dec, acc, Option.bind_some]
  rw [if_neg (by omega), if_neg (by omega), if_neg (by omega), if_pos (by omega)]
  cases hx : con r[0]? with
  | none => rfl
  | some x =>
    have := con_lt hx
    cases hy : con r[1]? with
    | none => simp
    | some y =>
      have := con_lt hy
      cases hz : con r[2]? with
      | none => simp
      | some z =>
        have := con_lt hz
        simp only [Option.bind_some, Option.map_some, fin]
        have e : b.toNat % 8 * 262144 + x * 4096 + y * 64 + z = (((b.toNat - 240) * 64 + x) * 64 + y) * 64 + z := by omega
        rw [e]
theorem dec_else {b : UInt8} {r : List UInt8} (h1 : 128 ≤ b.toNat) (h2 : b.toNat < 192 ∨ 247 < b.toNat) : dec (b :: r) = none := by
  have hb := b.toNat_lt
  simp only [dec]
  rw [if_neg (by omega), if_neg (by omega), if_neg (by omega), if_neg (by omega)]
theorem dec_one {b : UInt8} {r : List UInt8} (h1 : b.toNat < 128) : dec (b :: r) = some (b.toNat, 1) := by
  simp only [dec]; rw [if_pos h1]
theorem drop_at {S : ByteArray} {i : Nat} (h : i < S.size) : S.data.toList.drop i = S[i] :: S.data.toList.drop (i + 1) := by
  rw [List.drop_eq_getElem_cons (by rw [← Lib.size_eq]; exact h)]
  rfl
abbrev ptrV (b : Nat) : Value := .pointer (some ⟨b, 0, none⟩)
end Go.Proofs.YtlklijpjacmgpaaGreatDoor

namespace Go.Proofs.YtlklijpjacmgpaaGreatDoor
open Go.RowKit
set_option linter.unusedVariables false
set_option linter.unusedSimpArgs false

theorem con_at {S : ByteArray} {i k : Nat} (h : i + 1 + k < S.size) : con (S.data.toList.drop (i + 1))[k]? = if (S[i + 1 + k]).toNat / 64 = 2 then some ((S[i + 1 + k]).toNat % 64) else none := by
  rw [List.getElem?_drop, List.getElem?_eq_getElem (by rw [← Lib.size_eq]; exact h)]
  rfl
theorem con_past {S : ByteArray} {i k : Nat} (h : ¬ i + 1 + k < S.size) : con (S.data.toList.drop (i + 1))[k]? = none := by
  rw [List.getElem?_drop, List.getElem?_eq_none (by rw [← Lib.size_eq]; omega)]
  rfl
/-- the loop's own: what v is after k rounds -/
theorem con_at' {S : ByteArray} {i k : Nat} (h : i + (k + 1) < S.size) : con (S.data.toList.drop (i + 1))[k]? = if (S[i + (k + 1)]).toNat / 64 = 2 then some ((S[i + (k + 1)]).toNat % 64) else none := by
  rw [List.getElem?_drop, show i + 1 + k = i + (k + 1) by omega, List.getElem?_eq_getElem (by rw [← Lib.size_eq]; exact h)]
  rfl
def Ac (S : ByteArray) (i v0 : Nat) (k v : Nat) : Prop := acc (S.data.toList.drop (i + 1)) v0 k = some v
theorem Ac.next {S : ByteArray} {i v0 k v : Nat} (h : Ac S i v0 k v) (hk : i + (k + 1) < S.size) (hc : 128 ≤ (S[i + (k + 1)]).toNat ∧ (S[i + (k + 1)]).toNat ≤ 191) : Ac S i v0 (k + 1) (v * 64 + (S[i + (k + 1)]).toNat - 128) := by
  unfold Ac at *
  simp only [acc, h, Option.bind_some]
  rw [con_at' hk, if_pos (by omega)]
  simp only [Option.map_some]
  exact congrArg some (by omega)
theorem Ac.bad {S : ByteArray} {i v0 k v n : Nat} (hk : ¬ i + 1 + k < S.size) (hn : k < n) : acc (S.data.toList.drop (i + 1)) v0 n = none := by
  induction n with
  | zero => omega
  | succ n ih =>
    simp only [acc]
    by_cases e : k = n
    · subst e; rw [con_past hk]; cases acc (List.drop (i + 1) S.data.toList) v0 k <;> rfl
    · rw [ih (by omega)]; rfl
theorem Ac.bad2 {S : ByteArray} {i v0 k v n : Nat} (hk : i + (k + 1) < S.size) (hc : ¬ (128 ≤ (S[i + (k + 1)]).toNat ∧ (S[i + (k + 1)]).toNat ≤ 191)) (hn : k < n) : acc (S.data.toList.drop (i + 1)) v0 n = none := by
  induction n with
  | zero => omega
  | succ n ih =>
    simp only [acc]
    by_cases e : k = n
    · subst e; rw [con_at' hk, if_neg (by omega)]; cases acc (List.drop (i + 1) S.data.toList) v0 k <;> rfl
    · rw [ih (by omega)]; rfl
def Post (S : ByteArray) (i : Nat) (w : World) (e : Ending) (w' : World) : Prop :=
  e = .returned (.tuple #[.int .i64 (ptR (dec (S.data.toList.drop i))).1, .int .i64 (ptR (dec (S.data.toList.drop i))).2]) ∧ w = w'
theorem among_iff {c lo hi : Int} : among c lo hi = true ↔ lo ≤ c ∧ c ≤ hi := by simp [among]
theorem among_not {c lo hi : Int} : among c lo hi = false ↔ ¬ (lo ≤ c ∧ c ≤ hi) := by simp [among]
def Bd (k v : Nat) : Prop := (k = 0 → v < 32) ∧ (k = 1 → v < 2048) ∧ (k = 2 → v < 131072) ∧ (k = 3 → v < 8388608) ∧ k ≤ 3
theorem Bd.le {k v : Nat} (h : Bd k v) : v < 8388608 := by obtain ⟨h0, h1, h2, h3, h4⟩ := h; omega
theorem Bd.next {k v b : Nat} (h : Bd k v) (hk : k < 3) (hb : 128 ≤ b ∧ b ≤ 191) : Bd (k + 1) (v * 64 + b - 128) := by
  obtain ⟨h0, h1, h2, h3, h4⟩ := h
  refine ⟨by omega, by omega, by omega, by omega, by omega⟩
theorem ret_two {a b c d : Int} (h : a = c) (h' : b = d) : Ending.returned (.tuple #[.int .i64 a, .int .i64 b]) = .returned (.tuple #[.int .i64 c, .int .i64 d]) := by rw [h, h']
theorem fin_ok {n least v : Nat} (h1 : ¬ ((v : Int) < least)) (h2 : (v : Int) ≤ 1114111) (h3 : among v 55296 57343 = false) : fin n least v = some (v, n) := by
  unfold fin
  rw [among_not] at h3
  rw [if_pos ⟨by omega, okc_iff.2 (by omega)⟩]
theorem fin_no {n least v : Nat} (h : (v : Int) < least ∨ 1114111 < (v : Int) ∨ among v 55296 57343 = true) : fin n least v = none := by
  unfold fin
  rw [among_iff] at h
  rw [if_neg]
  rintro ⟨a, b⟩
  rw [okc_iff] at b
  omega
theorem dec_bad {x : Option (Nat × Nat)} (h : x = none) : ptR x = (0, 0) := by rw [h]; rfl
end Go.Proofs.YtlklijpjacmgpaaGreatDoor

namespace Go.Proofs.YtlklijpjacmgpaaGreatDoor
open Go.RowKit
set_option linter.unusedVariables false
set_option linter.unusedSimpArgs false

def lookV (S : ByteArray) (i : Nat) : Int := if S.size ≤ i then -1 else match dec (S.data.toList.drop i) with
  | some p => p.1
  | none => -2
end Go.Proofs.YtlklijpjacmgpaaGreatDoor

namespace Go.Proofs.YtlklijpjacmgpaaGreatDoor
open Go.RowKit
set_option linter.unusedVariables false
set_option linter.unusedSimpArgs false

/-- what is looked at: the code ahead; -1 at the end; -2 at bytes that are none -/
def lk (brk : Bool) : List Nat → Int
  | c :: _ => c
  | [] => if brk then -2 else -1
theorem drop_pre {l : List UInt8} {pre cs : List Nat} {t : List UInt8} (T : Txt l (pre ++ cs) t) : Txt (l.drop (along start pre).b) cs t := by
  refine ⟨?_, fun c hc => T.ok c (List.mem_append_right _ hc), T.stop⟩
  rw [T.eq, along_b]
  show List.drop (0 + _) _ = _
  simp
theorem look_at {S : ByteArray} {pre cs : List Nat} {t : List UInt8} (T : Txt S.data.toList (pre ++ cs) t) : lookV S (along start pre).b = lk (!t.isEmpty) cs := by
  have D := drop_pre T
  have hl := T.len
  have hb := along_b start pre
  have hs : start.b = 0 := rfl
  simp only [List.flatMap_append, List.length_append, ← Lib.size_eq] at hl
  cases cs with
  | nil =>
    cases t with
    | nil =>
      simp only [List.flatMap_nil, List.length_nil] at hl
      unfold lookV
      rw [if_pos (by omega)]; rfl
    | cons x t =>
      simp only [List.flatMap_nil, List.length_nil, List.length_cons] at hl
      unfold lookV
      rw [if_neg (by omega), D.dec_nil.1]; rfl
  | cons c cs =>
    have := enc_pos c
    simp only [List.flatMap_cons, List.length_append] at hl
    unfold lookV
    rw [if_neg (by omega), D.dec_cons.1]; rfl
theorem fits_pre {S : ByteArray} {pre cs : List Nat} {t : List UInt8} (T : Txt S.data.toList (pre ++ cs) t) (hS : S.size ≤ 4096) : (along start pre).fits 4096 := by
  obtain ⟨h1, h2, h3, h4⟩ := along_fits T
  rw [← Lib.size_eq] at h1 h2 h3 h4
  exact ⟨by omega, by omega, by omega, by omega⟩
theorem lk_lt {brk : Bool} {cs : List Nat} {t : List UInt8} {l : List UInt8} (T : Txt l cs t) : -2 ≤ lk brk cs ∧ lk brk cs ≤ 1114111 := by
  cases cs with
  | nil => cases brk <;> simp [lk]
  | cons c cs =>
    have := T.ok c (List.mem_cons_self ..)
    rw [okc_iff] at this
    simp only [lk]; omega
theorem skipC_nil (cm : Bool) : skipC cm [] = [] := rfl
theorem skip_all {mid rest cs : List Nat} (h : cs = mid ++ rest) (h2 : rest = skipC false cs) : skipped cs = mid := by
  have := skipped_append cs
  rw [← h2] at this
  rw [h] at this ⊢
  exact List.append_cancel_right this
/-- the error behind blanks -/
def spErr (brk : Bool) (rest : List Nat) : Int := match rest with
  | [] => if brk then 40 else 0
  | _ => 0
theorem cls10 : cls 10 = 1 := by decide
theorem cls35 (c : Nat) (h : cls c = 6) : c ≠ 10 := by rintro rfl; revert h; decide
end Go.Proofs.YtlklijpjacmgpaaGreatDoor

namespace Go.Proofs.YtlklijpjacmgpaaGreatDoor
open Go.RowKit
set_option linter.unusedVariables false
set_option linter.unusedSimpArgs false

def i64s (xs : List Nat) : List Value := xs.map fun (x : Nat) => Value.int .i64 x
theorem i64s_len (xs : List Nat) : (i64s xs).length = xs.length := by simp [i64s]
theorem i64s_get {xs : List Nat} {j x : Nat} (h : xs[j]? = some x) : (i64s xs)[j]? = some (.int .i64 x) := by simp [i64s, h]
theorem i64s_take (xs : List Nat) (k : Nat) : (i64s xs).take k = i64s (xs.take k) := by simp [i64s, List.map_take]
/-- a number of the reference: below 0 or not, its digits -/
abbrev nV (neg : Bool) (v : Value) : Value := .agg #[.bool neg, v]
theorem info_int : (Tryz.prog.info? 3).map (fun i => (i.zero, i.size, i.bytes)) = some (some (.int .i64 0), 1, 8) := by kernel_rfl
def zs (n : Nat) : List Nat := List.replicate n 0
theorem made_zeros (n : Nat) : (madeCells (Value.int .i64 0).cells (n * 1)).toList = i64s (zs n) := by
  rw [Nat.mul_one]; exact (toList_madeCells_one _ _).trans (by simp [i64s, zs])
end Go.Proofs.YtlklijpjacmgpaaGreatDoor

namespace Go.Proofs.YtlklijpjacmgpaaGreatDoor
open Go.RowKit
set_option linter.unusedVariables false
set_option linter.unusedSimpArgs false

def u32s (xs : List Nat) : List Value := xs.map fun (x : Nat) => Value.int .u32 x
theorem u32s_len (xs : List Nat) : (u32s xs).length = xs.length := by simp [u32s]
theorem u32s_get {xs : List Nat} {j x : Nat} (h : xs[j]? = some x) : (u32s xs)[j]? = some (.int .u32 x) := by simp [u32s, h]
theorem u32s_take (xs : List Nat) (k : Nat) : (u32s xs).take k = u32s (xs.take k) := by simp [u32s, List.map_take]
theorem info_u32 : (Tryz.prog.info? 57).map (fun i => (i.zero, i.size, i.bytes)) = some (some (.int .u32 0), 1, 4) := by kernel_rfl
def L32 : Nat := 4294967296
theorem L32_eq : L32 = 4294967296 := rfl
theorem dig_len_mono {b b' n : Nat} (hb : 2 ≤ b) (h : b ≤ b') : (dig b' n).length ≤ (dig b n).length :=
  (dig_len_le (by omega)).2 (Nat.lt_of_lt_of_le ((dig_len_le (b := b) hb).1 (Nat.le_refl _)) (Nat.pow_le_pow_left h _))
/-- the loop of Limbs: what is told, and what is left -/
def Lm (n m : Nat) (acc : List Nat) : Prop := acc ++ dig L32 m = dig L32 n
theorem Lm.next {n m : Nat} {acc : List Nat} (h : Lm n m acc) (hm : m ≠ 0) : Lm n (m / L32) (acc ++ [m % L32]) := by
  unfold Lm at *; rw [← h, dig_pos (by unfold L32; omega) hm]; simp
theorem Lm.len {n m : Nat} {acc : List Nat} (h : Lm n m acc) : acc.length ≤ (dig 10000 n).length := by
  unfold Lm at h
  have h1 := congrArg List.length h
  have h2 := dig_len_mono (b := 10000) (b' := L32) (n := n) (by omega) (by unfold L32; omega)
  simp at h1; omega
theorem Lm.fin {n : Nat} {acc : List Nat} (h : Lm n 0 acc) : acc = dig L32 n := by unfold Lm at h; rw [dig_zero] at h; simpa using h
/-- the loop's own -/
def LmRel (w wr : World) (n m : Nat) (x3 x4 : Value) : Prop :=
  ∃ (acc : List Nat) (a3 : Option Addr) (c3 : Nat) (a4 : Option Addr) (c4 : Nat), x3 = .slice a3 acc.length c3 ∧ x4 = .slice a4 (dig 10000 m).length c4 ∧ Lm n m acc ∧
    wr.ownsRow w.heap.size 57 1 (.slice a3 acc.length c3) acc.length (u32s acc) ∧ wr.ownsRow w.heap.size 3 1 (.slice a4 (dig 10000 m).length c4) (dig 10000 m).length (i64s (dig 10000 m)) ∧ Fr No w wr
/-- is a number longer than the limit? -/
def big (n : Nat) : Bool := decide (2 ^ 1024 ≤ n)
theorem big_iff (n : Nat) : big n = true ↔ 32 < (dig L32 n).length := by
  have h := dig_len_le (b := L32) (n := n) (k := 32) (by unfold L32; omega)
  have e : L32 ^ 32 = 2 ^ 1024 := by decide +kernel
  rw [e] at h
  unfold big
  rw [decide_eq_true_iff]
  omega
theorem big_77 {n : Nat} (h : big n = true) : 77 < (dig 10000 n).length := by
  have h1 := dig_len_le (b := 10000) (n := n) (k := 77) (by omega)
  unfold big at h
  rw [decide_eq_true_iff] at h
  have e : 10000 ^ 77 ≤ 2 ^ 1024 := by decide +kernel
  have : ¬ n < 10000 ^ 77 := fun hc => absurd (Nat.lt_of_lt_of_le hc (Nat.le_trans e h)) (Nat.lt_irrefl _)
  omega
end Go.Proofs.YtlklijpjacmgpaaGreatDoor

namespace Go.Proofs.YtlklijpjacmgpaaGreatDoor
open Go.RowKit
set_option linter.unusedVariables false
set_option linter.unusedSimpArgs false

/-- what the digits from place k on say -/
def sv (ds : List Nat) (k : Nat) : Nat := valB 10 ((ds.drop k).reverse.map (· - 48))
theorem sv_zero (ds : List Nat) : sv ds 0 = digVal ds := by rw [digVal_val]; rfl
theorem sv_end (ds : List Nat) : sv ds ds.length = 0 := by simp [sv, valB]
theorem sv_step {ds : List Nat} {k : Nat} (h : k < ds.length) : sv ds k = sv ds (k + 1) + 10 ^ (ds.length - (k + 1)) * (ds[k] - 48) := by
  unfold sv
  rw [List.drop_eq_getElem_cons h, List.reverse_cons, List.map_append, valB_append]
  simp [valB]
def DR (ds : List Nat) (k : Nat) (dl : List Nat) (v ten : Nat) : Prop :=
  sv ds k = valB 10000 dl + 10000 ^ dl.length * v ∧ 10 ^ (ds.length - k) = 10000 ^ dl.length * ten ∧ (ten = 1 ∨ ten = 10 ∨ ten = 100 ∨ ten = 1000) ∧ v < ten ∧ (∀ x ∈ dl, x < 10000) ∧ dl.length ≤ ds.length - k
theorem DR.start (ds : List Nat) : DR ds ds.length [] 0 1 := ⟨by rw [sv_end]; simp [valB], by simp, Or.inl rfl, by omega, by simp, by simp⟩
theorem DR.step {ds : List Nat} {k : Nat} {dl : List Nat} {v ten c : Nat} (h : DR ds (k + 1) dl v ten) (hk : k < ds.length) (hc : ds[k] = c) (hd : 48 ≤ c ∧ c ≤ 57) (hten : 10 * ten ≠ 10000) : DR ds k dl (v + ten * (c - 48)) (10 * ten) := by
  obtain ⟨h1, h2, h3, h4, h5, h6⟩ := h
  refine ⟨?_, ?_, by omega, ?_, h5, by omega⟩
  · rw [sv_step hk, h1, h2, hc, Nat.mul_add, Nat.mul_assoc]; omega
  · rw [show ds.length - k = (ds.length - (k + 1)) + 1 by omega, Nat.pow_succ, h2, Nat.mul_assoc, Nat.mul_comm ten 10]
  · rcases h3 with rfl | rfl | rfl | rfl <;> omega
theorem DR.push {ds : List Nat} {k : Nat} {dl : List Nat} {v ten c : Nat} (h : DR ds (k + 1) dl v ten) (hk : k < ds.length) (hc : ds[k] = c) (hd : 48 ≤ c ∧ c ≤ 57) (hten : 10 * ten = 10000) : DR ds k (dl ++ [v + ten * (c - 48)]) 0 1 := by
  obtain ⟨h1, h2, h3, h4, h5, h6⟩ := h
  have e : ten = 1000 := by omega
  subst e
  refine ⟨?_, ?_, Or.inl rfl, by omega, ?_, by simp; omega⟩
  · rw [sv_step hk, h1, h2, hc, valB_append]; simp only [valB, Nat.mul_zero, Nat.add_zero, Nat.mul_add, Nat.mul_assoc]; omega
  · rw [show ds.length - k = (ds.length - (k + 1)) + 1 by omega, Nat.pow_succ, h2]; simp [Nat.pow_succ, Nat.mul_assoc]
  · intro x hx
    simp only [List.mem_append, List.mem_singleton] at hx
    rcases hx with hx | rfl
    · exact h5 x hx
    · omega
theorem DR.fin {ds dl : List Nat} {v ten : Nat} (h : DR ds 0 dl v ten) : trimT (dl ++ [v]) = dig 10000 (digVal ds) := by
  obtain ⟨h1, h2, h3, h4, h5, h6⟩ := h
  rw [trimT_eq (b := 10000) (by omega)]
  · rw [valB_append, ← sv_zero, h1]; simp [valB]
  · intro x hx
    simp only [List.mem_append, List.mem_singleton] at hx
    rcases hx with hx | rfl
    · exact h5 x hx
    · omega
def codesOf (s : ByteArray) : List Nat := s.data.toList.map UInt8.toNat
theorem codesOf_len (s : ByteArray) : (codesOf s).length = s.size := by rw [Lib.size_eq]; simp [codesOf]
theorem codesOf_get {s : ByteArray} {k : Nat} (h : k < s.size) (h' : k < (codesOf s).length) : (codesOf s)[k] = (s[k]).toNat := by
  simp [codesOf]; rfl
end Go.Proofs.YtlklijpjacmgpaaGreatDoor

namespace Go.Proofs.YtlklijpjacmgpaaGreatDoor
open Go.RowKit
set_option linter.unusedVariables false
set_option linter.unusedSimpArgs false

def partI (c : Int) : Bool := decide (0 ≤ c ∧ (cls c = 2 ∨ cls c = 3 ∨ cls c = 4))
theorem bare_step {r : ByteArray} (h : 1 < r.size) (h0 : r[0] = 48) : bareL r.data.toList = bareL (r.extract 1 r.size).data.toList := by
  rw [Lib.extract_data, List.take_of_length_le (by rw [List.length_drop, ← Lib.size_eq]; exact Nat.le_refl _)]
  have hl := Lib.size_eq r
  have e0 : r.data.toList[0]? = some 48 := by
    rw [List.getElem?_eq_getElem (show 0 < r.data.toList.length by omega)]
    exact congrArg some h0
  cases hd : r.data.toList with
  | nil => rw [hd] at hl; simp only [List.length_nil] at hl; omega
  | cons x l =>
    rw [hd] at e0 hl
    simp at e0
    subst e0
    cases l with
    | nil => simp only [List.length_cons, List.length_nil] at hl; omega
    | cons y l => simp [bareL]
theorem bare_stop {r : ByteArray} (h : r.size ≤ 1 ∨ ∃ hh : 0 < r.size, r[0] ≠ 48) : bareL r.data.toList = r.data.toList := by
  have hl := Lib.size_eq r
  cases hd : r.data.toList with
  | nil => rfl
  | cons x l =>
    cases l with
    | nil => rfl
    | cons y l =>
      rw [hd] at hl
      simp only [List.length_cons] at hl
      rcases h with h | ⟨hh, h⟩
      · omega
      · have e0 : r.data.toList[0]? = some (r[0]) := by
          rw [List.getElem?_eq_getElem (by rw [hd]; simp)]; rfl
        rw [hd] at e0
        simp at e0
        simp only [bareL]
        rw [if_neg (by rw [e0]; exact h)]
end Go.Proofs.YtlklijpjacmgpaaGreatDoor

namespace Go.Proofs.YtlklijpjacmgpaaGreatDoor
open Go.RowKit
set_option linter.unusedVariables false
set_option linter.unusedSimpArgs false

def plA (p : Pl) : Array Value := #[.int .i64 p.b, .int .i64 p.g, .int .i64 p.l, .int .i64 p.c]
def tokA (k : Int) (s : ByteArray) (p : Pl) : Array Value := #[.int .i64 k, .string s, .int .i64 p.b, .int .i64 p.g, .int .i64 p.l, .int .i64 p.c]
def plO (p : Pl) : Obj := .cells #[.int .i64 p.b, .int .i64 p.g, .int .i64 p.l, .int .i64 p.c] 26 (0, 0)
def tokO (k : Int) (s : ByteArray) (p : Pl) : Obj := .cells #[.int .i64 k, .string s, .int .i64 p.b, .int .i64 p.g, .int .i64 p.l, .int .i64 p.c] 83 (0, 0)
def zeroPl : Pl := ⟨0, 0, 0, 0⟩
theorem results_ctc {fn : Func} {p q r : Tmp} {t1 t2 : TypeId} (h : fn.results = #[.cell p t1, .tmp q, .cell r t2]) (tmps : Array Value) (w : World) (g1 g2 : Nat) (cs1 cs2 : Array Value)
    (hp : tmps.getD p undef = .pointer (some ⟨g1, 0, none⟩)) (hr : tmps.getD r undef = .pointer (some ⟨g2, 0, none⟩))
    (L1 : (loadVar t1 ⟨g1, 0, none⟩).run Tryz.prog w = .ok (.agg cs1) w) (L2 : (loadVar t2 ⟨g2, 0, none⟩).run Tryz.prog w = .ok (.agg cs2) w) :
    (results fn tmps).run Tryz.prog w = .ok (.tuple #[.agg cs1, tmps.getD q undef, .agg cs2]) w := by
  have hp' : tmps[p]?.getD undef = .pointer (some ⟨g1, 0, none⟩) := by simpa using hp
  have hr' : tmps[r]?.getD undef = .pointer (some ⟨g2, 0, none⟩) := by simpa using hr
  simp only [results, h]
  simp [hp', hr', asAddr, L1, L2, Sem.run_bind, Result.andThen]
theorem results_ttc {fn : Func} {p q r : Tmp} {t2 : TypeId} (h : fn.results = #[.tmp p, .tmp q, .cell r t2]) (tmps : Array Value) (w : World) (g2 : Nat) (cs2 : Array Value)
    (hr : tmps.getD r undef = .pointer (some ⟨g2, 0, none⟩)) (L2 : (loadVar t2 ⟨g2, 0, none⟩).run Tryz.prog w = .ok (.agg cs2) w) :
    (results fn tmps).run Tryz.prog w = .ok (.tuple #[tmps.getD p undef, tmps.getD q undef, .agg cs2]) w := by
  have hr' : tmps[r]?.getD undef = .pointer (some ⟨g2, 0, none⟩) := by simpa using hr
  simp only [results, h]
  simp [hr', asAddr, L2, Sem.run_bind, Result.andThen]
theorem load_tok {w : World} {g : Nat} {cs : Array Value} (hg : Blk w g (.cells cs 83 (0, 0))) (hs : cs.size = 6) : (loadVar 83 ⟨g, 0, none⟩).run Tryz.prog w = .ok (.agg cs) w :=
  run_loadVar_row w g _ _ cs _ _ hg Tryz.underlying83 rfl (by rw [hs]; kernel_rfl)
theorem load_pl {w : World} {g : Nat} {cs : Array Value} (hg : Blk w g (.cells cs 26 (0, 0))) (hs : cs.size = 4) : (loadVar 26 ⟨g, 0, none⟩).run Tryz.prog w = .ok (.agg cs) w :=
  run_loadVar_row w g _ _ cs _ _ hg Tryz.underlying26 rfl (by rw [hs]; kernel_rfl)
end Go.Proofs.YtlklijpjacmgpaaGreatDoor

namespace Go.Proofs.YtlklijpjacmgpaaGreatDoor
open Go.RowKit
set_option linter.unusedVariables false
set_option linter.unusedSimpArgs false

theorem partI_code (c : Nat) : partI (c : Int) = part c := by unfold partI part; simp
theorem partI_neg {c : Int} (h : c < 0) : partI c = false := by unfold partI; simp; omega
theorem takeWhile_at {p : Nat → Bool} {mid rest l : List Nat} (h : l = mid ++ rest) (h1 : ∀ x ∈ mid, p x = true) (h2 : ∀ x, rest.head? = some x → p x = false) : l.takeWhile p = mid := by
  subst h
  rw [List.takeWhile_append_of_pos h1]
  cases rest with
  | nil => simp
  | cons y r => rw [List.takeWhile_cons_of_neg (by rw [h2 y rfl]; simp)]; simp
theorem text_cut {S : ByteArray} {pre mid rest : List Nat} {t : List UInt8} (T : Txt S.data.toList (pre ++ mid ++ rest) t) : S.extract (along start pre).b (along start (pre ++ mid)).b = ⟨(mid.flatMap enc).toArray⟩ := by
  rw [Lib.extract_eq, along_b, along_b, T.eq]
  show (⟨((List.drop (0 + _) _).take _).toArray⟩ : ByteArray) = _
  simp only [List.flatMap_append, List.length_append, List.append_assoc, Nat.zero_add]
  rw [List.drop_left]
  congr 2
  rw [show start.b + ((List.flatMap enc pre).length + (List.flatMap enc mid).length) - (start.b + (List.flatMap enc pre).length) = (List.flatMap enc mid).length by omega]
  rw [List.take_left]
theorem tk2 {c : Nat} {r : List Nat} (h : cls c = 2) : tk (c :: r) = if 16 < ((c :: r).takeWhile part).length then .bad 42 else .ok 1 (((c :: r).takeWhile part).flatMap enc) ((c :: r).takeWhile part).length := by
  simp only [tk]; rw [if_pos h]
theorem tk3 {c : Nat} {r : List Nat} (h : cls c = 3) : tk (c :: r) = if 2 ^ 1024 ≤ digVal ((c :: r).takeWhile digit) then .bad 2 else .ok 2 (decText (digVal ((c :: r).takeWhile digit))) ((c :: r).takeWhile digit).length := by
  simp only [tk]; rw [if_neg (by omega), if_pos h]
theorem tk5 {c : Nat} {r : List Nat} (h : cls c = 5) : tk (c :: r) = if c = 8788 then .ok 3 [58, 61] 1 else if c = 8800 then .ok 3 [33, 61] 1 else if c = 58 ∨ c = 33 then (if r.head? = some 61 then .ok 3 [UInt8.ofNat c, 61] 2 else .bad 41) else .ok 3 [UInt8.ofNat (fold c).toNat] 1 := by
  simp only [tk]; rw [if_neg (by omega), if_neg (by omega), if_pos h]
theorem tkE {c : Nat} {r : List Nat} (h2 : cls c ≠ 2) (h3 : cls c ≠ 3) (h5 : cls c ≠ 5) : tk (c :: r) = .bad 41 := by
  simp only [tk]; rw [if_neg h2, if_neg h3, if_neg h5]
end Go.Proofs.YtlklijpjacmgpaaGreatDoor

namespace Go.Proofs.YtlklijpjacmgpaaGreatDoor
open Go.RowKit
set_option linter.unusedVariables false
set_option linter.unusedSimpArgs false

theorem enc_digit {x : Nat} (h : cls x = 3) : enc x = [UInt8.ofNat x] ∧ 48 ≤ x ∧ x ≤ 57 := by
  have : isDigit (x : Int) = true := by
    cases hd : isDigit (x : Int) with
    | true => rfl
    | false =>
      unfold cls at h
      repeat' split at h
      all_goals simp_all
  unfold isDigit at this
  simp at this
  refine ⟨?_, by omega, by omega⟩
  unfold enc
  rw [if_pos (by omega)]
theorem digits_text {mid : List Nat} (h : ∀ x ∈ mid, digit x = true) : mid.flatMap enc = mid.map UInt8.ofNat ∧ ∀ x ∈ mid, 48 ≤ x ∧ x ≤ 57 := by
  induction mid with
  | nil => simp
  | cons x mid ih =>
    have h1 := enc_digit (x := x) (by have := h x (List.mem_cons_self ..); unfold digit at this; simpa using this)
    obtain ⟨i1, i2⟩ := ih (fun y hy => h y (List.mem_cons_of_mem _ hy))
    refine ⟨by simp [h1.1, i1], fun y hy => ?_⟩
    cases hy with
    | head => exact h1.2
    | tail _ hy => exact i2 y hy
theorem codes_digits {mid : List Nat} (h : ∀ x ∈ mid, 48 ≤ x ∧ x ≤ 57) : codesOf ⟨(mid.map UInt8.ofNat).toArray⟩ = mid := by
  unfold codesOf
  simp only [List.map_map]
  conv => rhs; rw [← List.map_id mid]
  refine List.map_congr_left fun x hx => ?_
  have := h x hx
  simp only [Function.comp_apply, UInt8.toNat_ofNat', id]
  omega
/-- the digits of a number's text -/
theorem codes_dec {n : Nat} : digVal (codesOf ⟨(decText n).toArray⟩) = n ∧ (∀ x ∈ codesOf ⟨(decText n).toArray⟩, 48 ≤ x ∧ x ≤ 57) := by
  unfold decText
  by_cases h0 : n = 0
  · subst h0; exact ⟨by decide, by decide⟩
  · rw [if_neg h0]
    have hd : ∀ x ∈ dig 10 n, x < 10 := dig_lt (by omega) n
    have e : ((dig 10 n).reverse.map fun d => UInt8.ofNat (48 + d)) = ((dig 10 n).reverse.map fun d => 48 + d).map UInt8.ofNat := by simp
    have hr : ∀ x ∈ (dig 10 n).reverse.map (fun d => 48 + d), 48 ≤ x ∧ x ≤ 57 := by
      intro x hx
      simp only [List.mem_map, List.mem_reverse] at hx
      obtain ⟨y, hy, rfl⟩ := hx
      have := hd y hy
      omega
    rw [e, codes_digits hr]
    refine ⟨?_, hr⟩
    rw [digVal_val, List.map_reverse, List.map_reverse, List.map_reverse, List.reverse_reverse, List.map_map]
    have : (dig 10 n).map ((fun x => x - 48) ∘ fun d => 48 + d) = dig 10 n := by
      conv => rhs; rw [← List.map_id (dig 10 n)]
      refine List.map_congr_left fun x _ => ?_
      simp
    rw [this, valB_dig (by omega)]
theorem dec_len {n k : Nat} (h : n < 10 ^ k) (hk : 0 < k) : (decText n).length ≤ k := by
  unfold decText
  by_cases h0 : n = 0
  · rw [if_pos h0]; simp; omega
  · rw [if_neg h0]; simp; exact (dig_len_le (by omega)).2 h
end Go.Proofs.YtlklijpjacmgpaaGreatDoor

namespace Go.Proofs.YtlklijpjacmgpaaGreatDoor
open Go.RowKit
set_option linter.unusedVariables false
set_option linter.unusedSimpArgs false

theorem fold_byte {c : Nat} (hc : cls c = 5) (h1 : c ≠ 8788 ∧ c ≠ 8800 ∧ c ≠ 58 ∧ c ≠ 33) : 0 ≤ fold (c : Int) ∧ fold (c : Int) ≤ 127 := by
  unfold cls at hc
  unfold fold
  have : isSign (c : Int) = true := by
    cases hd : isSign (c : Int) with
    | true => rfl
    | false =>
      repeat' split at hc
      all_goals simp_all
  unfold isSign at this
  simp at this
  repeat' split
  all_goals omega
theorem head_ne {brk : Bool} {r : List Nat} {v : Int} (h : lk brk r = v) (hv : v ≠ 61) : ¬ r.head? = some 61 := by
  intro hc
  cases r with
  | nil => cases hc
  | cons x r => simp at hc; subst hc; exact hv h.symm
end Go.Proofs.YtlklijpjacmgpaaGreatDoor

namespace Go.Proofs.YtlklijpjacmgpaaGreatDoor
open Go.RowKit
set_option linter.unusedVariables false
set_option linter.unusedSimpArgs false

def tokC (x : Tok) : List Value := [.int .i64 x.kind, .string ⟨x.text.toArray⟩, .int .i64 x.at_.b, .int .i64 x.at_.g, .int .i64 x.at_.l, .int .i64 x.at_.c]
def toksV (l : List Tok) : List Value := l.flatMap tokC
theorem toksV_len (l : List Tok) : (toksV l).length = l.length * 6 := by
  induction l with
  | nil => rfl
  | cons x l ih => simp only [toksV, List.flatMap_cons, List.length_append, List.length_cons] at ih ⊢; rw [ih]; simp [tokC]; omega
theorem info_tok : (Tryz.prog.info? 83).map (fun i => (i.zero, i.size, i.bytes)) = some (some (.agg #[.int .i64 0, .string ⟨#[]⟩, .int .i64 0, .int .i64 0, .int .i64 0, .int .i64 0]), 6, 56) := by kernel_rfl
theorem new_row (w : World) (cs : Array Value) (t : TypeId) : ∀ j u, cs.toList[j]? = some u → (w.alloc (.cells cs t (0, 0))).cell? ((⟨w.heap.size, 0, none⟩ : Addr).add j) = some u := by
  intro j u h
  have hb := Blk.new w (.cells cs t (0, 0))
  have := hb.cell j u (by simpa using h)
  by_cases h0 : j = 0
  · subst h0; simpa [Addr.add] using this
  · simpa [Addr.add, h0] using this
theorem new_row2 {w : World} {cs : Array Value} {t : TypeId} {m : Nat} (hm : w.heap.size = m) : ∀ j u, cs.toList[j]? = some u → (w.alloc (.cells cs t (0, 0))).cell? ((⟨m, 0, none⟩ : Addr).add j) = some u := by
  subst hm; exact new_row w cs t
theorem tokC_one (x : Tok) : ∀ u ∈ tokC x, u.oneCell' = true := by
  intro u hu
  simp only [tokC, List.mem_cons, List.not_mem_nil, or_false] at hu
  rcases hu with rfl | rfl | rfl | rfl | rfl | rfl <;> rfl
theorem decText_ne (n : Nat) : decText n ≠ [] := by
  unfold decText
  split
  · simp
  · rename_i h
    simp [dig_pos (b := 10) (by omega) h]
theorem takeWhile_pos {p : Nat → Bool} {c : Nat} {r : List Nat} (h : p c = true) : 1 ≤ ((c :: r).takeWhile p).length := by
  rw [List.takeWhile_cons_of_pos h]; simp
theorem takeWhile_le (p : Nat → Bool) (l : List Nat) : (l.takeWhile p).length ≤ l.length := (List.takeWhile_sublist p).length_le
/-- a token takes something, and is no end -/
theorem tk_ok {c : Nat} {r : List Nat} {k : Int} {x : List UInt8} {m : Nat} (h : tk (c :: r) = .ok k x m) : 1 ≤ m ∧ m ≤ (c :: r).length ∧ (k = 1 ∨ k = 2 ∨ k = 3) := by
  simp only [tk] at h
  split at h
  · rename_i h2
    split at h
    · cases h
    · cases h
      exact ⟨takeWhile_pos (by unfold part; simp [h2]), takeWhile_le _ _, Or.inl rfl⟩
  · split at h
    · rename_i h3
      split at h
      · cases h
      · cases h
        exact ⟨takeWhile_pos (by unfold digit; simp [h3]), takeWhile_le _ _, Or.inr (Or.inl rfl)⟩
    · split at h
      · repeat' split at h
        all_goals first
          | (cases h; refine ⟨by omega, ?_, Or.inr (Or.inr rfl)⟩; simp)
          | cases h
        rename_i hh
        cases r with
        | nil => cases hh
        | cons y r => simp
      · cases h
theorem tk_bad {c : Nat} {r : List Nat} {n : Int} (h : tk (c :: r) = .bad n) : n = 42 ∨ n = 2 ∨ n = 41 := by
  simp only [tk] at h
  repeat' split at h
  all_goals first
    | (cases h; simp; done)
    | cases h
/-- what Scan hands back -/
def ScanOut (w : World) (r : Res) (e : Ending) (w' : World) : Prop :=
  match r with
  | .bad n p => e = .returned (.tuple #[.slice none 0 0, .int .i64 n, .agg (plA p)]) ∧ Fr No w w'
  | .ok l => ∃ a c, e = .returned (.tuple #[.slice a l.length c, .int .i64 0, .agg (plA zeroPl)]) ∧ w'.ownsRow w.heap.size 83 6 (.slice a l.length c) l.length (toksV l) ∧ Fr No w w'
theorem pl_exit {w wr : World} {q : Pl} (h : Blk wr w.heap.size (plO q)) (hf : Fr No w wr) (p : Pl) (W : World)
    (hW : W = (((wr.setCell ⟨w.heap.size, 0, none⟩ (.int .i64 p.b)).setCell ⟨w.heap.size, 1, none⟩ (.int .i64 p.g)).setCell ⟨w.heap.size, 2, none⟩ (.int .i64 p.l)).setCell ⟨w.heap.size, 3, none⟩ (.int .i64 p.c)) :
    Blk W w.heap.size (plO p) ∧ Fr No w W := by
  subst hW
  refine ⟨(((h.setOff 0 _).setOff 1 _).setOff 2 _).setOff 3 _, ?_⟩
  exact (((hf.setCell _ (by simp)).setCell _ (by simp)).setCell _ (by simp)).setCell _ (by simp)
/-- the tokens of a text -/
def scanOf (cs : List Nat) (t : List UInt8) : Res := scan (!t.isEmpty) (cs.length + 1) [] cs
end Go.Proofs.YtlklijpjacmgpaaGreatDoor

