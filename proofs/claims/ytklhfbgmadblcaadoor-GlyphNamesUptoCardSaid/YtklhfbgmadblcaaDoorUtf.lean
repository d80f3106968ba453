/- UTF-8 on lists of bytes: plain lemmas, no program. -/
import GoSem.Core.Utf8
import Derived.Lib.Strings
namespace Go.Proofs.YtklhfbgmadblcaaDoor
open Go

/-- a code point that is written -/
def okc (c : Nat) : Bool := decide (c < 0xD800) || (decide (0xE000 ≤ c) && decide (c ≤ 0x10FFFF))

/-- its bytes -/
def enc (c : Nat) : List UInt8 :=
  if c < 0x80 then [UInt8.ofNat c]
  else if c < 0x800 then [UInt8.ofNat (0xC0 + c / 64), UInt8.ofNat (0x80 + c % 64)]
  else if c < 0x10000 then [UInt8.ofNat (0xE0 + c / 4096), UInt8.ofNat (0x80 + c / 64 % 64), UInt8.ofNat (0x80 + c % 64)]
  else [UInt8.ofNat (0xF0 + c / 262144), UInt8.ofNat (0x80 + c / 4096 % 64), UInt8.ofNat (0x80 + c / 64 % 64), UInt8.ofNat (0x80 + c % 64)]

/-- a byte that goes on: its six bits -/
def con (o : Option UInt8) : Option Nat := match o with
  | some b => if b.toNat / 64 = 2 then some (b.toNat % 64) else none
  | none => none

/-- the code point at the head of a list, and how many bytes it has -/
def dec (l : List UInt8) : Option (Nat × Nat) :=
  match l with
  | [] => none
  | b :: r =>
    if b.toNat < 0x80 then some (b.toNat, 1)
    else if b.toNat / 32 = 6 then
      (con r[0]?).bind fun x => if 0x80 ≤ b.toNat % 32 * 64 + x then some (b.toNat % 32 * 64 + x, 2) else none
    else if b.toNat / 16 = 14 then
      (con r[0]?).bind fun x => (con r[1]?).bind fun y =>
        if 0x800 ≤ b.toNat % 16 * 4096 + x * 64 + y ∧ okc (b.toNat % 16 * 4096 + x * 64 + y) = true then some (b.toNat % 16 * 4096 + x * 64 + y, 3) else none
    else if b.toNat / 8 = 30 then
      (con r[0]?).bind fun x => (con r[1]?).bind fun y => (con r[2]?).bind fun z =>
        if 0x10000 ≤ b.toNat % 8 * 262144 + x * 4096 + y * 64 + z ∧ okc (b.toNat % 8 * 262144 + x * 4096 + y * 64 + z) = true then some (b.toNat % 8 * 262144 + x * 4096 + y * 64 + z, 4) else none
    else none

theorem con_lt {o : Option UInt8} {x : Nat} (h : con o = some x) : x < 64 := by
  unfold con at h
  split at h
  · split at h
    · cases h; exact Nat.mod_lt _ (by omega)
    · cases h
  · cases h

theorem con_byte {o : Option UInt8} {x : Nat} (h : con o = some x) : o = some (UInt8.ofNat (0x80 + x)) := by
  unfold con at h
  split at h
  · rename_i b
    split at h
    · cases h
      congr 1
      apply UInt8.toNat_inj.mp
      have := b.toNat_lt
      simp only [UInt8.toNat_ofNat']
      omega
    · cases h
  · cases h

theorem con_mk {x : Nat} (h : x < 64) : con (some (UInt8.ofNat (0x80 + x))) = some x := by
  have e : (UInt8.ofNat (0x80 + x)).toNat = 0x80 + x := by simp only [UInt8.toNat_ofNat']; omega
  simp only [con, e]
  rw [if_pos (by omega)]
  congr 1
  omega

theorem okc_iff {c : Nat} : okc c = true ↔ c < 0xD800 ∨ (0xE000 ≤ c ∧ c ≤ 0x10FFFF) := by simp [okc]

theorem dec_enc {c : Nat} (hc : okc c = true) (r : List UInt8) : dec (enc c ++ r) = some (c, (enc c).length) := by
  have h := okc_iff.1 hc
  unfold enc
  by_cases h1 : c < 0x80
  · simp only [if_pos h1, List.cons_append, List.nil_append, dec]
    have e : (UInt8.ofNat c).toNat = c := by simp only [UInt8.toNat_ofNat']; omega
    simp only [e, if_pos h1, List.length_cons, List.length_nil]
  · rw [if_neg h1]
    by_cases h2 : c < 0x800
    · simp only [if_pos h2, List.cons_append, List.nil_append, dec]
      have e : (UInt8.ofNat (0xC0 + c / 64)).toNat = 0xC0 + c / 64 := by simp only [UInt8.toNat_ofNat']; omega
      simp only [e, List.getElem?_cons_zero, con_mk (show c % 64 < 64 by omega), Option.bind_some, List.length_cons, List.length_nil]
      rw [if_neg (by omega), if_pos (by omega), if_pos (by omega)]
      congr 2
      omega
    · rw [if_neg h2]
      by_cases h3 : c < 0x10000
      · simp only [if_pos h3, List.cons_append, List.nil_append, dec]
        have e : (UInt8.ofNat (0xE0 + c / 4096)).toNat = 0xE0 + c / 4096 := by simp only [UInt8.toNat_ofNat']; omega
        simp only [e, List.getElem?_cons_zero, List.getElem?_cons_succ, con_mk (show c % 64 < 64 by omega), con_mk (show c / 64 % 64 < 64 by omega), Option.bind_some, List.length_cons, List.length_nil]
        rw [if_neg (by omega), if_neg (by omega), if_pos (by omega)]
        have e2 : (0xE0 + c / 4096) % 16 * 4096 + c / 64 % 64 * 64 + c % 64 = c := by omega
        rw [e2, if_pos ⟨by omega, hc⟩]
      · simp only [if_neg h3, List.cons_append, List.nil_append, dec]
        have e : (UInt8.ofNat (0xF0 + c / 262144)).toNat = 0xF0 + c / 262144 := by simp only [UInt8.toNat_ofNat']; omega
        simp only [e, List.getElem?_cons_zero, List.getElem?_cons_succ, con_mk (show c % 64 < 64 by omega), con_mk (show c / 64 % 64 < 64 by omega), con_mk (show c / 4096 % 64 < 64 by omega), Option.bind_some, List.length_cons, List.length_nil]
        rw [if_neg (by omega), if_neg (by omega), if_neg (by omega), if_pos (by omega)]
        have e2 : (0xF0 + c / 262144) % 8 * 262144 + c / 4096 % 64 * 4096 + c / 64 % 64 * 64 + c % 64 = c := by omega
        rw [e2, if_pos ⟨by omega, hc⟩]

theorem drop_cons_of_get {l : List UInt8} {b : UInt8} (h : l[0]? = some b) : l = b :: l.drop 1 := by
  cases l with
  | nil => cases h
  | cons a r => simp at h; subst h; rfl

theorem byte_eq {b : UInt8} {n : Nat} (h : n = b.toNat) : UInt8.ofNat n = b := by
  subst h; simp

theorem dec_spec {l : List UInt8} {c n : Nat} (h : dec l = some (c, n)) : okc c = true ∧ n = (enc c).length ∧ l = enc c ++ l.drop n := by
  cases l with
  | nil => cases h
  | cons b r =>
    have hb := b.toNat_lt
    simp only [dec] at h
    split at h
    · rename_i h1
      simp only [Option.some.injEq, Prod.mk.injEq] at h
      obtain ⟨rfl, rfl⟩ := h
      refine ⟨okc_iff.2 (by omega), ?_, ?_⟩
      · simp [enc, if_pos h1]
      · simp [enc, if_pos h1]
    · split at h
      · rename_i h1 h2
        obtain ⟨x, hx, h⟩ := Option.bind_eq_some_iff.1 h
        split at h
        · rename_i h3
          simp only [Option.some.injEq, Prod.mk.injEq] at h
          obtain ⟨rfl, rfl⟩ := h
          have hx' := con_lt hx
          have er := drop_cons_of_get (con_byte hx)
          refine ⟨okc_iff.2 (by omega), ?_, ?_⟩
          · unfold enc; rw [if_neg (by omega), if_pos (by omega)]; rfl
          · unfold enc; rw [if_neg (by omega), if_pos (by omega), byte_eq (b := b) (by omega)]
            rw [show (b.toNat % 32 * 64 + x) % 64 = x by omega]
            simp only [List.cons_append, List.nil_append, List.drop_succ_cons, List.cons.injEq, true_and]
            exact er
        · cases h
      · split at h
        · rename_i h1 h2 h3
          obtain ⟨x, hx, h⟩ := Option.bind_eq_some_iff.1 h
          obtain ⟨y, hy, h⟩ := Option.bind_eq_some_iff.1 h
          split at h
          · rename_i h4
            simp only [Option.some.injEq, Prod.mk.injEq] at h
            obtain ⟨rfl, rfl⟩ := h
            have hx' := con_lt hx
            have hy' := con_lt hy
            have er := drop_cons_of_get (con_byte hx)
            have er2 := drop_cons_of_get (l := r.drop 1) (b := UInt8.ofNat (0x80 + y)) (by rw [← con_byte hy]; simp)
            refine ⟨h4.2, ?_, ?_⟩
            · unfold enc; rw [if_neg (by omega), if_neg (by omega), if_pos (by omega)]; rfl
            · unfold enc; rw [if_neg (by omega), if_neg (by omega), if_pos (by omega), byte_eq (b := b) (by omega)]
              rw [show (b.toNat % 16 * 4096 + x * 64 + y) / 64 % 64 = x by omega, show (b.toNat % 16 * 4096 + x * 64 + y) % 64 = y by omega]
              simp only [List.cons_append, List.nil_append, List.drop_succ_cons, List.cons.injEq, true_and]
              rw [List.drop_drop] at er2
              rw [← er2]; exact er
          · cases h
        · split at h
          · rename_i h1 h2 h3 h4
            obtain ⟨x, hx, h⟩ := Option.bind_eq_some_iff.1 h
            obtain ⟨y, hy, h⟩ := Option.bind_eq_some_iff.1 h
            obtain ⟨z, hz, h⟩ := Option.bind_eq_some_iff.1 h
            split at h
            · rename_i h5
              simp only [Option.some.injEq, Prod.mk.injEq] at h
              obtain ⟨rfl, rfl⟩ := h
              have hx' := con_lt hx
              have hy' := con_lt hy
              have hz' := con_lt hz
              have er := drop_cons_of_get (con_byte hx)
              have er2 := drop_cons_of_get (l := r.drop 1) (b := UInt8.ofNat (0x80 + y)) (by rw [← con_byte hy]; simp)
              have er3 := drop_cons_of_get (l := r.drop 2) (b := UInt8.ofNat (0x80 + z)) (by rw [← con_byte hz]; simp)
              refine ⟨h5.2, ?_, ?_⟩
              · unfold enc; rw [if_neg (by omega), if_neg (by omega), if_neg (by omega)]; rfl
              · unfold enc; rw [if_neg (by omega), if_neg (by omega), if_neg (by omega), byte_eq (b := b) (by omega)]
                rw [show (b.toNat % 8 * 262144 + x * 4096 + y * 64 + z) / 4096 % 64 = x by omega, show (b.toNat % 8 * 262144 + x * 4096 + y * 64 + z) / 64 % 64 = y by omega, show (b.toNat % 8 * 262144 + x * 4096 + y * 64 + z) % 64 = z by omega]
                simp only [List.cons_append, List.nil_append, List.drop_succ_cons, List.cons.injEq, true_and]
                rw [List.drop_drop] at er2 er3
                rw [← er3, ← er2]; exact er
            · cases h
          · cases h

theorem enc_pos (c : Nat) : 0 < (enc c).length := by
  unfold enc; repeat' split
  all_goals simp
theorem enc_le (c : Nat) : (enc c).length ≤ 4 := by
  unfold enc; repeat' split
  all_goals simp
theorem dec_pos {l : List UInt8} {c n : Nat} (h : dec l = some (c, n)) : 0 < n := by rw [(dec_spec h).2.1]; exact enc_pos c
theorem dec_le {l : List UInt8} {c n : Nat} (h : dec l = some (c, n)) : n ≤ l.length := by
  have h1 := congrArg List.length (dec_spec h).2.2
  have h2 := (dec_spec h).2.1
  simp at h1; omega

end Go.Proofs.YtklhfbgmadblcaaDoor
