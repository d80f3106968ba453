/- A text as a stream of code points: plain lemmas, no program. -/
import Derived.Test.YtklhfbgmadblcaaDoorUtf
import Derived.Lib.DecodeN
import Derived.Lib.RuneCount
namespace Go.Proofs.YtklhfbgmadblcaaDoor
open Go
set_option linter.unusedVariables false
set_option linter.unusedSimpArgs false

theorem get_bang (s : ByteArray) (i : Nat) : s.get! i = (s.data.toList[i]?).getD 0 := by
  have : s.get! i = s.data[i]! := rfl
  rw [this, getElem!_def]
  cases h : s.data[i]? with
  | none => simp [h]; rfl
  | some x => simp [h]

theorem con_some (b : UInt8) : con (some b) = if b.toNat / 64 = 2 then some (b.toNat % 64) else none := rfl
theorem con_none : con none = none := rfl

set_option maxHeartbeats 1000000 in
theorem decode_head (s : ByteArray) (b : UInt8) (r : List UInt8) (h : s.data.toList = b :: r) : Utf8.decode s 0 = (dec (b :: r)).getD (65533, 1) := by
  have hn : s.size = r.length + 1 := by rw [Lib.size_eq, h]; rfl
  have g0 : s.get! 0 = b := by rw [get_bang, h]; rfl
  have g1 : s.get! 1 = (r[0]?).getD 0 := by rw [get_bang, h]; simp
  have g2 : s.get! 2 = (r[1]?).getD 0 := by rw [get_bang, h]; simp
  have g3 : s.get! 3 = (r[2]?).getD 0 := by rw [get_bang, h]; simp
  rw [Lib.decode_at, hn]
  simp only [Nat.zero_add, g0, g1, g2, g3, Nat.sub_zero]
  have hb := b.toNat_lt
  cases h0 : r[0]? with
  | none =>
    have hl : r.length = 0 := by simpa using h0
    have e1 : r[1]? = none := by simp [hl]
    have e2 : r[2]? = none := by simp [hl]
    simp only [dec, h0, e1, e2, con_none, Option.bind_none, Lib.decodeN, hl]
    by_cases c1 : b.toNat < 128
    · simp [c1]
    · simp [c1]
  | some x =>
    have hl : 0 < r.length := (List.getElem?_eq_some_iff.1 h0).1
    have hx := x.toNat_lt
    have l1 : (1 < r.length + 1) = True := eq_true (by omega)
    cases h1 : r[1]? with
    | none =>
      have hl1 : r.length ≤ 1 := by simpa using h1
      have e2 : r[2]? = none := by simp; omega
      have l2 : (2 < r.length + 1) = False := eq_false (by omega)
      simp only [dec, h0, h1, e2, con_none, con_some, Lib.decodeN, l1, l2, Option.getD_some, Option.getD_none, true_and, false_and, and_false, if_false]
      by_cases c1 : b.toNat < 128
      · simp [c1]
      · by_cases c2 : b.toNat / 32 = 6
        · by_cases c3 : x.toNat / 64 = 2
          · by_cases c4 : 128 ≤ b.toNat % 32 * 64 + x.toNat % 64 <;> simp [c1, c2, c3, c4]
          · simp [c1, c2, c3]
            repeat' split
            all_goals simp
        · simp [c1, c2]
          repeat' split
          all_goals simp
    | some y =>
      have hl1 : 1 < r.length := (List.getElem?_eq_some_iff.1 h1).1
      have hy := y.toNat_lt
      have l2 : (2 < r.length + 1) = True := eq_true (by omega)
      cases h2 : r[2]? with
      | none =>
        have hl2 : r.length ≤ 2 := by simpa using h2
        have l3 : (3 < r.length + 1) = False := eq_false (by omega)
        simp only [dec, h0, h1, h2, con_none, con_some, Lib.decodeN, l1, l2, l3, Option.getD_some, Option.getD_none, true_and, false_and, and_false, if_false]
        by_cases c1 : b.toNat < 128
        · simp [c1]
        · by_cases c2 : b.toNat / 32 = 6
          · by_cases c3 : x.toNat / 64 = 2
            · by_cases c4 : 128 ≤ b.toNat % 32 * 64 + x.toNat % 64 <;> simp [c1, c2, c3, c4]
            · have c5 : ¬ b.toNat / 16 = 14 := by omega
              simp [c1, c2, c3, c5]
          · by_cases c5 : b.toNat / 16 = 14
            · by_cases c3 : x.toNat / 64 = 2
              · by_cases c4 : y.toNat / 64 = 2
                · simp only [c1, c2, c3, c4, c5, if_true, if_false, false_and, true_and, and_true, Option.bind_some, okc_iff]
                  split <;> simp_all <;> grind
                · simp [c1, c2, c3, c4, c5]
              · simp [c1, c2, c3, c5]
            · simp [c1, c2, c5]
              repeat' split
              all_goals simp
      | some z =>
        have hl2 : 2 < r.length := (List.getElem?_eq_some_iff.1 h2).1
        have hz := z.toNat_lt
        have l3 : (3 < r.length + 1) = True := eq_true (by omega)
        simp only [dec, h0, h1, h2, con_some, Lib.decodeN, l1, l2, l3, Option.getD_some, true_and]
        by_cases c1 : b.toNat < 128
        · simp [c1]
        · by_cases c2 : b.toNat / 32 = 6
          · have c5 : ¬ b.toNat / 16 = 14 := by omega
            have c6 : ¬ b.toNat / 8 = 30 := by omega
            by_cases c3 : x.toNat / 64 = 2
            · by_cases c4 : 128 ≤ b.toNat % 32 * 64 + x.toNat % 64 <;> simp [c1, c2, c3, c4]
            · simp [c1, c2, c3, c5, c6]
          · by_cases c5 : b.toNat / 16 = 14
            · have c6 : ¬ b.toNat / 8 = 30 := by omega
              by_cases c3 : x.toNat / 64 = 2
              · by_cases c4 : y.toNat / 64 = 2
                · simp only [c1, c2, c3, c4, c5, if_true, if_false, false_and, true_and, and_true, Option.bind_some, okc_iff]
                  split <;> simp_all <;> grind
                · simp [c1, c2, c3, c4, c5, c6]
              · simp [c1, c2, c3, c5, c6]
            · by_cases c6 : b.toNat / 8 = 30
              · by_cases c3 : x.toNat / 64 = 2
                · by_cases c4 : y.toNat / 64 = 2
                  · by_cases c7 : z.toNat / 64 = 2
                    · simp only [c1, c2, c3, c4, c5, c6, c7, if_true, if_false, false_and, true_and, and_true, Option.bind_some, okc_iff]
                      split <;> simp_all <;> grind
                    · simp [c1, c2, c3, c4, c5, c6, c7]
                  · simp [c1, c2, c3, c4, c5, c6]
                · simp [c1, c2, c3, c5, c6]
              · simp [c1, c2, c5, c6]


theorem dec_no_err {l : List UInt8} {n : Nat} (h : dec l = some (65533, n)) : n = 3 := by
  rw [(dec_spec h).2.1]; rfl

/-- the text l is the code points cs, and then t, which begins with none -/
structure Txt (l : List UInt8) (cs : List Nat) (t : List UInt8) : Prop where
  eq : l = cs.flatMap enc ++ t
  ok : ∀ c ∈ cs, okc c = true
  stop : dec t = none

theorem Txt.nil {t : List UInt8} (h : dec t = none) : Txt t [] t := ⟨rfl, fun c hc => absurd hc (List.not_mem_nil), h⟩

theorem Txt.cons {l : List UInt8} {c : Nat} {cs : List Nat} {t : List UInt8} (hc : okc c = true) (h : Txt l cs t) : Txt (enc c ++ l) (c :: cs) t :=
  ⟨by rw [h.eq]; simp, fun d hd => by
    cases hd with
    | head => exact hc
    | tail _ hd => exact h.ok d hd, h.stop⟩

theorem Txt.ex_aux : ∀ (n : Nat) (l : List UInt8), l.length ≤ n → ∃ cs t, Txt l cs t
  | 0, l, h => ⟨[], l, Txt.nil (by cases l with | nil => rfl | cons _ _ => simp at h)⟩
  | n + 1, l, h => by
    cases hd : dec l with
    | none => exact ⟨[], l, Txt.nil hd⟩
    | some p =>
      obtain ⟨c, k⟩ := p
      obtain ⟨h1, h2, h3⟩ := dec_spec hd
      have hk := dec_pos hd
      obtain ⟨cs, t, ht⟩ := Txt.ex_aux n (l.drop k) (by simp; omega)
      exact ⟨c :: cs, t, by rw [h3]; exact Txt.cons h1 ht⟩

/-- every text is one -/
theorem Txt.ex (l : List UInt8) : ∃ cs t, Txt l cs t := Txt.ex_aux l.length l (Nat.le_refl _)

theorem Txt.dec_nil {l t : List UInt8} (h : Txt l [] t) : dec l = none ∧ l = t := by
  have : l = t := by simpa using h.eq
  exact ⟨this ▸ h.stop, this⟩

theorem Txt.dec_cons {l : List UInt8} {c : Nat} {cs : List Nat} {t : List UInt8} (h : Txt l (c :: cs) t) : dec l = some (c, (enc c).length) ∧ okc c = true ∧ Txt (l.drop (enc c).length) cs t := by
  have hc := h.ok c (List.mem_cons_self ..)
  have e : l = enc c ++ (cs.flatMap enc ++ t) := by rw [h.eq]; simp
  refine ⟨by rw [e]; exact dec_enc hc _, hc, ?_⟩
  refine ⟨by rw [e]; simp, fun d hd => h.ok d (List.mem_cons_of_mem _ hd), h.stop⟩

/-- there is only one -/
theorem Txt.uniq {l : List UInt8} {cs cs' : List Nat} {t t' : List UInt8} (h : Txt l cs t) (h' : Txt l cs' t') : cs = cs' ∧ t = t' := by
  induction cs generalizing l cs' with
  | nil =>
    cases cs' with
    | nil => exact ⟨rfl, h.dec_nil.2 ▸ h'.dec_nil.2 ▸ rfl⟩
    | cons c cs' => have := h.dec_nil.1; rw [h'.dec_cons.1] at this; cases this
  | cons c cs ih =>
    cases cs' with
    | nil => have := h'.dec_nil.1; rw [h.dec_cons.1] at this; cases this
    | cons c' cs' =>
      have e := h.dec_cons.1.symm.trans h'.dec_cons.1
      simp only [Option.some.injEq, Prod.mk.injEq] at e
      obtain ⟨rfl, _⟩ := e
      obtain ⟨e1, e2⟩ := ih h.dec_cons.2.2 h'.dec_cons.2.2
      exact ⟨by rw [e1], e2⟩

theorem flat_len_le (cs : List Nat) : cs.length ≤ (cs.flatMap enc).length := by
  induction cs with
  | nil => simp
  | cons c cs ih => have := enc_pos c; simp only [List.flatMap_cons, List.length_append, List.length_cons]; omega

theorem Txt.len {l : List UInt8} {cs : List Nat} {t : List UInt8} (h : Txt l cs t) : l.length = (cs.flatMap enc).length + t.length := by rw [h.eq]; simp

theorem Txt.len_le {l : List UInt8} {cs : List Nat} {t : List UInt8} (h : Txt l cs t) : cs.length ≤ l.length := by
  have := h.len; have := flat_len_le cs; omega

/-- places -/
structure Pl where
  b : Nat
  g : Nat
  l : Nat
  c : Nat
deriving DecidableEq

def behind (p : Pl) (c : Nat) : Pl := ⟨p.b + (enc c).length, p.g + 1, if c = 10 then p.l + 1 else p.l, if c = 10 then 1 else p.c + 1⟩
def along (p : Pl) (cs : List Nat) : Pl := cs.foldl behind p
theorem along_nil (p : Pl) : along p [] = p := rfl
theorem along_cons (p : Pl) (c : Nat) (cs : List Nat) : along p (c :: cs) = along (behind p c) cs := rfl
theorem along_append (p : Pl) (a b : List Nat) : along p (a ++ b) = along (along p a) b := List.foldl_append ..

theorem along_b (p : Pl) (cs : List Nat) : (along p cs).b = p.b + (cs.flatMap enc).length := by
  induction cs generalizing p with
  | nil => rfl
  | cons c cs ih => rw [along_cons, ih]; simp [behind]; omega
theorem along_g (p : Pl) (cs : List Nat) : (along p cs).g = p.g + cs.length := by
  induction cs generalizing p with
  | nil => rfl
  | cons c cs ih => rw [along_cons, ih]; simp [behind]; omega
theorem along_l (p : Pl) (cs : List Nat) : p.l ≤ (along p cs).l ∧ (along p cs).l ≤ p.l + cs.length := by
  induction cs generalizing p with
  | nil => exact ⟨Nat.le_refl _, Nat.le_refl _⟩
  | cons c cs ih =>
    rw [along_cons]
    have := ih (behind p c)
    have e : (behind p c).l = if c = 10 then p.l + 1 else p.l := rfl
    simp only [List.length_cons]
    split at e <;> omega
theorem along_c (p : Pl) (cs : List Nat) : (along p cs).c ≤ p.c + cs.length + 1 := by
  induction cs generalizing p with
  | nil => show p.c ≤ _; omega
  | cons c cs ih =>
    rw [along_cons]
    have := ih (behind p c)
    have e : (behind p c).c = if c = 10 then 1 else p.c + 1 := rfl
    simp only [List.length_cons]
    split at e <;> omega

def start : Pl := ⟨0, 0, 1, 1⟩

/-- a place within a text of n bytes -/
def Pl.fits (p : Pl) (n : Nat) : Prop := p.b ≤ n ∧ p.g ≤ n ∧ p.l ≤ n + 1 ∧ p.c ≤ n + 2
theorem along_fits {l : List UInt8} {cs ds : List Nat} {t : List UInt8} (h : Txt l (cs ++ ds) t) : (along start cs).fits l.length := by
  have h1 := h.len
  have h2 := flat_len_le cs
  have hb := along_b start cs
  have hg := along_g start cs
  have hl := along_l start cs
  have hc := along_c start cs
  simp only [List.flatMap_append, List.length_append] at h1
  simp only [start] at hb hg hl hc ⊢
  exact ⟨by omega, by omega, by omega, by omega⟩

/-- how many runes -/
theorem runeCount_flat (cs : List Nat) (hok : ∀ c ∈ cs, okc c = true) (s : ByteArray) :
    ∀ (fuel pos : Nat), s.data.toList.drop pos = cs.flatMap enc → pos ≤ s.size → cs.length ≤ fuel → Lib.runeCountFrom s fuel pos = cs.length := by
  induction cs with
  | nil =>
    intro fuel pos h hp _
    have : s.size ≤ pos := by
      have := congrArg List.length h
      rw [Lib.size_eq]; simp only [List.length_drop, List.flatMap_nil, List.length_nil] at this; omega
    exact Lib.runeCountFrom_end s fuel pos (by omega)
  | cons c cs ih =>
    intro fuel pos h hp hf
    obtain ⟨fuel, rfl⟩ : ∃ m, fuel = m + 1 := ⟨fuel - 1, by simp at hf; omega⟩
    have hl := congrArg List.length h
    have hc := enc_pos c
    have hsz := Lib.size_eq s
    simp only [List.length_drop, List.flatMap_cons, List.length_append] at hl
    have hlt : pos < s.size := by omega
    have hd : Utf8.decode s pos = (c, (enc c).length) := by
      have h0 := Lib.decode_at s pos
      obtain ⟨b, r, hbr⟩ : ∃ b r, s.data.toList.drop pos = b :: r := by
        cases hq : s.data.toList.drop pos with
        | nil => rw [hq] at h; have := congrArg List.length h; simp at this; omega
        | cons b r => exact ⟨b, r, rfl⟩
      have h1 := decode_head ⟨(s.data.toList.drop pos).toArray⟩ b r (by simpa using hbr)
      have e : Utf8.decode ⟨(s.data.toList.drop pos).toArray⟩ 0 = Utf8.decode s pos := by
        rw [Lib.decode_at, Lib.decode_at]
        have hs2 : (⟨(s.data.toList.drop pos).toArray⟩ : ByteArray).size = s.size - pos := by rw [Lib.size_eq, Lib.size_eq]; simp
        have hg : ∀ i, (⟨(s.data.toList.drop pos).toArray⟩ : ByteArray).get! i = s.get! (pos + i) := fun i => by
          rw [get_bang, get_bang]; simp
        simp only [hs2, hg, Nat.zero_add, Nat.sub_zero, Nat.add_zero]
      rw [← e, h1, ← hbr, h, List.flatMap_cons, dec_enc (hok c (List.mem_cons_self ..))]
      rfl
    unfold Lib.runeCountFrom
    rw [if_pos hlt, hd]
    simp only
    rw [ih (fun d hd => hok d (List.mem_cons_of_mem _ hd)) fuel (pos + (enc c).length) ?_ (by omega) (by simp at hf; omega)]
    · simp; omega
    · rw [← List.drop_drop, h, List.flatMap_cons, List.drop_left]

theorem runeCount_of (s : ByteArray) (cs : List Nat) (hok : ∀ c ∈ cs, okc c = true) (h : s.data.toList = cs.flatMap enc) : Lib.runeCount s = cs.length := by
  have := flat_len_le cs
  have hl := congrArg List.length h
  exact runeCount_flat cs hok s s.size 0 (by simpa using h) (Nat.zero_le _) (by rw [Lib.size_eq]; omega)

end Go.Proofs.YtklhfbgmadblcaaDoor
