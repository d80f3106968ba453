/- What a text's tokens are: plain definitions and lemmas, no program. -/
import Derived.Test.YtklhfbgmadblcaaDoorStr
import Derived.Test.YtklhfbgmadblcaaDoorNum
namespace Go.Proofs.YtklhfbgmadblcaaDoor
open Go
set_option linter.unusedVariables false
set_option linter.unusedSimpArgs false

def isBlank (c : Int) : Bool := decide (c = 9 ∨ c = 10 ∨ c = 13 ∨ c = 32 ∨ c = 160 ∨ c = 12288)
def isLetter (c : Int) : Bool := decide ((65 ≤ c ∧ c ≤ 90) ∨ (97 ≤ c ∧ c ≤ 122) ∨ (913 ≤ c ∧ c ≤ 929) ∨ (931 ≤ c ∧ c ≤ 937) ∨ (945 ≤ c ∧ c ≤ 969) ∨ (1040 ≤ c ∧ c ≤ 1103))
def isDigit (c : Int) : Bool := decide (48 ≤ c ∧ c ≤ 57)
def isMark (c : Int) : Bool := decide (c = 95 ∨ c = 176 ∨ c = 8242 ∨ (8320 ≤ c ∧ c ≤ 8329))
def isSign (c : Int) : Bool := decide (c = 43 ∨ c = 45 ∨ c = 42 ∨ c = 47 ∨ c = 37 ∨ c = 40 ∨ c = 41 ∨ c = 123 ∨ c = 125 ∨ c = 44 ∨ c = 59 ∨ c = 58 ∨ c = 61 ∨ c = 33 ∨ c = 63 ∨ c = 64 ∨ c = 183 ∨ c = 215 ∨ c = 247 ∨ c = 8722 ∨ c = 8788 ∨ c = 8800)
/-- the class of a code -/
def cls (c : Int) : Int := if isBlank c then 1 else if isLetter c then 2 else if isDigit c then 3 else if isMark c then 4 else if c = 35 then 6 else if isSign c then 5 else 0
def fold (c : Int) : Int := if c = 183 ∨ c = 215 then 42 else if c = 247 then 47 else if c = 8722 then 45 else c
theorem cls_range (c : Int) : 0 ≤ cls c ∧ cls c ≤ 6 := by
  unfold cls
  repeat' split
  all_goals omega

/-- behind blanks and comments -/
def skipC : Bool → List Nat → List Nat
  | _, [] => []
  | cm, c :: cs =>
    if c = 10 then skipC false cs
    else if cls c = 6 then skipC true cs
    else if cm then skipC true cs
    else if cls c = 1 then skipC false cs
    else c :: cs

theorem skipC_suffix : ∀ (cs : List Nat) (cm : Bool), ∃ mid, cs = mid ++ skipC cm cs
  | [], cm => ⟨[], by simp [skipC]⟩
  | c :: cs, cm => by
    simp only [skipC]
    repeat' split
    · obtain ⟨m, h⟩ := skipC_suffix cs false; exact ⟨c :: m, by simp [← h]⟩
    · obtain ⟨m, h⟩ := skipC_suffix cs true; exact ⟨c :: m, by simp [← h]⟩
    · obtain ⟨m, h⟩ := skipC_suffix cs true; exact ⟨c :: m, by simp [← h]⟩
    · obtain ⟨m, h⟩ := skipC_suffix cs false; exact ⟨c :: m, by simp [← h]⟩
    · exact ⟨[], rfl⟩
theorem skipC_le (cs : List Nat) (cm : Bool) : (skipC cm cs).length ≤ cs.length := by
  obtain ⟨m, h⟩ := skipC_suffix cs cm
  have := congrArg List.length h
  simp at this; omega
/-- what was passed -/
def skipped (cs : List Nat) : List Nat := cs.take (cs.length - (skipC false cs).length)
theorem skipped_append (cs : List Nat) : skipped cs ++ skipC false cs = cs := by
  obtain ⟨m, h⟩ := skipC_suffix cs false
  have hl := congrArg List.length h
  simp at hl
  have : skipped cs = m := by
    unfold skipped
    rw [show cs.length - (skipC false cs).length = m.length by omega]
    conv => lhs; rw [h]
    simp
  rw [this]; exact h.symm

def part (c : Nat) : Bool := decide (cls c = 2 ∨ cls c = 3 ∨ cls c = 4)
def digit (c : Nat) : Bool := decide (cls c = 3)

inductive TR where
  | bad (e : Int)
  | ok (kind : Int) (text : List UInt8) (n : Nat)

/-- the token that stands ahead -/
def tk : List Nat → TR
  | [] => .ok 0 [] 0
  | c :: r =>
    if cls c = 2 then
      (if 16 < ((c :: r).takeWhile part).length then .bad 42 else .ok 1 (((c :: r).takeWhile part).flatMap enc) ((c :: r).takeWhile part).length)
    else if cls c = 3 then
      (if 2 ^ 1024 ≤ digVal ((c :: r).takeWhile digit) then .bad 2 else .ok 2 (decText (digVal ((c :: r).takeWhile digit))) ((c :: r).takeWhile digit).length)
    else if cls c = 5 then
      (if c = 8788 then .ok 3 [58, 61] 1
       else if c = 8800 then .ok 3 [33, 61] 1
       else if c = 58 ∨ c = 33 then (if r.head? = some 61 then .ok 3 [UInt8.ofNat c, 61] 2 else .bad 41)
       else .ok 3 [UInt8.ofNat (fold c).toNat] 1)
    else .bad 41

structure Tok where
  kind : Int
  text : List UInt8
  at_ : Pl

inductive Res where
  | bad (e : Int) (p : Pl)
  | ok (l : List Tok)

def Res.cons (x : Tok) : Res → Res
  | .bad e p => .bad e p
  | .ok l => .ok (x :: l)
def Res.pre (l : List Tok) : Res → Res
  | .bad e p => .bad e p
  | .ok r => .ok (l ++ r)
theorem Res.pre_nil (r : Res) : Res.pre [] r = r := by cases r <;> rfl
theorem Res.pre_cons (l : List Tok) (x : Tok) (r : Res) : Res.pre l (Res.cons x r) = Res.pre (l ++ [x]) r := by
  cases r <;> simp [Res.pre, Res.cons]

/-- the tokens of what is left; 'brk': behind it stand bytes that are none -/
def scan (brk : Bool) : Nat → List Nat → List Nat → Res
  | 0, pre, cs => .bad 0 start
  | n + 1, pre, cs =>
    match skipC false cs with
    | [] => if brk then .bad 40 (along start (pre ++ cs)) else .ok [⟨0, [], along start (pre ++ cs)⟩]
    | c :: r =>
      match tk (c :: r) with
      | .bad e => .bad e (along start (pre ++ skipped cs))
      | .ok k x m => Res.cons ⟨k, x, along start (pre ++ skipped cs)⟩ (scan brk n (pre ++ skipped cs ++ (c :: r).take m) ((c :: r).drop m))

end Go.Proofs.YtklhfbgmadblcaaDoor
