/- What an expression's, a statement's and a program's tokens are read as: plain definitions, no program. -/
import Derived.Test.YtlklijpjacmgpaaGreatDoorGa
namespace Go.Proofs.YtlklijpjacmgpaaGreatDoor
open Go
set_option linter.unusedVariables false
set_option linter.unusedSimpArgs false

/-- an expression -/
inductive Nd where
  | num (n : Nat)
  | name (v : Nat) (x : List UInt8)
  | minus (a : Nd)
  | two (op : Nat) (l r : Nd)

/-- what goes wrong: a code and a place -/
abbrev Er := Int × Pl

/-- the token that stands next -/
def hereT (r : List Tok) : Tok := r.headD ⟨0, [], start⟩
/-- behind it -/
def passT : List Tok → List Tok
  | x :: r => if x.kind = 0 then x :: r else r
  | [] => []
/-- does a sign or a word stand next? -/
def isT (x : List UInt8) (r : List Tok) : Bool := decide ((hereT r).text = x ∧ ((hereT r).kind = 3 ∨ (hereT r).kind = 1))

/-- a text's tokens: the end alone is of kind 0, and it is the last one -/
inductive Good : List Tok → Prop where
  | last (p : Pl) : Good [⟨0, [], p⟩]
  | cons {x : Tok} {r : List Tok} (h : x.kind ≠ 0) (hk : x.kind = 1 ∨ x.kind = 2 ∨ x.kind = 3) (hn : x.kind = 2 → ∃ v, v < 2 ^ 1024 ∧ x.text = decText v) (ht : x.text.length ≤ 1024 ∧ (x.kind = 1 → ∃ cs : List Nat, x.text = cs.flatMap enc ∧ ∀ c ∈ cs, okc c = true)) (g : Good r) : Good (x :: r)
theorem Good.ne {r : List Tok} (g : Good r) : r ≠ [] := by cases g <;> simp
theorem Good.pos {r : List Tok} (g : Good r) : 0 < r.length := by cases g <;> simp
theorem Good.pass {r : List Tok} (g : Good r) : Good (passT r) := by
  cases g with
  | last p => exact Good.last p
  | cons h hk hn ht g => simp only [passT, if_neg h]; exact g
theorem Good.pass_lt {r : List Tok} (g : Good r) (h : (hereT r).kind ≠ 0) : (passT r).length < r.length := by
  cases g with
  | last p => simp [hereT] at h
  | cons h' hk hn ht g => simp [passT, h']
theorem Good.pass_le {r : List Tok} (g : Good r) : (passT r).length ≤ r.length := by
  cases g with
  | last p => simp [passT]
  | cons h hk hn ht g => simp [passT, h]
theorem isT_kind {x : List UInt8} {r : List Tok} (h : isT x r = true) : (hereT r).kind ≠ 0 := by
  simp only [isT, decide_eq_true_eq] at h
  omega

def vars_ : List UInt8 := [118, 97, 114, 115]
def any_ : List UInt8 := [97, 110, 121]
def skip_ : List UInt8 := [115, 107, 105, 112]
def stop_ : List UInt8 := [115, 116, 111, 112]
def mark_ : List UInt8 := [109, 97, 114, 107]
def choose_ : List UInt8 := [99, 104, 111, 111, 115, 101]
def or_ : List UInt8 := [111, 114]
def loop_ : List UInt8 := [108, 111, 111, 112]
def if_ : List UInt8 := [105, 102]
def else_ : List UInt8 := [101, 108, 115, 101]
def while_ : List UInt8 := [119, 104, 105, 108, 101]
def words : List (List UInt8) := [vars_, any_, skip_, stop_, mark_, choose_, or_, loop_, if_, else_, while_]
/-- is it one of the language's words? -/
def wordS (x : List UInt8) : Bool := decide (x ∈ words)
/-- does a name stand next that is none of them? -/
def nameS (r : List Tok) : Bool := decide ((hereT r).kind = 1) && !wordS (hereT r).text
/-- a name's number -/
def varS (nm : List (List UInt8)) (x : List UInt8) : Option Nat := nm.findIdx? (· == x)
/-- a number token's value -/
def numS (x : List UInt8) : Nat := digVal (x.map UInt8.toNat)

/-! expressions: what is read, and the tokens behind it -/
mutual
def unS : Nat → List (List UInt8) → Nat → List Tok → Except Er (Nd × List Tok)
  | 0, _, _, _ => .error (0, start)
  | n + 1, nm, o, r =>
    if isT [45] r then
      match unS n nm o (passT r) with
      | .error e => .error e
      | .ok (a, r1) => .ok (.minus a, r1)
    else if (hereT r).kind = 2 then .ok (.num (numS (hereT r).text), passT r)
    else if nameS r then
      match varS nm (hereT r).text with
      | none => .error (81, (hereT r).at_)
      | some v => .ok (.name v (hereT r).text, passT r)
    else if ¬ ((hereT r).kind = 3 ∧ (hereT r).text = [40]) then .error (80, (hereT r).at_)
    else if 16 ≤ o then .error (83, (hereT r).at_)
    else
      match sumS n nm (o + 1) (passT r) with
      | .error e => .error e
      | .ok (a, r1) => if isT [41] r1 then .ok (a, passT r1) else .error (80, (hereT r1).at_)
def prodS : Nat → List (List UInt8) → Nat → List Tok → Except Er (Nd × List Tok)
  | 0, _, _, _ => .error (0, start)
  | n + 1, nm, o, r =>
    match unS n nm o r with
    | .error e => .error e
    | .ok (a, r1) => prodL n nm o a r1
def prodL : Nat → List (List UInt8) → Nat → Nd → List Tok → Except Er (Nd × List Tok)
  | 0, _, _, _, _ => .error (0, start)
  | n + 1, nm, o, a, r =>
    if isT [42] r then
      match unS n nm o (passT r) with
      | .error e => .error e
      | .ok (b, r1) => prodL n nm o (.two 42 a b) r1
    else if isT [47] r then
      match unS n nm o (passT r) with
      | .error e => .error e
      | .ok (b, r1) => prodL n nm o (.two 47 a b) r1
    else if isT [37] r then
      match unS n nm o (passT r) with
      | .error e => .error e
      | .ok (b, r1) => prodL n nm o (.two 37 a b) r1
    else .ok (a, r)
def sumS : Nat → List (List UInt8) → Nat → List Tok → Except Er (Nd × List Tok)
  | 0, _, _, _ => .error (0, start)
  | n + 1, nm, o, r =>
    match prodS n nm o r with
    | .error e => .error e
    | .ok (a, r1) => sumL n nm o a r1
def sumL : Nat → List (List UInt8) → Nat → Nd → List Tok → Except Er (Nd × List Tok)
  | 0, _, _, _, _ => .error (0, start)
  | n + 1, nm, o, a, r =>
    if isT [43] r then
      match prodS n nm o (passT r) with
      | .error e => .error e
      | .ok (b, r1) => sumL n nm o (.two 43 a b) r1
    else if isT [45] r then
      match prodS n nm o (passT r) with
      | .error e => .error e
      | .ok (b, r1) => sumL n nm o (.two 45 a b) r1
    else .ok (a, r)
end

/-! statements -/
mutual
inductive Sm where
  | set (p : Pl) (v : Nat) (x : List UInt8) (e : Option Nd)
  | skip (p : Pl)
  | stop (p : Pl)
  | mark (p : Pl) (x : List UInt8)
  | choose (p : Pl) (b : Bls)
  | loop (p : Pl) (b : Sms)
  | iff (p : Pl) (l r : Nd) (eq : Bool) (t : Sms) (e : Els)
  | whil (p : Pl) (l r : Nd) (eq : Bool) (b : Sms)
inductive Sms where
  | nil
  | cons (s : Sm) (r : Sms)
inductive Bls where
  | nil
  | cons (p : Pl) (b : Sms) (r : Bls)
inductive Els where
  | none
  | some (p : Pl) (b : Sms)
end
def Sms.snoc : Sms → Sm → Sms
  | .nil, s => .cons s .nil
  | .cons x r, s => .cons x (r.snoc s)
def Bls.snoc : Bls → Pl → Sms → Bls
  | .nil, p, s => .cons p s .nil
  | .cons q x r, p, s => .cons q x (r.snoc p s)

/-- a text's code points -/
noncomputable def cpsOf (l : List UInt8) : List Nat := (Txt.ex l).choose
/-- may a variable or a mark have this name? -/
noncomputable def shortS (x : List UInt8) : Bool := !(cpsOf x).contains 176 && decide ((cpsOf x).length < 16)
/-- a sign that must stand next -/
def mustS (x : List UInt8) (r : List Tok) : Except Er (List Tok) := if isT x r then .ok (passT r) else .error (80, (hereT r).at_)
/-- an opening sign -/
def intoS (x : List UInt8) (o : Nat) (r : List Tok) : Except Er (List Tok) :=
  if ¬ ((hereT r).kind = 3 ∧ (hereT r).text = x) then .error (80, (hereT r).at_)
  else if 16 ≤ o then .error (83, (hereT r).at_)
  else .ok (passT r)
def condS (n : Nat) (nm : List (List UInt8)) (o : Nat) (r : List Tok) : Except Er ((Nd × Nd × Bool) × List Tok) :=
  match sumS n nm o r with
  | .error e => .error e
  | .ok (a, r1) =>
    if isT [61] r1 then
      match sumS n nm o (passT r1) with
      | .error e => .error e
      | .ok (b, r2) => .ok ((a, b, true), r2)
    else
      match mustS [33, 61] r1 with
      | .error e => .error e
      | .ok r2 =>
        match sumS n nm o r2 with
        | .error e => .error e
        | .ok (b, r3) => .ok ((a, b, false), r3)
def assignS (n : Nat) (nm : List (List UInt8)) (o : Nat) (r : List Tok) : Except Er (Sm × List Tok) :=
  match varS nm (hereT r).text with
  | none => .error (81, (hereT r).at_)
  | some v =>
    match mustS [58, 61] (passT r) with
    | .error e => .error e
    | .ok r1 =>
      if isT any_ r1 then
        match mustS [59] (passT r1) with
        | .error e => .error e
        | .ok r2 => .ok (.set (hereT r).at_ v (hereT r).text none, r2)
      else
        match sumS n nm o r1 with
        | .error e => .error e
        | .ok (a, r2) =>
          match mustS [59] r2 with
          | .error e => .error e
          | .ok r3 => .ok (.set (hereT r).at_ v (hereT r).text (some a), r3)
noncomputable def markS (p : Pl) (mk : List (List UInt8)) (r : List Tok) : Except Er (Sm × List (List UInt8) × List Tok) :=
  if nameS r = false then .error (80, (hereT r).at_)
  else if shortS (hereT r).text = false then .error (42, (hereT r).at_)
  else if mk.contains (hereT r).text then .error (82, (hereT r).at_)
  else
    match mustS [59] (passT r) with
    | .error e => .error e
    | .ok r1 => .ok (.mark p (hereT r).text, (hereT r).text :: mk, r1)

/-- what is read, the marks, the tokens behind it -/
abbrev RS (α : Type) := Except Er (α × List (List UInt8) × List Tok)
mutual
noncomputable def rowS : Nat → List (List UInt8) → List (List UInt8) → Nat → List Tok → RS Sms
  | 0, _, _, _, _ => .error (0, start)
  | n + 1, nm, mk, o, r =>
    if (hereT r).kind ≠ 1 then .ok (.nil, mk, r)
    else
      match stmtS n nm mk o r with
      | .error e => .error e
      | .ok (none, mk1, r1) => .ok (.nil, mk1, r1)
      | .ok (some s, mk1, r1) =>
        match rowS n nm mk1 o r1 with
        | .error e => .error e
        | .ok (l, mk2, r2) => .ok (.cons s l, mk2, r2)
noncomputable def stmtS : Nat → List (List UInt8) → List (List UInt8) → Nat → List Tok → RS (Option Sm)
  | 0, _, _, _, _ => .error (0, start)
  | n + 1, nm, mk, o, r =>
    if nameS r then
      match assignS n nm o r with
      | .error e => .error e
      | .ok (s, r1) => .ok (some s, mk, r1)
    else if isT skip_ r then
      match mustS [59] (passT r) with
      | .error e => .error e
      | .ok r1 => .ok (some (.skip (hereT r).at_), mk, r1)
    else if isT stop_ r then
      match mustS [59] (passT r) with
      | .error e => .error e
      | .ok r1 => .ok (some (.stop (hereT r).at_), mk, r1)
    else if isT mark_ r then
      match markS (hereT r).at_ mk (passT r) with
      | .error e => .error e
      | .ok (s, mk1, r1) => .ok (some s, mk1, r1)
    else if isT choose_ r then
      match blockS n nm mk o (passT r) with
      | .error e => .error e
      | .ok (b, mk1, r1) =>
        match orS n nm mk1 o r1 with
        | .error e => .error e
        | .ok (bs, mk2, r2) => .ok (some (.choose (hereT r).at_ (.cons (hereT r).at_ b bs)), mk2, r2)
    else if isT loop_ r then
      match blockS n nm mk o (passT r) with
      | .error e => .error e
      | .ok (b, mk1, r1) => .ok (some (.loop (hereT r).at_ b), mk1, r1)
    else if isT if_ r then
      match condS n nm o (passT r) with
      | .error e => .error e
      | .ok (c, r1) =>
        match blockS n nm mk o r1 with
        | .error e => .error e
        | .ok (b, mk1, r2) =>
          if isT else_ r2 then
            match blockS n nm mk1 o (passT r2) with
            | .error e => .error e
            | .ok (b2, mk2, r3) => .ok (some (.iff (hereT r).at_ c.1 c.2.1 c.2.2 b (.some (hereT r2).at_ b2)), mk2, r3)
          else .ok (some (.iff (hereT r).at_ c.1 c.2.1 c.2.2 b .none), mk1, r2)
    else if isT while_ r then
      match condS n nm o (passT r) with
      | .error e => .error e
      | .ok (c, r1) =>
        match blockS n nm mk o r1 with
        | .error e => .error e
        | .ok (b, mk1, r2) => .ok (some (.whil (hereT r).at_ c.1 c.2.1 c.2.2 b), mk1, r2)
    else .ok (none, mk, r)
noncomputable def orS : Nat → List (List UInt8) → List (List UInt8) → Nat → List Tok → RS Bls
  | 0, _, _, _, _ => .error (0, start)
  | n + 1, nm, mk, o, r =>
    if isT or_ r then
      match blockS n nm mk o (passT r) with
      | .error e => .error e
      | .ok (b, mk1, r1) =>
        match orS n nm mk1 o r1 with
        | .error e => .error e
        | .ok (bs, mk2, r2) => .ok (.cons (hereT r).at_ b bs, mk2, r2)
    else .ok (.nil, mk, r)
noncomputable def blockS : Nat → List (List UInt8) → List (List UInt8) → Nat → List Tok → RS Sms
  | 0, _, _, _, _ => .error (0, start)
  | n + 1, nm, mk, o, r =>
    match intoS [123] o r with
    | .error e => .error e
    | .ok r1 =>
      match rowS n nm mk (o + 1) r1 with
      | .error e => .error e
      | .ok (l, mk1, r2) =>
        match mustS [125] r2 with
        | .error e => .error e
        | .ok r3 => .ok (l, mk1, r3)
end

/-! programs -/
/-- how a variable begins -/
structure Bg where
  name : List UInt8
  any : Bool
  neg : Bool
  mag : Nat
structure Pg where
  at_ : Pl
  begins : List Bg
  body : Sms
noncomputable def declareS (nm : List (List UInt8)) (r : List Tok) : Except Er (Bg × List Tok) :=
  if nameS r = false then .error (80, (hereT r).at_)
  else if shortS (hereT r).text = false then .error (42, (hereT r).at_)
  else if (varS nm (hereT r).text).isSome then .error (82, (hereT r).at_)
  else if 8 ≤ nm.length then .error (2, (hereT r).at_)
  else if isT [61] (passT r) then
    if isT [45] (passT (passT r)) then
      (if (hereT (passT (passT (passT r)))).kind = 2 then .ok (⟨(hereT r).text, false, decide (numS (hereT (passT (passT (passT r)))).text ≠ 0), numS (hereT (passT (passT (passT r)))).text⟩, passT (passT (passT (passT r))))
       else .error (80, (hereT (passT (passT (passT r)))).at_))
    else
      (if (hereT (passT (passT r))).kind = 2 then .ok (⟨(hereT r).text, false, false, numS (hereT (passT (passT r))).text⟩, passT (passT (passT r)))
       else .error (80, (hereT (passT (passT r))).at_))
  else .ok (⟨(hereT r).text, true, false, 0⟩, passT r)
/-- the declarations that are left; at the first one no comma stands ahead -/
noncomputable def declsS : Nat → List Bg → List Tok → Except Er (List Bg × List Tok)
  | 0, _, _ => .error (0, start)
  | n + 1, bs, r =>
    if isT [59] r then .ok (bs, passT r)
    else if bs = [] then
      match declareS [] r with
      | .error e => .error e
      | .ok (b, r1) => declsS n [b] r1
    else
      match mustS [44] r with
      | .error e => .error e
      | .ok r1 =>
        match declareS (bs.map Bg.name) r1 with
        | .error e => .error e
        | .ok (b, r2) => declsS n (bs ++ [b]) r2
noncomputable def progS (n : Nat) (r : List Tok) : Except Er Pg :=
  match mustS vars_ r with
  | .error e => .error e
  | .ok r1 =>
    match declsS n [] r1 with
    | .error e => .error e
    | .ok (bs, r2) =>
      match rowS n (bs.map Bg.name) [] 0 r2 with
      | .error e => .error e
      | .ok (l, _, r3) => if (hereT r3).kind = 0 then .ok ⟨(hereT r).at_, bs, l⟩ else .error (80, (hereT r3).at_)
end Go.Proofs.YtlklijpjacmgpaaGreatDoor
