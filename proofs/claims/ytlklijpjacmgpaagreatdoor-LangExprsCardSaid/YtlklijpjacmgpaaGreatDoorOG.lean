/- Texts that are put together are read as their tokens, put together; an expression's text; What is read of an expression fits what is written of it: names, numbers, brackets in one another; An expression's tokens are read as it; Statements: what fits them; their tokens; their text is read as these; Statements' tokens are read as these statements; What is read of statements fits what is written of them; LangBack's plain law: what is printed of a program that was read is read as the same program, but for places. -/
import Derived.Test.YtlklijpjacmgpaaGreatDoorNH
import Derived.Test.YtlklijpjacmgpaaGreatDoorNB
import Derived.Test.YtlklijpjacmgpaaGreatDoorLL
import Derived.Test.YtlklijpjacmgpaaGreatDoorNL
namespace Go.Proofs.YtlklijpjacmgpaaGreatDoor
open Go
set_option linter.unusedVariables false
set_option linter.unusedSimpArgs false

abbrev Kt := Int × List UInt8
/-- what the scanner answers from here on -/
def Outs (pre cs : List Nat) (o : Res) : Prop := ∀ n, cs.length < n → scan false n pre cs = o
def Ends (Z : List Nat) : Prop := ∀ z, Z.head? = some z → part z = false
/-- code points that are scanned as these tokens, whatever stands behind; all of them begin ahead of what stands behind -/
def RsC (C : List Nat) (l : List Kt) : Prop := ∀ pre Z o, Outs (pre ++ C) Z o → ∃ t : List Tok, t.map Tok.kt = l ∧ (∀ x ∈ t, x.at_.b < (along start (pre ++ C)).b) ∧ Outs pre (C ++ Z) (Res.pre t o)
/-- .. where no part of a name stands behind -/
def RdC (C : List Nat) (l : List Kt) : Prop := ∀ pre Z o, Ends Z → Outs (pre ++ C) Z o → ∃ t : List Tok, t.map Tok.kt = l ∧ (∀ x ∈ t, x.at_.b < (along start (pre ++ C)).b) ∧ Outs pre (C ++ Z) (Res.pre t o)
theorem pre_pre (a b : List Tok) (o : Res) : Res.pre a (Res.pre b o) = Res.pre (a ++ b) o := by cases o <;> simp [Res.pre]
theorem pre_one (x : Tok) (o : Res) : Res.pre [x] o = Res.cons x o := by cases o <;> rfl
theorem skipped_tok {c : Nat} (h : tokHead c) (r : List Nat) : skipped (c :: r) = [] := by
  unfold skipped
  rw [skipC_head h]
  simp
theorem skipC_len (cs : List Nat) : (skipC false cs).length ≤ cs.length := skipC_le cs false
theorem skipped_blank {b : Nat} (h : cls b = 1 ∨ b = 10) (Z : List Nat) : skipped (b :: Z) = b :: skipped Z := by
  have h1 : skipC false (b :: Z) = skipC false Z := skip_one h Z
  have h2 := skipC_len Z
  unfold skipped
  rw [h1, List.length_cons, show Z.length + 1 - (skipC false Z).length = (Z.length - (skipC false Z).length) + 1 by omega, List.take_succ_cons]
theorem outs_step {k : Int} {x : List UInt8} {pre X Z : List Nat} {o : Res} (hX : ∃ c r, X = c :: r ∧ tokHead c) (ht : tk (X ++ Z) = .ok k x X.length) (h : Outs (pre ++ X) Z o) : Outs pre (X ++ Z) (Res.cons ⟨k, x, along start pre⟩ o) := by
  intro n hn
  obtain ⟨c, r, rfl, hc⟩ := hX
  obtain ⟨n, rfl⟩ : ∃ j, n = j + 1 := ⟨n - 1, by omega⟩
  simp only [List.cons_append, List.length_cons, List.length_append] at hn
  have hs : skipC false (c :: (r ++ Z)) = c :: (r ++ Z) := skipC_head hc _
  have hk : skipped (c :: (r ++ Z)) = [] := skipped_tok hc _
  have ht' : tk (c :: (r ++ Z)) = .ok k x (c :: r).length := ht
  have h1 := h n (by omega)
  show scan false (n + 1) pre (c :: (r ++ Z)) = _
  simp only [scan, hs, ht', hk, List.append_nil]
  have e1 : (c :: (r ++ Z)).take (c :: r).length = c :: r := by show ((c :: r) ++ Z).take (c :: r).length = _; exact List.take_left
  have e2 : (c :: (r ++ Z)).drop (c :: r).length = Z := by show ((c :: r) ++ Z).drop (c :: r).length = _; exact List.drop_left
  rw [e1, e2, h1]
theorem outs_blank {b : Nat} (h : cls b = 1 ∨ b = 10) {pre Z : List Nat} {o : Res} (hr : Outs (pre ++ [b]) Z o) : Outs pre (b :: Z) o := by
  intro n hn
  simp only [List.length_cons] at hn
  have h1 := hr n (by omega)
  obtain ⟨n, rfl⟩ : ∃ j, n = j + 1 := ⟨n - 1, by omega⟩
  have e1 : skipC false (b :: Z) = skipC false Z := skip_one h Z
  have e2 := skipped_blank h Z
  rw [← h1]
  simp only [scan, e1, e2, List.append_assoc, List.singleton_append]
theorem outs_end (pre : List Nat) : Outs pre [] (.ok [⟨0, [], along start pre⟩]) := by
  intro n hn
  obtain ⟨n, rfl⟩ : ∃ j, n = j + 1 := ⟨n - 1, by simp at hn; omega⟩
  simp [scan, skipC]
theorem outs_bad {pre : List Nat} {c : Nat} {r : List Nat} {e : Int} (hc : tokHead c) (ht : tk (c :: r) = .bad e) : Outs pre (c :: r) (.bad e (along start pre)) := by
  intro n hn
  obtain ⟨n, rfl⟩ : ∃ j, n = j + 1 := ⟨n - 1, by omega⟩
  simp only [scan, skipC_head hc, ht, skipped_tok hc, List.append_nil]
theorem along_le (p : Pl) (C : List Nat) : p.b ≤ (along p C).b := by rw [along_b]; omega
theorem along_lt (pre : List Nat) {C : List Nat} (h : C ≠ []) : (along start pre).b < (along start (pre ++ C)).b := by
  have h1 := along_b (along start pre) C
  rw [along_append]
  cases C with
  | nil => exact absurd rfl h
  | cons c r =>
    have := enc_pos c
    simp only [List.flatMap_cons, List.length_append] at h1
    omega
theorem RsC.rd {C : List Nat} {l : List Kt} (h : RsC C l) : RdC C l := fun pre Z o _ hr => h pre Z o hr
theorem two_app {C D pre : List Nat} {l m : List Kt} {t1 t2 : List Tok} (h1 : t1.map Tok.kt = l) (g1 : ∀ x ∈ t1, x.at_.b < (along start (pre ++ C)).b) (h2 : t2.map Tok.kt = m) (g2 : ∀ x ∈ t2, x.at_.b < (along start (pre ++ C ++ D)).b) :
    (t1 ++ t2).map Tok.kt = l ++ m ∧ ∀ x ∈ t1 ++ t2, x.at_.b < (along start (pre ++ (C ++ D))).b := by
  refine ⟨by rw [List.map_append, h1, h2], fun x hx => ?_⟩
  rw [← List.append_assoc]
  rcases List.mem_append.1 hx with hx | hx
  · have := g1 x hx
    have h3 := along_le (along start (pre ++ C)) D
    rw [along_append start (pre ++ C) D]
    omega
  · exact g2 x hx
theorem RsC.app {C D : List Nat} {l m : List Kt} (h : RsC C l) (k : RsC D m) : RsC (C ++ D) (l ++ m) := fun pre Z o hr => by
  rw [← List.append_assoc] at hr
  obtain ⟨t2, h2, g2, o2⟩ := k _ _ _ hr
  obtain ⟨t1, h1, g1, o1⟩ := h _ _ _ o2
  obtain ⟨q1, q2⟩ := two_app h1 g1 h2 g2
  exact ⟨t1 ++ t2, q1, q2, by rw [List.append_assoc, ← pre_pre]; exact o1⟩
theorem RsC.appD {C D : List Nat} {l m : List Kt} (h : RsC C l) (k : RdC D m) : RdC (C ++ D) (l ++ m) := fun pre Z o he hr => by
  rw [← List.append_assoc] at hr
  obtain ⟨t2, h2, g2, o2⟩ := k _ _ _ he hr
  obtain ⟨t1, h1, g1, o1⟩ := h _ _ _ o2
  obtain ⟨q1, q2⟩ := two_app h1 g1 h2 g2
  exact ⟨t1 ++ t2, q1, q2, by rw [List.append_assoc, ← pre_pre]; exact o1⟩
theorem RdC.appS {C D : List Nat} {l m : List Kt} (h : RdC C l) (k : RsC D m) (hd : ∃ z r, D = z :: r ∧ part z = false) : RsC (C ++ D) (l ++ m) := fun pre Z o hr => by
  rw [← List.append_assoc] at hr
  obtain ⟨t2, h2, g2, o2⟩ := k _ _ _ hr
  have he : Ends (D ++ Z) := by
    obtain ⟨z, r, rfl, hz⟩ := hd
    intro y hy
    simp at hy
    subst hy
    exact hz
  obtain ⟨t1, h1, g1, o1⟩ := h _ _ _ he o2
  obtain ⟨q1, q2⟩ := two_app h1 g1 h2 g2
  exact ⟨t1 ++ t2, q1, q2, by rw [List.append_assoc, ← pre_pre]; exact o1⟩
theorem RsC.nil : RsC [] [] := fun pre Z o hr => ⟨[], rfl, by simp, by rw [List.append_nil] at hr; rw [Res.pre_nil]; exact hr⟩
theorem one_step {k : Int} {x : List UInt8} {pre X Z : List Nat} {o : Res} (hX : ∃ c r, X = c :: r ∧ tokHead c) (ht : tk (X ++ Z) = .ok k x X.length) (h : Outs (pre ++ X) Z o) : ∃ t : List Tok, t.map Tok.kt = [(k, x)] ∧ (∀ y ∈ t, y.at_.b < (along start (pre ++ X)).b) ∧ Outs pre (X ++ Z) (Res.pre t o) := by
  refine ⟨[⟨k, x, along start pre⟩], rfl, ?_, by rw [pre_one]; exact outs_step hX ht h⟩
  intro y hy
  simp only [List.mem_singleton] at hy
  subst hy
  obtain ⟨c, r, rfl, _⟩ := hX
  exact along_lt pre (by simp)
theorem rd_piece {k : Int} {x : List UInt8} {X : List Nat} (h : Piece k x X) : RdC X [(k, x)] := fun pre Z o he hr => one_step h.head (h.tk Z he) hr
theorem rs_blank {b : Nat} (h : cls b = 1 ∨ b = 10) : RsC [b] [] := fun pre Z o hr => ⟨[], rfl, by simp, by rw [Res.pre_nil]; exact outs_blank h hr⟩
theorem sign_tk {x : List UInt8} (h : x ∈ signTexts) (Z : List Nat) : tk (x.map UInt8.toNat ++ Z) = .ok 3 x (x.map UInt8.toNat).length := by
  have hone : ∀ c : Nat, cls c = 5 → c ≠ 8788 → c ≠ 8800 → ¬ (c = 58 ∨ c = 33) → tk (c :: Z) = .ok 3 [UInt8.ofNat (fold c).toNat] 1 := by
    intro c h5 h1 h2 h3
    simp only [tk]
    rw [if_neg (by omega), if_neg (by omega), if_pos h5, if_neg h1, if_neg h2, if_neg h3]
  have htwo : ∀ c : Nat, c = 58 ∨ c = 33 → tk (c :: 61 :: Z) = .ok 3 [UInt8.ofNat c, 61] 2 := by
    intro c h
    have h5 : cls c = 5 := by rcases h with rfl | rfl <;> decide
    simp only [tk]
    rw [if_neg (by omega), if_neg (by omega), if_pos h5, if_neg (by omega), if_neg (by omega), if_pos h]
    simp
  simp only [signTexts, List.mem_cons, List.not_mem_nil, or_false] at h
  rcases h with rfl | rfl | rfl | rfl | rfl | rfl | rfl | rfl | rfl | rfl | rfl | rfl | rfl | rfl | rfl | rfl
  · exact hone 43 (by decide) (by decide) (by decide) (by decide)
  · exact hone 45 (by decide) (by decide) (by decide) (by decide)
  · exact hone 42 (by decide) (by decide) (by decide) (by decide)
  · exact hone 47 (by decide) (by decide) (by decide) (by decide)
  · exact hone 37 (by decide) (by decide) (by decide) (by decide)
  · exact hone 40 (by decide) (by decide) (by decide) (by decide)
  · exact hone 41 (by decide) (by decide) (by decide) (by decide)
  · exact hone 123 (by decide) (by decide) (by decide) (by decide)
  · exact hone 125 (by decide) (by decide) (by decide) (by decide)
  · exact hone 44 (by decide) (by decide) (by decide) (by decide)
  · exact hone 59 (by decide) (by decide) (by decide) (by decide)
  · exact hone 61 (by decide) (by decide) (by decide) (by decide)
  · exact hone 63 (by decide) (by decide) (by decide) (by decide)
  · exact hone 64 (by decide) (by decide) (by decide) (by decide)
  · exact htwo 58 (Or.inl rfl)
  · exact htwo 33 (Or.inr rfl)
theorem rs_sign {x : List UInt8} (h : x ∈ signTexts) : RsC (x.map UInt8.toNat) [(3, x)] := fun pre Z o hr => one_step (piece_sign h).1.head (sign_tk h Z) hr

/-! texts -/
/-- read as these tokens, whatever stands behind -/
def TxS (s : List UInt8) (l : List Kt) : Prop := ∃ C : List Nat, C.flatMap enc = s ∧ (∀ c ∈ C, okc c = true) ∧ RsC C l
/-- .. where no part of a name stands behind -/
def TxW (s : List UInt8) (l : List Kt) : Prop := ∃ C : List Nat, C.flatMap enc = s ∧ (∀ c ∈ C, okc c = true) ∧ RdC C l
/-- .. and no name's part begins it -/
def TxH (s : List UInt8) (l : List Kt) : Prop := ∃ C : List Nat, C.flatMap enc = s ∧ (∀ c ∈ C, okc c = true) ∧ RsC C l ∧ ∃ z r, C = z :: r ∧ part z = false
theorem okc_app {C D : List Nat} (h : ∀ c ∈ C, okc c = true) (k : ∀ c ∈ D, okc c = true) : ∀ c ∈ C ++ D, okc c = true := fun c hc => by
  rcases List.mem_append.1 hc with hc | hc
  · exact h c hc
  · exact k c hc
theorem TxS.nil : TxS [] [] := ⟨[], rfl, by simp, RsC.nil⟩
theorem TxS.w {s : List UInt8} {l : List Kt} : TxS s l → TxW s l := fun ⟨C, h1, h2, h3⟩ => ⟨C, h1, h2, h3.rd⟩
theorem TxH.s {s : List UInt8} {l : List Kt} : TxH s l → TxS s l := fun ⟨C, h1, h2, h3, _⟩ => ⟨C, h1, h2, h3⟩
theorem TxS.app {s t : List UInt8} {l m : List Kt} : TxS s l → TxS t m → TxS (s ++ t) (l ++ m) := fun ⟨C, h1, h2, h3⟩ ⟨D, k1, k2, k3⟩ => ⟨C ++ D, by rw [List.flatMap_append, h1, k1], okc_app h2 k2, h3.app k3⟩
theorem TxS.appW {s t : List UInt8} {l m : List Kt} : TxS s l → TxW t m → TxW (s ++ t) (l ++ m) := fun ⟨C, h1, h2, h3⟩ ⟨D, k1, k2, k3⟩ => ⟨C ++ D, by rw [List.flatMap_append, h1, k1], okc_app h2 k2, h3.appD k3⟩
theorem TxW.appH {s t : List UInt8} {l m : List Kt} : TxW s l → TxH t m → TxS (s ++ t) (l ++ m) := fun ⟨C, h1, h2, h3⟩ ⟨D, k1, k2, k3, k4⟩ => ⟨C ++ D, by rw [List.flatMap_append, h1, k1], okc_app h2 k2, h3.appS k3 k4⟩
theorem TxH.app {s t : List UInt8} {l m : List Kt} : TxH s l → TxS t m → TxH (s ++ t) (l ++ m) := fun ⟨C, h1, h2, h3, z, r, h4, h5⟩ ⟨D, k1, k2, k3⟩ => ⟨C ++ D, by rw [List.flatMap_append, h1, k1], okc_app h2 k2, h3.app k3, z, r ++ D, by rw [h4]; rfl, h5⟩
theorem tx_sign {x : List UInt8} (h : x ∈ signTexts) : TxH x [(3, x)] := by
  have hp := piece_sign h
  refine ⟨x.map UInt8.toNat, hp.2, hp.1.ok, rs_sign h, ?_⟩
  simp only [signTexts, List.mem_cons, List.not_mem_nil, or_false] at h
  rcases h with rfl | rfl | rfl | rfl | rfl | rfl | rfl | rfl | rfl | rfl | rfl | rfl | rfl | rfl | rfl | rfl
  all_goals exact ⟨_, _, rfl, by decide⟩
theorem tx_sp : TxH [32] [] := ⟨[32], by decide, by decide, rs_blank (Or.inl (by decide)), 32, [], rfl, by decide⟩
theorem tx_nl : TxH [10] [] := ⟨[10], by decide, by decide, rs_blank (Or.inr rfl), 10, [], rfl, by decide⟩
theorem tx_sps : ∀ n, TxS (List.replicate n 32) []
  | 0 => TxS.nil
  | n + 1 => by rw [List.replicate_succ]; exact (tx_sp.app (tx_sps n)).s
/-- a name that the scanner reads as one -/
def NmT (x : List UInt8) : Prop := ∃ X, Piece 1 x X ∧ X.flatMap enc = x
theorem tx_name {x : List UInt8} (h : NmT x) : TxW x [(1, x)] := by
  obtain ⟨X, h1, h2⟩ := h
  exact ⟨X, h2, h1.ok, rd_piece h1⟩
theorem tx_num {n : Nat} (h : n < 2 ^ 1024) : TxW (decText n) [(2, decText n)] :=
  ⟨_, flat_asc _ (fun b hb => by have := decText_codes n b hb; omega), (piece_dec h).ok, rd_piece (piece_dec h)⟩
theorem outs_scan {s : List UInt8} {C : List Nat} {o : Res} (h1 : C.flatMap enc = s) (h2 : ∀ c ∈ C, okc c = true) (hl : s.length ≤ 4096) (h : Outs [] C o) : scanS s = o := by
  have T : Txt s C [] := ⟨by simp [h1], h2, rfl⟩
  rw [scanS_eq T hl]
  exact h _ (Nat.lt_succ_self _)
theorem tx_scan {s : List UInt8} {l : List Kt} (h : TxS s l) (hl : s.length ≤ 4096) : ∃ toks, scanS s = .ok toks ∧ toks.map Tok.kt = l ++ [(0, [])] := by
  obtain ⟨C, h1, h2, h3⟩ := h
  obtain ⟨t, h4, _, h5⟩ := h3 [] [] _ (outs_end _)
  rw [List.append_nil] at h5
  refine ⟨_, outs_scan h1 h2 hl h5, ?_⟩
  rw [List.map_append, h4]
  rfl
/-- the words of the language are names -/
theorem nmT_word {x : List UInt8} (h : x ∈ words) : NmT x := by
  have key : ∀ (c : Nat) (r : List Nat) (x : List UInt8) (m : Nat), cls c = 2 → tk (c :: r) = .ok 1 x m → (∀ d ∈ c :: r, okc d = true) → ((c :: r).take m).flatMap enc = x → NmT x :=
    fun c r x m h2 ht hok he => ⟨_, piece_name ht h2 hok, he⟩
  simp only [words, List.mem_cons, List.not_mem_nil, or_false] at h
  rcases h with rfl | rfl | rfl | rfl | rfl | rfl | rfl | rfl | rfl | rfl | rfl
  · exact key 118 [97, 114, 115] _ 4 (by decide) (by rw [tk2 (by decide)]; rfl) (by decide) (by decide)
  · exact key 97 [110, 121] _ 3 (by decide) (by rw [tk2 (by decide)]; rfl) (by decide) (by decide)
  · exact key 115 [107, 105, 112] _ 4 (by decide) (by rw [tk2 (by decide)]; rfl) (by decide) (by decide)
  · exact key 115 [116, 111, 112] _ 4 (by decide) (by rw [tk2 (by decide)]; rfl) (by decide) (by decide)
  · exact key 109 [97, 114, 107] _ 4 (by decide) (by rw [tk2 (by decide)]; rfl) (by decide) (by decide)
  · exact key 99 [104, 111, 111, 115, 101] _ 6 (by decide) (by rw [tk2 (by decide)]; rfl) (by decide) (by decide)
  · exact key 111 [114] _ 2 (by decide) (by rw [tk2 (by decide)]; rfl) (by decide) (by decide)
  · exact key 108 [111, 111, 112] _ 4 (by decide) (by rw [tk2 (by decide)]; rfl) (by decide) (by decide)
  · exact key 105 [102] _ 2 (by decide) (by rw [tk2 (by decide)]; rfl) (by decide) (by decide)
  · exact key 101 [108, 115, 101] _ 4 (by decide) (by rw [tk2 (by decide)]; rfl) (by decide) (by decide)
  · exact key 119 [104, 105, 108, 101] _ 5 (by decide) (by rw [tk2 (by decide)]; rfl) (by decide) (by decide)
theorem tx_word {x : List UInt8} (h : x ∈ words) : TxW x [(1, x)] := tx_name (nmT_word h)

/-! expressions -/
def brT (b : Bool) (l : List Kt) : List Kt := if b then (3, [40]) :: (l ++ [(3, [41])]) else l
def tokE : Nd → List Kt
  | .num n => [(2, decText n)]
  | .name _ x => [(1, x)]
  | .minus a => (3, [45]) :: brT (!singleB a) (tokE a)
  | .two op l r => brT (!sumB op && addsB l) (tokE l) ++ [(3, [UInt8.ofNat op])] ++ brT (sumB op && addsB r || !sumB op && !singleB r) (tokE r)
/-- an expression over these variables -/
def ExOk (nm : List (List UInt8)) : Nd → Prop
  | .num n => n < 2 ^ 1024
  | .name v x => NmT x ∧ wordS x = false ∧ varS nm x = some v
  | .minus a => ExOk nm a
  | .two op l r => (op = 43 ∨ op = 45 ∨ op = 42 ∨ op = 47 ∨ op = 37) ∧ ExOk nm l ∧ ExOk nm r
theorem tx_br {s : List UInt8} {l : List Kt} (h : TxW s l) (b : Bool) : TxW (brS b s) (brT b l) := by
  cases b with
  | false => exact h
  | true =>
    have h1 := ((tx_sign (x := [40]) (by decide)).s.appW h).appH (tx_sign (x := [41]) (by decide))
    simpa [brS, brT] using h1.w
theorem op_sign {op : Nat} (h : op = 43 ∨ op = 45 ∨ op = 42 ∨ op = 47 ∨ op = 37) : [UInt8.ofNat op] ∈ signTexts := by
  rcases h with rfl | rfl | rfl | rfl | rfl <;> decide
theorem tx_ex {nm : List (List UInt8)} : ∀ a : Nd, ExOk nm a → TxW (wrS a) (tokE a)
  | .num n, h => tx_num h
  | .name v x, h => tx_name h.1
  | .minus a, h => by
    have h1 := (tx_sign (x := [45]) (by decide)).s.appW (tx_br (tx_ex a h) (!singleB a))
    exact h1
  | .two op l r, h => by
    obtain ⟨hop, hl, hr⟩ := h
    have h1 := tx_br (tx_ex l hl) (!sumB op && addsB l)
    have h2 := tx_br (tx_ex r hr) (sumB op && addsB r || !sumB op && !singleB r)
    have h3 := ((tx_sp.app (tx_sign (op_sign hop)).s).app tx_sp.s)
    have h4 := (h1.appH h3).appW h2
    simpa [wrS, tokE] using h4
end Go.Proofs.YtlklijpjacmgpaaGreatDoor

namespace Go.Proofs.YtlklijpjacmgpaaGreatDoor
open Go
set_option linter.unusedVariables false
set_option linter.unusedSimpArgs false
set_option exponentiation.threshold 5000

/-- the tokens' names are names -/
def GN (r : List Tok) : Prop := ∀ t ∈ r, t.kind = 1 → NmT t.text
theorem GN.pass {r : List Tok} (h : GN r) : GN (passT r) := by
  cases r with
  | nil => exact h
  | cons x r =>
    by_cases hk : x.kind = 0
    · simpa [passT, hk] using h
    · simp only [passT, if_neg hk]
      exact fun t ht => h t (List.mem_cons_of_mem _ ht)
theorem GN.here {r : List Tok} (h : GN r) (hk : (hereT r).kind = 1) : NmT (hereT r).text := by
  cases r with
  | nil => simp [hereT] at hk
  | cons x r => exact h x (List.mem_cons_self ..) hk
theorem sc_names {pre cs : List Nat} {l : List Tok} (h : SC pre cs l) : (∀ c ∈ cs, okc c = true) → GN l := by
  induction h with
  | done h => intro _ t ht hk; simp at ht; subst ht; simp at hk
  | @step pre cs c r k x m l h ht hl ih =>
    intro hok t hm hk
    have hok2 := drop_ok hok h
    rcases List.mem_cons.1 hm with rfl | hm
    · simp only at hk
      subst hk
      exact tk_again ht hok2
    · exact ih (fun d hd => hok2 d (List.mem_of_mem_drop hd)) t hm hk
theorem scan_names {s : List UInt8} {toks : List Tok} (h : scanS s = .ok toks) : GN toks := sc_names (scanS_ok h).2.2 (txt_of s).ok
theorem nm_ne {x : List UInt8} (h : NmT x) {b : UInt8} {t : List UInt8} (hb : b.toNat < 128) (hc : cls b.toNat ≠ 2) : x ≠ b :: t := by
  rintro rfl
  obtain ⟨X, hp, he⟩ := h
  obtain ⟨c, r, rfl, _⟩ := hp.head
  have ht := hp.tk [] (by simp)
  rw [List.append_nil] at ht
  rcases tk_kind ht with ⟨_, _, h2⟩ | ⟨h, _⟩ | ⟨h, _⟩
  · have h1 := dec_enc (hp.ok c (by simp)) (r.flatMap enc)
    rw [List.flatMap_cons] at he
    rw [he, dec_one hb] at h1
    simp only [Option.some.injEq, Prod.mk.injEq] at h1
    rw [h1.1] at hc
    exact hc h2
  · cases h
  · cases h
/-- how many brackets stand in one another -/
def dE : Nd → Nat
  | .num _ => 0
  | .name _ _ => 0
  | .minus a => dE a + (if singleB a then 0 else 1)
  | .two op l r => max (dE l + (if !sumB op && addsB l then 1 else 0)) (dE r + (if sumB op && addsB r || !sumB op && !singleB r then 1 else 0))
theorem dE_left {op : Nat} {l r : Nd} {o : Nat} (h1 : dE l + (if !sumB op && addsB l then 1 else 0) + o ≤ 16) (h2 : dE r + (if sumB op && addsB r || !sumB op && !singleB r then 1 else 0) + o ≤ 16) : dE (.two op l r) + o ≤ 16 := by
  simp only [dE]
  omega
structure ExBk (n : Nat) (nm : List (List UInt8)) : Prop where
  un : ∀ {o r a r1}, o ≤ 16 → Good r → GN r → unS n nm o r = .ok (a, r1) → (ExOk nm a ∧ dE a + (if singleB a then 0 else 1) + o ≤ 16) ∧ GN r1
  pr : ∀ {o r a r1}, o ≤ 16 → Good r → GN r → prodS n nm o r = .ok (a, r1) → (ExOk nm a ∧ dE a + (if addsB a then 1 else 0) + o ≤ 16) ∧ GN r1
  pl : ∀ {o a0 r a r1}, o ≤ 16 → Good r → GN r → ExOk nm a0 ∧ dE a0 + (if addsB a0 then 1 else 0) + o ≤ 16 → prodL n nm o a0 r = .ok (a, r1) → (ExOk nm a ∧ dE a + (if addsB a then 1 else 0) + o ≤ 16) ∧ GN r1
  su : ∀ {o r a r1}, o ≤ 16 → Good r → GN r → sumS n nm o r = .ok (a, r1) → (ExOk nm a ∧ dE a + o ≤ 16) ∧ GN r1
  sl : ∀ {o a0 r a r1}, o ≤ 16 → Good r → GN r → ExOk nm a0 ∧ dE a0 + o ≤ 16 → sumL n nm o a0 r = .ok (a, r1) → (ExOk nm a ∧ dE a + o ≤ 16) ∧ GN r1
theorem adds_single {a : Nd} : (if addsB a then 1 else 0) ≤ (if singleB a then 0 else 1 : Nat) := by
  cases a with
  | two op l r => show (if sumB op then 1 else 0) ≤ 1; cases sumB op <;> simp
  | _ => simp [addsB, singleB]
theorem two_sum {op : Nat} (h : op = 43 ∨ op = 45) (l r : Nd) : (if !sumB op && addsB l then 1 else 0) = (0 : Nat) ∧ (if sumB op && addsB r || !sumB op && !singleB r then 1 else 0) = (if addsB r then 1 else 0 : Nat) ∧ addsB (.two op l r) = true := by
  have s : sumB op = true := by rcases h with rfl | rfl <;> rfl
  refine ⟨by rw [s]; rfl, by rw [s]; cases addsB r <;> rfl, s⟩
theorem two_prod {op : Nat} (h : op = 42 ∨ op = 47 ∨ op = 37) (l r : Nd) : (if !sumB op && addsB l then 1 else 0) = (if addsB l then 1 else 0 : Nat) ∧ (if sumB op && addsB r || !sumB op && !singleB r then 1 else 0) = (if singleB r then 0 else 1 : Nat) ∧ addsB (.two op l r) = false := by
  have s : sumB op = false := by rcases h with rfl | rfl | rfl <;> rfl
  refine ⟨by rw [s]; cases addsB l <;> rfl, by rw [s]; cases singleB r <;> cases addsB r <;> rfl, s⟩
theorem ex_bk (nm : List (List UInt8)) : ∀ n, ExBk n nm
  | 0 => ⟨fun _ _ _ h => by simp [unS] at h, fun _ _ _ h => by simp [prodS] at h, fun _ _ _ _ h => by simp [prodL] at h, fun _ _ _ h => by simp [sumS] at h, fun _ _ _ _ h => by simp [sumL] at h⟩
  | n + 1 => by
    have ih := ex_bk nm n
    have il := ex_len nm n
    refine ⟨?_, ?_, ?_, ?_, ?_⟩
    · intro o r a r1 ho g gn h
      simp only [unS] at h
      split at h
      · split at h
        · cases h
        · rename_i a' r' hu
          cases h
          have q := ih.un ho g.pass gn.pass hu
          refine ⟨⟨q.1.1, ?_⟩, q.2⟩
          exact q.1.2
      · split at h
        · rename_i hk
          cases h
          obtain ⟨v, hv, e⟩ := here_num g hk
          have e2 : numS (hereT r).text = v := by rw [e]; exact digVal_decText v
          refine ⟨⟨?_, by simp [dE, singleB]; omega⟩, gn.pass⟩
          show numS (hereT r).text < 2 ^ 1024
          rw [e2]
          exact hv
        · split at h
          · rename_i hn
            have hk := nameS_kind hn
            split at h
            · cases h
            · rename_i v hv
              cases h
              refine ⟨⟨⟨gn.here hk, ?_, hv⟩, by simp [dE, singleB]; omega⟩, gn.pass⟩
              simp only [nameS, Bool.and_eq_true, Bool.not_eq_true'] at hn
              exact hn.2
          · split at h
            · cases h
            · split at h
              · cases h
              · rename_i hlt
                split at h
                · cases h
                · rename_i a' r' hs
                  have q := ih.su (o := o + 1) (by omega) g.pass gn.pass hs
                  split at h
                  · cases h
                    refine ⟨⟨q.1.1, ?_⟩, q.2.pass⟩
                    have := q.1.2
                    split <;> omega
                  · cases h
    · intro o r a r1 ho g gn h
      simp only [prodS] at h
      split at h
      · cases h
      · rename_i a' r' hu
        have h1 := il.un g hu
        have q := ih.un ho g gn hu
        have := @adds_single a'
        exact ih.pl ho h1.1 q.2 ⟨q.1.1, by have := q.1.2; omega⟩ h
    · intro o a0 r a r1 ho g gn h0 h
      have key : ∀ {op : Nat}, (op = 42 ∨ op = 47 ∨ op = 37) → ∀ {b r'}, unS n nm o (passT r) = .ok (b, r') → prodL n nm o (.two op a0 b) r' = .ok (a, r1) → (ExOk nm a ∧ dE a + (if addsB a then 1 else 0) + o ≤ 16) ∧ GN r1 := by
        intro op hop b r' hu h
        have h1 := il.un g.pass hu
        have q := ih.un ho g.pass gn.pass hu
        obtain ⟨t1, t2, t3⟩ := two_prod hop a0 b
        refine ih.pl (a0 := .two op a0 b) ho h1.1 q.2 ⟨⟨by omega, h0.1, q.1.1⟩, ?_⟩ h
        rw [t3]
        have := dE_left (op := op) (l := a0) (r := b) (o := o) (by rw [t1]; exact h0.2) (by rw [t2]; exact q.1.2)
        simpa using this
      simp only [prodL] at h
      split at h
      · split at h
        · cases h
        · rename_i b r' hu
          exact key (by omega) hu h
      · split at h
        · split at h
          · cases h
          · rename_i b r' hu
            exact key (by omega) hu h
        · split at h
          · split at h
            · cases h
            · rename_i b r' hu
              exact key (by omega) hu h
          · cases h
            exact ⟨h0, gn⟩
    · intro o r a r1 ho g gn h
      simp only [sumS] at h
      split at h
      · cases h
      · rename_i a' r' hu
        have h1 := il.pr g hu
        have q := ih.pr ho g gn hu
        exact ih.sl ho h1.1 q.2 ⟨q.1.1, by have := q.1.2; omega⟩ h
    · intro o a0 r a r1 ho g gn h0 h
      have key : ∀ {op : Nat}, (op = 43 ∨ op = 45) → ∀ {b r'}, prodS n nm o (passT r) = .ok (b, r') → sumL n nm o (.two op a0 b) r' = .ok (a, r1) → (ExOk nm a ∧ dE a + o ≤ 16) ∧ GN r1 := by
        intro op hop b r' hu h
        have h1 := il.pr g.pass hu
        have q := ih.pr ho g.pass gn.pass hu
        obtain ⟨t1, t2, t3⟩ := two_sum hop a0 b
        exact ih.sl (a0 := .two op a0 b) ho h1.1 q.2 ⟨⟨by omega, h0.1, q.1.1⟩, dE_left (by rw [t1]; exact h0.2) (by rw [t2]; exact q.1.2)⟩ h
      simp only [sumL] at h
      split at h
      · split at h
        · cases h
        · rename_i b r' hu
          exact key (by omega) hu h
      · split at h
        · split at h
          · cases h
          · rename_i b r' hu
            exact key (by omega) hu h
        · cases h
          exact ⟨h0, gn⟩
end Go.Proofs.YtlklijpjacmgpaaGreatDoor

namespace Go.Proofs.YtlklijpjacmgpaaGreatDoor
open Go
set_option linter.unusedVariables false
set_option linter.unusedSimpArgs false
set_option exponentiation.threshold 5000

def mkT (p : Kt) : Tok := ⟨p.1, p.2, start⟩
def kT (l : List Kt) : List Tok := l.map mkT
theorem kT_app (a b : List Kt) : kT (a ++ b) = kT a ++ kT b := by simp [kT]
theorem kT_cons (a : Kt) (b : List Kt) : kT (a :: b) = mkT a :: kT b := rfl
theorem kT_nil : kT [] = [] := rfl
theorem here_mk (a : Kt) (r : List Tok) : hereT (mkT a :: r) = mkT a := rfl
theorem pass_mk {a : Kt} (h : a.1 ≠ 0) (r : List Tok) : passT (mkT a :: r) = r := if_neg h
theorem isT_mk (x : List UInt8) (a : Kt) (r : List Tok) : isT x (mkT a :: r) = decide (a.2 = x ∧ (a.1 = 3 ∨ a.1 = 1)) := rfl
theorem isT_sign {x y : List UInt8} (r : List Tok) : isT x (mkT (3, y) :: r) = decide (y = x) := by
  rw [isT_mk]
  simp
def noMul (r : List Tok) : Prop := isT [42] r = false ∧ isT [47] r = false ∧ isT [37] r = false
def noAdd (r : List Tok) : Prop := isT [43] r = false ∧ isT [45] r = false
theorem pl_end {n : Nat} {nm : List (List UInt8)} {o : Nat} {a : Nd} {r : List Tok} (h : noMul r) (hn : 0 < n) : prodL n nm o a r = .ok (a, r) := by
  obtain ⟨n, rfl⟩ : ∃ k, n = k + 1 := ⟨n - 1, by omega⟩
  simp only [prodL, h.1, h.2.1, h.2.2, Bool.false_eq_true, if_false]
theorem sl_end {n : Nat} {nm : List (List UInt8)} {o : Nat} {a : Nd} {r : List Tok} (h : noAdd r) (hn : 0 < n) : sumL n nm o a r = .ok (a, r) := by
  obtain ⟨n, rfl⟩ : ∃ k, n = k + 1 := ⟨n - 1, by omega⟩
  simp only [sumL, h.1, h.2, Bool.false_eq_true, if_false]
structure ExRd (nm : List (List UInt8)) (a : Nd) : Prop where
  un : ∀ o n rest, dE a + (if singleB a then 0 else 1) + o ≤ 16 → 4 * (brT (!singleB a) (tokE a)).length + 1 ≤ n → unS n nm o (kT (brT (!singleB a) (tokE a)) ++ rest) = .ok (a, rest)
  pr : ∀ o n rest, dE a + (if addsB a then 1 else 0) + o ≤ 16 → 4 * (brT (addsB a) (tokE a)).length + 2 ≤ n → ∃ m, n ≤ m + 4 * (brT (addsB a) (tokE a)).length ∧ prodS n nm o (kT (brT (addsB a) (tokE a)) ++ rest) = prodL m nm o a rest
  su : ∀ o n rest, dE a + o ≤ 16 → 4 * (tokE a).length + 3 ≤ n → noMul rest → ∃ m, n ≤ m + 4 * (tokE a).length ∧ sumS n nm o (kT (tokE a) ++ rest) = sumL m nm o a rest
theorem tok_pos : ∀ a : Nd, 0 < (tokE a).length
  | .num n => by simp [tokE]
  | .name v x => by simp [tokE]
  | .minus a => by simp [tokE]
  | .two op l r => by simp [tokE]; omega
theorem su_of {nm : List (List UInt8)} {a : Nd} (ha : addsB a = false) (pr : ∀ o n rest, dE a + (if addsB a then 1 else 0) + o ≤ 16 → 4 * (brT (addsB a) (tokE a)).length + 2 ≤ n → ∃ m, n ≤ m + 4 * (brT (addsB a) (tokE a)).length ∧ prodS n nm o (kT (brT (addsB a) (tokE a)) ++ rest) = prodL m nm o a rest) :
    ∀ o n rest, dE a + o ≤ 16 → 4 * (tokE a).length + 3 ≤ n → noMul rest → ∃ m, n ≤ m + 4 * (tokE a).length ∧ sumS n nm o (kT (tokE a) ++ rest) = sumL m nm o a rest := by
  intro o n rest hd hn hr
  have hp := tok_pos a
  obtain ⟨n, rfl⟩ : ∃ k, n = k + 1 := ⟨n - 1, by omega⟩
  rw [ha] at pr
  obtain ⟨m, h1, h2⟩ := pr o n rest (by simpa using hd) (by show 4 * (tokE a).length + 2 ≤ n; omega)
  have h1' : n ≤ m + 4 * (tokE a).length := h1
  have h2' : prodS n nm o (kT (tokE a) ++ rest) = prodL m nm o a rest := h2
  refine ⟨n, by omega, ?_⟩
  simp only [sumS, h2', pl_end hr (show 0 < m by omega)]
theorem pr_of {nm : List (List UInt8)} {a : Nd} (ha : (!singleB a) = addsB a) (un : ∀ o n rest, dE a + (if singleB a then 0 else 1) + o ≤ 16 → 4 * (brT (!singleB a) (tokE a)).length + 1 ≤ n → unS n nm o (kT (brT (!singleB a) (tokE a)) ++ rest) = .ok (a, rest)) :
    ∀ o n rest, dE a + (if addsB a then 1 else 0) + o ≤ 16 → 4 * (brT (addsB a) (tokE a)).length + 2 ≤ n → ∃ m, n ≤ m + 4 * (brT (addsB a) (tokE a)).length ∧ prodS n nm o (kT (brT (addsB a) (tokE a)) ++ rest) = prodL m nm o a rest := by
  intro o n rest hd hn
  have hp : 0 < (brT (addsB a) (tokE a)).length := by
    have := tok_pos a
    unfold brT
    split
    · simp
    · exact this
  obtain ⟨n, rfl⟩ : ∃ k, n = k + 1 := ⟨n - 1, by omega⟩
  rw [ha] at un
  have h := un o n rest (by rw [← ha] at hd; cases hs : singleB a <;> simp [hs] at hd ⊢ <;> omega) (by omega)
  refine ⟨n, by omega, ?_⟩
  simp only [prodS, h]
theorem un_of {nm : List (List UInt8)} {a : Nd} (ha : singleB a = false) (su : ∀ o n rest, dE a + o ≤ 16 → 4 * (tokE a).length + 3 ≤ n → noMul rest → ∃ m, n ≤ m + 4 * (tokE a).length ∧ sumS n nm o (kT (tokE a) ++ rest) = sumL m nm o a rest) :
    ∀ o n rest, dE a + (if singleB a then 0 else 1) + o ≤ 16 → 4 * (brT (!singleB a) (tokE a)).length + 1 ≤ n → unS n nm o (kT (brT (!singleB a) (tokE a)) ++ rest) = .ok (a, rest) := by
  intro o n rest hd hn
  rw [ha] at hd hn ⊢
  simp only [Bool.false_eq_true, if_false] at hd
  simp only [brT, Bool.not_false, if_true, List.length_cons, List.length_append, List.length_nil] at hn ⊢
  obtain ⟨n, rfl⟩ : ∃ k, n = k + 1 := ⟨n - 1, by omega⟩
  rw [kT_cons, kT_app, kT_cons, kT_nil, List.cons_append, List.append_assoc, List.singleton_append]
  have hr : noMul (mkT (3, [41]) :: rest) := ⟨by rw [isT_sign]; decide, by rw [isT_sign]; decide, by rw [isT_sign]; decide⟩
  obtain ⟨m, h1, h2⟩ := su (o + 1) n (mkT (3, [41]) :: rest) (by omega) (by omega) hr
  have h3 := sl_end (n := m) (nm := nm) (o := o + 1) (a := a) (r := mkT (3, [41]) :: rest) ⟨by rw [isT_sign]; decide, by rw [isT_sign]; decide⟩ (by omega)
  have hi : isT [45] (mkT (3, [40]) :: (kT (tokE a) ++ mkT (3, [41]) :: rest)) = false := by rw [isT_sign]; decide
  have hi2 : isT [41] (mkT (3, [41]) :: rest) = true := by rw [isT_sign]; decide
  have hk : (hereT (mkT (3, [40]) :: (kT (tokE a) ++ mkT (3, [41]) :: rest))).kind = 3 := rfl
  have ht : (hereT (mkT (3, [40]) :: (kT (tokE a) ++ mkT (3, [41]) :: rest))).text = [40] := rfl
  have hn2 : nameS (mkT (3, [40]) :: (kT (tokE a) ++ mkT (3, [41]) :: rest)) = false := by unfold nameS; rw [hk]; rfl
  have hps : passT (mkT (3, [40]) :: (kT (tokE a) ++ mkT (3, [41]) :: rest)) = kT (tokE a) ++ mkT (3, [41]) :: rest := pass_mk (by decide) _
  have hps2 : passT (mkT (3, [41]) :: rest) = rest := pass_mk (by decide) _
  simp only [unS]
  rw [if_neg (by rw [hi]; decide), if_neg (by rw [hk]; decide), if_neg (by rw [hn2]; decide), if_neg (by rw [hk, ht]; simp), if_neg (by omega), hps, h2, h3]
  simp only [hi2, if_true, hps2]
theorem ex_rd (nm : List (List UInt8)) : ∀ a : Nd, ExOk nm a → ExRd nm a
  | .num v, h => by
    have un : ∀ o n rest, dE (.num v) + (if singleB (.num v) then 0 else 1) + o ≤ 16 → 4 * (brT (!singleB (.num v)) (tokE (.num v))).length + 1 ≤ n → unS n nm o (kT (brT (!singleB (.num v)) (tokE (.num v))) ++ rest) = .ok (.num v, rest) := by
      intro o n rest _ hn
      obtain ⟨n, rfl⟩ : ∃ k, n = k + 1 := ⟨n - 1, by omega⟩
      have e : kT (brT (!singleB (.num v)) (tokE (.num v))) ++ rest = mkT (2, decText v) :: rest := rfl
      rw [e]
      have h2 : numS (decText v) = v := digVal_decText v
      simp only [unS]
      rw [if_neg (by rw [isT_mk]; simp), if_pos (show (hereT (mkT (2, decText v) :: rest)).kind = 2 from rfl), pass_mk (a := (2, decText v)) (by simp)]
      show Except.ok (Nd.num (numS (decText v)), rest) = _
      rw [h2]
    exact ⟨un, pr_of rfl un, su_of rfl (pr_of rfl un)⟩
  | .name v x, h => by
    have un : ∀ o n rest, dE (.name v x) + (if singleB (.name v x) then 0 else 1) + o ≤ 16 → 4 * (brT (!singleB (.name v x)) (tokE (.name v x))).length + 1 ≤ n → unS n nm o (kT (brT (!singleB (.name v x)) (tokE (.name v x))) ++ rest) = .ok (.name v x, rest) := by
      intro o n rest _ hn
      obtain ⟨n, rfl⟩ : ∃ k, n = k + 1 := ⟨n - 1, by omega⟩
      have e : kT (brT (!singleB (.name v x)) (tokE (.name v x))) ++ rest = mkT (1, x) :: rest := rfl
      rw [e]
      have hne : x ≠ [45] := nm_ne h.1 (by decide) (by decide)
      have hnm : nameS (mkT (1, x) :: rest) = true := by
        unfold nameS
        rw [here_mk]
        show (decide ((1 : Int) = 1) && !wordS x) = true
        rw [h.2.1]
        rfl
      have hv : varS nm (hereT (mkT (1, x) :: rest)).text = some v := h.2.2
      simp only [unS]
      rw [if_neg (by rw [isT_mk]; simp [hne]), if_neg (show ¬ (hereT (mkT (1, x) :: rest)).kind = 2 by show ¬ ((1 : Int) = 2); decide), if_pos hnm, pass_mk (a := (1, x)) (by simp), hv]
      rfl
    exact ⟨un, pr_of rfl un, su_of rfl (pr_of rfl un)⟩
  | .minus a, h => by
    have ih := ex_rd nm a h
    have un : ∀ o n rest, dE (.minus a) + (if singleB (.minus a) then 0 else 1) + o ≤ 16 → 4 * (brT (!singleB (.minus a)) (tokE (.minus a))).length + 1 ≤ n → unS n nm o (kT (brT (!singleB (.minus a)) (tokE (.minus a))) ++ rest) = .ok (.minus a, rest) := by
      intro o n rest hd hn
      have hn' : 4 * ((brT (!singleB a) (tokE a)).length + 1) + 1 ≤ n := hn
      obtain ⟨n, rfl⟩ : ∃ k, n = k + 1 := ⟨n - 1, by omega⟩
      have e : kT (brT (!singleB (.minus a)) (tokE (.minus a))) ++ rest = mkT (3, [45]) :: (kT (brT (!singleB a) (tokE a)) ++ rest) := rfl
      rw [e]
      have hu := ih.un o n rest hd (by omega)
      simp only [unS]
      rw [if_pos (by rw [isT_sign]; decide), pass_mk (by decide), hu]
    exact ⟨un, pr_of rfl un, su_of rfl (pr_of rfl un)⟩
  | .two op l r, h => by
    obtain ⟨hop, hl, hr⟩ := h
    have il := ex_rd nm l hl
    have ir := ex_rd nm r hr
    have hpr : ∀ {s : List UInt8} (rest : List Tok), [UInt8.ofNat op] = s → isT s (mkT (3, [UInt8.ofNat op]) :: rest) = true := fun rest h => by rw [isT_sign, h]; simp
    by_cases hs : op = 43 ∨ op = 45
    · obtain ⟨t1, t2, t3⟩ := two_sum hs l r
      have s1 : sumB op = true := t3
      have et : tokE (.two op l r) = tokE l ++ [(3, [UInt8.ofNat op])] ++ brT (addsB r) (tokE r) := by simp only [tokE, s1]; simp [brT]
      have ed : dE (.two op l r) = max (dE l) (dE r + (if addsB r then 1 else 0)) := by simp only [dE, t1, t2, Nat.add_zero]
      have su : ∀ o n rest, dE (.two op l r) + o ≤ 16 → 4 * (tokE (.two op l r)).length + 3 ≤ n → noMul rest → ∃ m, n ≤ m + 4 * (tokE (.two op l r)).length ∧ sumS n nm o (kT (tokE (.two op l r)) ++ rest) = sumL m nm o (.two op l r) rest := by
        intro o n rest hd hn hrm
        rw [ed] at hd
        rw [et] at hn ⊢
        simp only [List.length_append, List.length_cons, List.length_nil] at hn ⊢
        rw [kT_app, kT_app, kT_cons, kT_nil, List.append_assoc, List.append_assoc, List.singleton_append]
        obtain ⟨m, h1, h2⟩ := il.su o n (mkT (3, [UInt8.ofNat op]) :: (kT (brT (addsB r) (tokE r)) ++ rest)) (by omega) (by omega) (by
          rcases hs with rfl | rfl <;> exact ⟨by rw [isT_sign]; decide, by rw [isT_sign]; decide, by rw [isT_sign]; decide⟩)
        obtain ⟨m, rfl⟩ : ∃ k, m = k + 1 := ⟨m - 1, by omega⟩
        obtain ⟨m2, h3, h4⟩ := ir.pr o m rest (by omega) (by omega)
        rw [pl_end hrm (by omega)] at h4
        refine ⟨m, by omega, ?_⟩
        rw [h2]
        simp only [sumL]
        rcases hs with rfl | rfl
        · rw [if_pos (hpr _ (by decide)), pass_mk (by decide), h4]
        · rw [if_neg (by rw [isT_sign]; decide), if_pos (hpr _ (by decide)), pass_mk (by decide), h4]
      have un := un_of (nm := nm) (a := .two op l r) rfl su
      exact ⟨un, pr_of (by rw [t3]; rfl) un, su⟩
    · have hp : op = 42 ∨ op = 47 ∨ op = 37 := by omega
      obtain ⟨t1, t2, t3⟩ := two_prod hp l r
      have s1 : sumB op = false := t3
      have et : tokE (.two op l r) = brT (addsB l) (tokE l) ++ [(3, [UInt8.ofNat op])] ++ brT (!singleB r) (tokE r) := by simp only [tokE, s1]; simp
      have ed : dE (.two op l r) = max (dE l + (if addsB l then 1 else 0)) (dE r + (if singleB r then 0 else 1)) := by simp only [dE, t1, t2]
      have pr : ∀ o n rest, dE (.two op l r) + (if addsB (.two op l r) then 1 else 0) + o ≤ 16 → 4 * (brT (addsB (.two op l r)) (tokE (.two op l r))).length + 2 ≤ n → ∃ m, n ≤ m + 4 * (brT (addsB (.two op l r)) (tokE (.two op l r))).length ∧ prodS n nm o (kT (brT (addsB (.two op l r)) (tokE (.two op l r))) ++ rest) = prodL m nm o (.two op l r) rest := by
        intro o n rest hd hn
        rw [t3] at hd hn ⊢
        simp only [Bool.false_eq_true, if_false, Nat.add_zero] at hd
        simp only [brT, Bool.false_eq_true, if_false] at hn ⊢
        rw [ed] at hd
        rw [et] at hn ⊢
        simp only [List.length_append, List.length_cons, List.length_nil] at hn ⊢
        rw [kT_app, kT_app, kT_cons, kT_nil, List.append_assoc, List.append_assoc, List.singleton_append]
        obtain ⟨m, h1, h2⟩ := il.pr o n (mkT (3, [UInt8.ofNat op]) :: (kT (brT (!singleB r) (tokE r)) ++ rest)) (by omega) (by omega)
        obtain ⟨m, rfl⟩ : ∃ k, m = k + 1 := ⟨m - 1, by omega⟩
        have h4 := ir.un o m rest (by omega) (by omega)
        refine ⟨m, by omega, ?_⟩
        rw [h2]
        simp only [prodL]
        rcases hp with rfl | rfl | rfl
        · rw [if_pos (hpr _ (by decide)), pass_mk (by decide), h4]
        · rw [if_neg (by rw [isT_sign]; decide), if_pos (hpr _ (by decide)), pass_mk (by decide), h4]
        · rw [if_neg (by rw [isT_sign]; decide), if_neg (by rw [isT_sign]; decide), if_pos (hpr _ (by decide)), pass_mk (by decide), h4]
      have su := su_of t3 pr
      exact ⟨un_of rfl su, pr, su⟩
/-- an expression, where something else stands behind it -/
theorem sum_back {nm : List (List UInt8)} {a : Nd} (h : ExOk nm a) {o n : Nat} {rest : List Tok} (hd : dE a + o ≤ 16) (hn : 4 * (tokE a).length + 3 ≤ n) (hm : noMul rest) (ha : noAdd rest) : sumS n nm o (kT (tokE a) ++ rest) = .ok (a, rest) := by
  obtain ⟨m, h1, h2⟩ := (ex_rd nm a h).su o n rest hd hn hm
  rw [h2, sl_end ha (by omega)]
end Go.Proofs.YtlklijpjacmgpaaGreatDoor

namespace Go.Proofs.YtlklijpjacmgpaaGreatDoor
open Go
set_option linter.unusedVariables false
set_option linter.unusedSimpArgs false
set_option exponentiation.threshold 5000

abbrev Nms := List (List UInt8)
/-- a name that is no word -/
def NmW (x : List UInt8) : Prop := NmT x ∧ wordS x = false
def CdOk (nm : Nms) (o : Nat) (l r : Nd) : Prop := ExOk nm l ∧ ExOk nm r ∧ dE l + o ≤ 16 ∧ dE r + o ≤ 16
mutual
/-- a statement over these variables, o brackets deep, with the marks ahead of it and behind it -/
def Sm.bk (nm : Nms) : Sm → Nat → Nms → Nms → Prop
  | .set _ v x none, o, mk, mk' => NmW x ∧ varS nm x = some v ∧ mk' = mk
  | .set _ v x (some e), o, mk, mk' => NmW x ∧ varS nm x = some v ∧ ExOk nm e ∧ dE e + o ≤ 16 ∧ mk' = mk
  | .skip _, o, mk, mk' => mk' = mk
  | .stop _, o, mk, mk' => mk' = mk
  | .mark _ x, o, mk, mk' => NmW x ∧ shortS x = true ∧ mk.contains x = false ∧ mk' = x :: mk
  | .choose _ .nil, o, mk, mk' => False
  | .choose _ (.cons _ b r), o, mk, mk' => o < 16 ∧ ∃ mk1, b.bk nm (o + 1) mk mk1 ∧ r.bk nm o mk1 mk'
  | .loop _ b, o, mk, mk' => o < 16 ∧ b.bk nm (o + 1) mk mk'
  | .iff _ l r _ t e, o, mk, mk' => CdOk nm o l r ∧ o < 16 ∧ ∃ mk1, t.bk nm (o + 1) mk mk1 ∧ e.bk nm o mk1 mk'
  | .whil _ l r _ b, o, mk, mk' => CdOk nm o l r ∧ o < 16 ∧ b.bk nm (o + 1) mk mk'
def Sms.bk (nm : Nms) : Sms → Nat → Nms → Nms → Prop
  | .nil, o, mk, mk' => mk' = mk
  | .cons s r, o, mk, mk' => ∃ mk1, s.bk nm o mk mk1 ∧ r.bk nm o mk1 mk'
def Bls.bk (nm : Nms) : Bls → Nat → Nms → Nms → Prop
  | .nil, o, mk, mk' => mk' = mk
  | .cons _ b r, o, mk, mk' => o < 16 ∧ ∃ mk1, b.bk nm (o + 1) mk mk1 ∧ r.bk nm o mk1 mk'
def Els.bk (nm : Nms) : Els → Nat → Nms → Nms → Prop
  | .none, o, mk, mk' => mk' = mk
  | .some _ b, o, mk, mk' => o < 16 ∧ b.bk nm (o + 1) mk mk'
end
def tkC (l r : Nd) (eq : Bool) : List Kt := tokE l ++ (3, if eq then [61] else [33, 61]) :: tokE r
mutual
def tkSm : Sm → List Kt
  | .set _ _ x none => [(1, x), (3, [58, 61]), (1, any_), (3, [59])]
  | .set _ _ x (some e) => (1, x) :: (3, [58, 61]) :: (tokE e ++ [(3, [59])])
  | .skip _ => [(1, skip_), (3, [59])]
  | .stop _ => [(1, stop_), (3, [59])]
  | .mark _ x => [(1, mark_), (1, x), (3, [59])]
  | .choose _ .nil => [(1, choose_), (3, [59])]
  | .choose _ (.cons _ b r) => (1, choose_) :: (3, [123]) :: (tkSms b ++ (3, [125]) :: tkBl r)
  | .loop _ b => (1, loop_) :: (3, [123]) :: (tkSms b ++ [(3, [125])])
  | .iff _ l r eq t e => (1, if_) :: (tkC l r eq ++ (3, [123]) :: (tkSms t ++ (3, [125]) :: tkEl e))
  | .whil _ l r eq b => (1, while_) :: (tkC l r eq ++ (3, [123]) :: (tkSms b ++ [(3, [125])]))
def tkSms : Sms → List Kt
  | .nil => []
  | .cons s r => tkSm s ++ tkSms r
def tkBl : Bls → List Kt
  | .nil => []
  | .cons _ b r => (1, or_) :: (3, [123]) :: (tkSms b ++ (3, [125]) :: tkBl r)
def tkEl : Els → List Kt
  | .none => []
  | .some _ b => (1, else_) :: (3, [123]) :: (tkSms b ++ [(3, [125])])
end
/-- as they are written: what is behind the first block, without the end of the last one -/
def tkBl' : Bls → List Kt
  | .nil => []
  | .cons _ b r => (3, [125]) :: (1, or_) :: (3, [123]) :: (tkSms b ++ tkBl' r)
theorem tkBl_end : ∀ r : Bls, tkBl' r ++ [(3, [125])] = (3, [125]) :: tkBl r
  | .nil => rfl
  | .cons _ b r => by simp only [tkBl', tkBl, List.cons_append, List.append_assoc, tkBl_end r]
def tkEl' : Els → List Kt
  | .none => []
  | .some _ b => (3, [125]) :: (1, else_) :: (3, [123]) :: tkSms b
theorem tkEl_end : ∀ e : Els, tkEl' e ++ [(3, [125])] = (3, [125]) :: tkEl e
  | .none => rfl
  | .some _ b => by simp only [tkEl', tkEl, List.cons_append]

theorem tx_wsp {x : List UInt8} (h : x ∈ words) : TxS (x ++ [32]) [(1, x)] := (tx_word h).appH tx_sp
theorem tx_sg {x : List UInt8} (h : x ∈ signTexts) : TxS x [(3, x)] := (tx_sign h).s
theorem tx_open : TxH [32, 123, 10] [(3, [123])] := (tx_sp.app (tx_sg (x := [123]) (by decide))).app tx_nl.s
theorem tx_semi : TxH [59, 10] [(3, [59])] := (tx_sign (x := [59]) (by decide)).app tx_nl.s
theorem tx_close : TxH [125, 10] [(3, [125])] := (tx_sign (x := [125]) (by decide)).app tx_nl.s
theorem tx_closes : TxH [125, 32] [(3, [125])] := (tx_sign (x := [125]) (by decide)).app tx_sp.s
theorem tx_cd {nm : Nms} {l r : Nd} (h1 : ExOk nm l) (h2 : ExOk nm r) (eq : Bool) : TxW (cdS l r eq) (tkC l r eq) := by
  have e : TxH (if eq then [32, 61, 32] else [32, 33, 61, 32]) [(3, if eq then [61] else [33, 61])] := by
    cases eq with
    | true => exact (tx_sp.app (tx_sg (x := [61]) (by decide))).app tx_sp.s
    | false => exact (tx_sp.app (tx_sg (x := [33, 61]) (by decide))).app tx_sp.s
  have h := ((tx_ex l h1).appH e).appW (tx_ex r h2)
  simpa [cdS, tkC] using h
theorem TxS.cast {s s' : List UInt8} {l l' : List Kt} (h : TxS s l) (e1 : s = s') (e2 : l = l') : TxS s' l' := by subst e1 e2; exact h
mutual
theorem tx_sm {nm : Nms} : ∀ (s : Sm) (o : Nat) (mk mk' : Nms) (ah : List UInt8), s.bk nm o mk mk' → TxS ah [] → TxS (prSm ah s) (tkSm s)
  | .set p v x none, o, mk, mk', ah, h, ha => by
    simp only [Sm.bk] at h
    have g : TxH [32, 58, 61, 32] [(3, [58, 61])] := (tx_sp.app (tx_sg (x := [58, 61]) (by decide))).app tx_sp.s
    have h1 := (ha.app ((tx_name h.1.1).appH g)).appW (tx_word (x := any_) (by decide))
    exact (h1.appH tx_semi).cast (by simp [prSm, hdS, any_]) (by simp [tkSm])
  | .set p v x (some e), o, mk, mk', ah, h, ha => by
    simp only [Sm.bk] at h
    have g : TxH [32, 58, 61, 32] [(3, [58, 61])] := (tx_sp.app (tx_sg (x := [58, 61]) (by decide))).app tx_sp.s
    have h1 := (ha.app ((tx_name h.1.1).appH g)).appW (tx_ex e h.2.2.1)
    exact (h1.appH tx_semi).cast (by simp [prSm, hdS]) (by simp [tkSm])
  | .skip p, o, mk, mk', ah, h, ha => ((ha.appW (tx_word (x := skip_) (by decide))).appH tx_semi).cast (by simp [prSm]) (by simp [tkSm])
  | .stop p, o, mk, mk', ah, h, ha => ((ha.appW (tx_word (x := stop_) (by decide))).appH tx_semi).cast (by simp [prSm]) (by simp [tkSm])
  | .mark p x, o, mk, mk', ah, h, ha => by
    simp only [Sm.bk] at h
    exact (((ha.app (tx_wsp (x := mark_) (by decide))).appW (tx_name h.1.1)).appH tx_semi).cast (by simp [prSm, hdS, mark_]) (by simp [tkSm])
  | .choose p .nil, o, mk, mk', ah, h, ha => by simp only [Sm.bk] at h
  | .choose p (.cons q b r), o, mk, mk', ah, h, ha => by
    simp only [Sm.bk] at h
    obtain ⟨_, mk1, hb, hr⟩ := h
    have hb' := tx_sms b _ _ _ (ah ++ [32, 32]) hb (ha.app (tx_sp.app tx_sp.s).s)
    have hr' := tx_bl r _ _ _ ah 1 (by omega) hr ha
    have h1 := ((((ha.appW (tx_word (x := choose_) (by decide))).appH tx_open).app hb').app hr').app (ha.app tx_close.s)
    refine h1.cast (by simp [prSm]) ?_
    have e := tkBl_end r
    simp only [tkSm, List.nil_append, List.append_assoc, e, List.cons_append]
  | .loop p b, o, mk, mk', ah, h, ha => by
    simp only [Sm.bk] at h
    have hb' := tx_sms b _ _ _ (ah ++ [32, 32]) h.2 (ha.app (tx_sp.app tx_sp.s).s)
    have h1 := (((ha.appW (tx_word (x := loop_) (by decide))).appH tx_open).app hb').app (ha.app tx_close.s)
    exact h1.cast (by simp [prSm]) (by simp [tkSm])
  | .iff p l r eq t e, o, mk, mk', ah, h, ha => by
    simp only [Sm.bk] at h
    obtain ⟨hc, _, mk1, hb, hr⟩ := h
    have hb' := tx_sms t _ _ _ (ah ++ [32, 32]) hb (ha.app (tx_sp.app tx_sp.s).s)
    have hr' := tx_el e _ _ _ ah hr ha
    have h1 := (((((ha.app (tx_wsp (x := if_) (by decide))).appW (tx_cd hc.1 hc.2.1 eq)).appH tx_open).app hb').app hr').app (ha.app tx_close.s)
    refine h1.cast (by simp [prSm, hdS, if_]) ?_
    have e := tkEl_end e
    simp only [tkSm, List.nil_append, List.append_assoc, e, List.cons_append]
  | .whil p l r eq b, o, mk, mk', ah, h, ha => by
    simp only [Sm.bk] at h
    have hb' := tx_sms b _ _ _ (ah ++ [32, 32]) h.2.2 (ha.app (tx_sp.app tx_sp.s).s)
    have h1 := ((((ha.app (tx_wsp (x := while_) (by decide))).appW (tx_cd h.1.1 h.1.2.1 eq)).appH tx_open).app hb').app (ha.app tx_close.s)
    exact h1.cast (by simp [prSm, hdS, while_]) (by simp [tkSm])
theorem tx_sms {nm : Nms} : ∀ (s : Sms) (o : Nat) (mk mk' : Nms) (ah : List UInt8), s.bk nm o mk mk' → TxS ah [] → TxS (prSms ah s) (tkSms s)
  | .nil, o, mk, mk', ah, h, ha => by simp only [prSms, tkSms]; exact TxS.nil
  | .cons s r, o, mk, mk', ah, h, ha => by
    simp only [Sms.bk] at h
    obtain ⟨mk1, h1, h2⟩ := h
    simp only [prSms, tkSms]
    exact (tx_sm s _ _ _ ah h1 ha).app (tx_sms r _ _ _ ah h2 ha)
theorem tx_bl {nm : Nms} : ∀ (s : Bls) (o : Nat) (mk mk' : Nms) (ah : List UInt8) (j : Nat), 0 < j → s.bk nm o mk mk' → TxS ah [] → TxS (prBl ah j s) (tkBl' s)
  | .nil, o, mk, mk', ah, j, hj, h, ha => by simp only [prBl, tkBl']; exact TxS.nil
  | .cons p b r, o, mk, mk', ah, j, hj, h, ha => by
    simp only [Bls.bk] at h
    obtain ⟨_, mk1, h1, h2⟩ := h
    have hb' := tx_sms b _ _ _ (ah ++ [32, 32]) h1 (ha.app (tx_sp.app tx_sp.s).s)
    have hr' := tx_bl r _ _ _ ah (j + 1) (by omega) h2 ha
    have h3 := ((((ha.app tx_closes.s).appW (tx_word (x := or_) (by decide))).appH tx_open).app hb').app hr'
    exact h3.cast (by simp only [prBl]; rw [if_neg (show ¬ j = 0 by omega)]) (by simp [tkBl'])
theorem tx_el {nm : Nms} : ∀ (s : Els) (o : Nat) (mk mk' : Nms) (ah : List UInt8), s.bk nm o mk mk' → TxS ah [] → TxS (prEl ah s) (tkEl' s)
  | .none, o, mk, mk', ah, h, ha => by simp only [prEl, tkEl']; exact TxS.nil
  | .some p b, o, mk, mk', ah, h, ha => by
    simp only [Els.bk] at h
    have hb' := tx_sms b _ _ _ (ah ++ [32, 32]) h.2 (ha.app (tx_sp.app tx_sp.s).s)
    have h3 := (((ha.app tx_closes.s).appW (tx_word (x := else_) (by decide))).appH tx_open).app hb'
    exact h3.cast (by simp [prEl]) (by simp [tkEl'])
end
end Go.Proofs.YtlklijpjacmgpaaGreatDoor

namespace Go.Proofs.YtlklijpjacmgpaaGreatDoor
open Go
set_option linter.unusedVariables false
set_option linter.unusedSimpArgs false
set_option exponentiation.threshold 5000

theorem must_back {x : List UInt8} {k : Int} (hk : k = 3 ∨ k = 1) (r : List Tok) : mustS x (mkT (k, x) :: r) = .ok r := by
  unfold mustS
  rw [isT_mk, if_pos (by simpa using hk), pass_mk (by show k ≠ 0; omega)]
theorem must3 (x : List UInt8) (r : List Tok) : mustS x (mkT (3, x) :: r) = .ok r := must_back (Or.inl rfl) r
theorem noMul_sign {x : List UInt8} (h : x ≠ [42] ∧ x ≠ [47] ∧ x ≠ [37]) (r : List Tok) : noMul (mkT (3, x) :: r) := ⟨by rw [isT_sign]; simp [h.1], by rw [isT_sign]; simp [h.2.1], by rw [isT_sign]; simp [h.2.2]⟩
theorem noAdd_sign {x : List UInt8} (h : x ≠ [43] ∧ x ≠ [45]) (r : List Tok) : noAdd (mkT (3, x) :: r) := ⟨by rw [isT_sign]; simp [h.1], by rw [isT_sign]; simp [h.2]⟩
theorem cond_back {nm : Nms} {l r : Nd} {o n : Nat} (eq : Bool) (h : CdOk nm o l r) {x : List UInt8} (hx : x = [123]) (rest : List Tok) (hn : 4 * (tkC l r eq).length + 3 ≤ n) : condS n nm o (kT (tkC l r eq) ++ mkT (3, x) :: rest) = .ok ((l, r, eq), mkT (3, x) :: rest) := by
  subst hx
  simp only [tkC, List.length_append, List.length_cons] at hn
  unfold tkC condS
  rw [kT_app, kT_cons, List.append_assoc, List.cons_append]
  have hm : ∀ y : List UInt8, (y = [61] ∨ y = [33, 61]) → noMul (mkT (3, y) :: (kT (tokE r) ++ mkT (3, [123]) :: rest)) ∧ noAdd (mkT (3, y) :: (kT (tokE r) ++ mkT (3, [123]) :: rest)) := by
    rintro y (rfl | rfl) <;> exact ⟨noMul_sign (by decide) _, noAdd_sign (by decide) _⟩
  have h2 := sum_back h.2.1 (o := o) (n := n) (rest := mkT (3, [123]) :: rest) h.2.2.2 (by omega) (noMul_sign (by decide) _) (noAdd_sign (by decide) _)
  cases eq with
  | true =>
    have h1 := sum_back h.1 (o := o) (n := n) (rest := mkT (3, [61]) :: (kT (tokE r) ++ mkT (3, [123]) :: rest)) h.2.2.1 (by omega) (hm _ (Or.inl rfl)).1 (hm _ (Or.inl rfl)).2
    simp only [if_true, h1]
    rw [if_pos (by rw [isT_sign]; decide), pass_mk (by decide), h2]
  | false =>
    have h1 := sum_back h.1 (o := o) (n := n) (rest := mkT (3, [33, 61]) :: (kT (tokE r) ++ mkT (3, [123]) :: rest)) h.2.2.1 (by omega) (hm _ (Or.inr rfl)).1 (hm _ (Or.inr rfl)).2
    simp only [Bool.false_eq_true, if_false, h1]
    rw [if_neg (by rw [isT_sign]; decide), must3]
    simp only [h2]
theorem isT_ne {x y : List UInt8} (h : y ≠ x) (k : Int) (r : List Tok) : isT x (mkT (k, y) :: r) = false := by
  rw [isT_mk]
  simp [h]
theorem word_ne {x y : List UInt8} (h : wordS x = false) (hy : wordS y = true) : x ≠ y := by
  rintro rfl
  rw [h] at hy
  cases hy
theorem nameS_mk {x : List UInt8} (h : wordS x = false) (r : List Tok) : nameS (mkT (1, x) :: r) = true := by
  show (decide ((1 : Int) = 1) && !wordS x) = true
  rw [h]
  rfl
theorem nameS_word {x : List UInt8} (h : wordS x = true) (r : List Tok) : nameS (mkT (1, x) :: r) = false := by
  show (decide ((1 : Int) = 1) && !wordS x) = false
  rw [h]
  rfl
theorem assign_any {nm : Nms} {o n v : Nat} {x : List UInt8} (hv : varS nm x = some v) (rest : List Tok) : assignS n nm o (kT [(1, x), (3, [58, 61]), (1, any_), (3, [59])] ++ rest) = .ok (.set start v x none, rest) := by
  unfold assignS
  have h1 : varS nm (hereT (kT [(1, x), (3, [58, 61]), (1, any_), (3, [59])] ++ rest)).text = some v := hv
  have h2 : passT (kT [(1, x), (3, [58, 61]), (1, any_), (3, [59])] ++ rest) = mkT (3, [58, 61]) :: mkT (1, any_) :: mkT (3, [59]) :: rest := pass_mk (a := (1, x)) (by simp) _
  rw [h1, h2]
  simp only [must3]
  rw [if_pos (by rw [isT_mk]; decide), pass_mk (by decide), must3]
  rfl
theorem any_no {nm : Nms} {a : Nd} (h : ExOk nm a) (r : List Tok) : isT any_ (kT (tokE a) ++ r) = false := by
  have key : ∀ (b : Bool) (l : List Kt), isT any_ (kT l ++ r) = false → l ≠ [] → isT any_ (kT (brT b l) ++ r) = false := by
    intro b l hl hne
    cases b with
    | false => exact hl
    | true => exact isT_ne (by decide) 3 _
  cases a with
  | num n => rw [show kT (tokE (.num n)) ++ r = mkT (2, decText n) :: r from rfl, isT_mk]; simp
  | name v x => exact isT_ne (word_ne h.2.1 (by decide)) 1 _
  | minus a => exact isT_ne (by decide) 3 _
  | two op l q =>
    have hl : ∀ (a : Nd), ExOk nm a → ∀ r, isT any_ (kT (tokE a) ++ r) = false := by
      intro a
      induction a with
      | num n => intro _ r; rw [show kT (tokE (.num n)) ++ r = mkT (2, decText n) :: r from rfl, isT_mk]; simp
      | name v x => intro h r; exact isT_ne (word_ne h.2.1 (by decide)) 1 _
      | minus a _ => intro _ r; exact isT_ne (by decide) 3 _
      | two op l q i1 i2 =>
        intro h r
        have := i1 h.2.1
        simp only [tokE, kT_app, List.append_assoc]
        cases (!sumB op && addsB l) with
        | false => exact this _
        | true => exact isT_ne (by decide) 3 _
    exact hl _ h r
theorem assign_ex {nm : Nms} {o n v : Nat} {x : List UInt8} {a : Nd} (hv : varS nm x = some v) (ha : ExOk nm a) (hd : dE a + o ≤ 16) (hn : 4 * (tokE a).length + 3 ≤ n) (rest : List Tok) : assignS n nm o (kT ((1, x) :: (3, [58, 61]) :: (tokE a ++ [(3, [59])])) ++ rest) = .ok (.set start v x (some a), rest) := by
  unfold assignS
  have h1 : varS nm (hereT (kT ((1, x) :: (3, [58, 61]) :: (tokE a ++ [(3, [59])])) ++ rest)).text = some v := hv
  have h2 : passT (kT ((1, x) :: (3, [58, 61]) :: (tokE a ++ [(3, [59])])) ++ rest) = mkT (3, [58, 61]) :: (kT (tokE a) ++ mkT (3, [59]) :: rest) := by
    rw [kT_cons, kT_cons, kT_app, List.cons_append, pass_mk (a := (1, x)) (by simp)]
    simp [kT]
  rw [h1, h2]
  simp only [must3]
  have h3 := sum_back ha (o := o) (n := n) (rest := mkT (3, [59]) :: rest) hd hn (noMul_sign (by decide) _) (noAdd_sign (by decide) _)
  rw [if_neg (by rw [any_no ha]; decide), h3]
  simp only [must3]
  rfl
/-- what may stand behind a statement -/
def stops (r : List Tok) : Prop := isT or_ r = false ∧ isT else_ r = false
theorem stops_sign {x : List UInt8} (h : x ≠ or_ ∧ x ≠ else_) (k : Int) (r : List Tok) : stops (mkT (k, x) :: r) := ⟨isT_ne h.1 k r, isT_ne h.2 k r⟩
theorem stops_sm {nm : Nms} {o : Nat} {mk mk' : Nms} (s : Sm) (h : s.bk nm o mk mk') (r : List Tok) : stops (kT (tkSm s) ++ r) ∧ (hereT (kT (tkSm s) ++ r)).kind = 1 := by
  have nw : ∀ {x : List UInt8}, wordS x = false → x ≠ or_ ∧ x ≠ else_ := fun h => ⟨word_ne h (by decide), word_ne h (by decide)⟩
  cases s with
  | set p v x e =>
    cases e with
    | none => simp only [Sm.bk] at h; exact ⟨stops_sign (nw h.1.2) 1 _, rfl⟩
    | some e => simp only [Sm.bk] at h; exact ⟨stops_sign (nw h.1.2) 1 _, rfl⟩
  | skip p => exact ⟨stops_sign (by decide) 1 _, rfl⟩
  | stop p => exact ⟨stops_sign (by decide) 1 _, rfl⟩
  | mark p x => exact ⟨stops_sign (by decide) 1 _, rfl⟩
  | choose p b =>
    cases b with
    | nil => simp only [Sm.bk] at h
    | cons q b r => simp only [tkSm]; exact ⟨stops_sign (by decide) 1 _, rfl⟩
  | loop p b => simp only [tkSm]; exact ⟨stops_sign (by decide) 1 _, rfl⟩
  | iff p l r eq t e => simp only [tkSm]; exact ⟨stops_sign (by decide) 1 _, rfl⟩
  | whil p l r eq b => simp only [tkSm]; exact ⟨stops_sign (by decide) 1 _, rfl⟩
theorem tkSm_pos (s : Sm) : 0 < (tkSm s).length := by
  cases s with
  | set p v x e => cases e <;> simp [tkSm]
  | choose p b => cases b <;> simp [tkSm]
  | _ => simp [tkSm]
theorem block_back {nm : Nms} {o n : Nat} {mk mk' : Nms} {b : Sms} (ho : o < 16) (hrow : ∀ rest, (hereT rest).kind ≠ 1 → stops rest → rowS n nm mk (o + 1) (kT (tkSms b) ++ rest) = .ok (b.no, mk', rest)) (rest : List Tok) : blockS (n + 1) nm mk o (mkT (3, [123]) :: (kT (tkSms b) ++ mkT (3, [125]) :: rest)) = .ok (b.no, mk', rest) := by
  have hi : intoS [123] o (mkT (3, [123]) :: (kT (tkSms b) ++ mkT (3, [125]) :: rest)) = .ok (kT (tkSms b) ++ mkT (3, [125]) :: rest) := by
    unfold intoS
    rw [if_neg (by show ¬ ¬ ((3 : Int) = 3 ∧ ([123] : List UInt8) = [123]); simp), if_neg (by omega), pass_mk (by decide)]
  have hr := hrow (mkT (3, [125]) :: rest) (by show ¬ ((3 : Int) = 1); decide) (stops_sign (by decide) 3 _)
  simp only [blockS, hi, hr, must3]
mutual
theorem sm_back {nm : Nms} : ∀ (s : Sm) (o : Nat) (mk mk' : Nms) (n : Nat) (rest : List Tok), s.bk nm o mk mk' → 4 * (tkSm s).length + 4 ≤ n → stops rest → stmtS n nm mk o (kT (tkSm s) ++ rest) = .ok (some s.no, mk', rest)
  | .set p v x none, o, mk, mk', n, rest, h, hn, hs => by
    obtain ⟨n, rfl⟩ : ∃ k, n = k + 1 := ⟨n - 1, by omega⟩
    simp only [Sm.bk] at h
    obtain ⟨h1, h2, rfl⟩ := h
    have hnm : nameS (kT (tkSm (.set p v x none)) ++ rest) = true := nameS_mk h1.2 _
    have ha : assignS n nm o (kT (tkSm (.set p v x none)) ++ rest) = .ok (.set start v x none, rest) := assign_any h2 rest
    simp only [stmtS]
    rw [if_pos hnm, ha]
    rfl
  | .set p v x (some e), o, mk, mk', n, rest, h, hn, hs => by
    obtain ⟨n, rfl⟩ : ∃ k, n = k + 1 := ⟨n - 1, by omega⟩
    simp only [Sm.bk] at h
    obtain ⟨h1, h2, h3, h4, rfl⟩ := h
    simp only [tkSm, List.length_cons, List.length_append, List.length_nil] at hn
    have hnm : nameS (kT (tkSm (.set p v x (some e))) ++ rest) = true := nameS_mk h1.2 _
    have ha : assignS n nm o (kT (tkSm (.set p v x (some e))) ++ rest) = .ok (.set start v x (some e), rest) := assign_ex h2 h3 h4 (by omega) rest
    simp only [stmtS]
    rw [if_pos hnm, ha]
    rfl
  | .skip p, o, mk, mk', n, rest, h, hn, hs => by
    obtain ⟨n, rfl⟩ : ∃ k, n = k + 1 := ⟨n - 1, by omega⟩
    simp only [Sm.bk] at h
    subst h
    have e : kT (tkSm (.skip p)) ++ rest = mkT (1, skip_) :: mkT (3, [59]) :: rest := rfl
    rw [e]
    simp only [stmtS]
    rw [if_neg (by rw [nameS_word (by decide)]; decide), if_pos (by rw [isT_mk]; decide), pass_mk (by decide), must3]
    rfl
  | .stop p, o, mk, mk', n, rest, h, hn, hs => by
    obtain ⟨n, rfl⟩ : ∃ k, n = k + 1 := ⟨n - 1, by omega⟩
    simp only [Sm.bk] at h
    subst h
    have e : kT (tkSm (.stop p)) ++ rest = mkT (1, stop_) :: mkT (3, [59]) :: rest := rfl
    rw [e]
    simp only [stmtS]
    rw [if_neg (by rw [nameS_word (by decide)]; decide), if_neg (by rw [isT_mk]; decide), if_pos (by rw [isT_mk]; decide), pass_mk (by decide), must3]
    rfl
  | .mark p x, o, mk, mk', n, rest, h, hn, hs => by
    obtain ⟨n, rfl⟩ : ∃ k, n = k + 1 := ⟨n - 1, by omega⟩
    simp only [Sm.bk] at h
    obtain ⟨h1, h2, h3, rfl⟩ := h
    have e : kT (tkSm (.mark p x)) ++ rest = mkT (1, mark_) :: mkT (1, x) :: mkT (3, [59]) :: rest := rfl
    have e2 : (hereT (mkT (1, x) :: mkT (3, [59]) :: rest)).text = x := rfl
    have hm : markS start mk (mkT (1, x) :: mkT (3, [59]) :: rest) = .ok (.mark start x, x :: mk, rest) := by
      unfold markS
      rw [if_neg (by rw [nameS_mk h1.2]; decide), e2, if_neg (by rw [h2]; decide), if_neg (by rw [h3]; decide), pass_mk (a := (1, x)) (by simp), must3]
    rw [e]
    simp only [stmtS]
    rw [if_neg (by rw [nameS_word (by decide)]; decide), if_neg (by rw [isT_mk]; decide), if_neg (by rw [isT_mk]; decide), if_pos (by rw [isT_mk]; decide), pass_mk (by decide)]
    rw [show (hereT (mkT (1, mark_) :: mkT (1, x) :: mkT (3, [59]) :: rest)).at_ = start from rfl, hm]
    rfl
  | .choose p .nil, o, mk, mk', n, rest, h, hn, hs => by simp only [Sm.bk] at h
  | .choose p (.cons q b r), o, mk, mk', n, rest, h, hn, hs => by
    obtain ⟨n, rfl⟩ : ∃ k, n = k + 1 := ⟨n - 1, by omega⟩
    simp only [Sm.bk] at h
    obtain ⟨ho, mk1, hb, hr⟩ := h
    simp only [tkSm, List.length_cons, List.length_append] at hn
    have e : kT (tkSm (.choose p (.cons q b r))) ++ rest = mkT (1, choose_) :: mkT (3, [123]) :: (kT (tkSms b) ++ mkT (3, [125]) :: (kT (tkBl r) ++ rest)) := by simp [tkSm, kT]
    obtain ⟨m, rfl⟩ : ∃ k, n = k + 1 := ⟨n - 1, by omega⟩
    have h1 := block_back (n := m) (nm := nm) (mk := mk) (mk' := mk1) (b := b) ho (fun rest hk hst => sms_back b (o + 1) mk mk1 m rest hb (by omega) hk hst) (kT (tkBl r) ++ rest)
    have h2 := bl_back r o mk1 mk' (m + 1) rest hr (by omega) hs
    rw [e]
    rw [stmtS]
    rw [if_neg (by rw [nameS_word (by decide)]; decide), if_neg (by rw [isT_mk]; decide), if_neg (by rw [isT_mk]; decide), if_neg (by rw [isT_mk]; decide), if_pos (by rw [isT_mk]; decide), pass_mk (by decide), h1]
    simp only [h2]
    rfl
  | .loop p b, o, mk, mk', n, rest, h, hn, hs => by
    obtain ⟨n, rfl⟩ : ∃ k, n = k + 1 := ⟨n - 1, by omega⟩
    simp only [Sm.bk] at h
    obtain ⟨ho, hb⟩ := h
    simp only [tkSm, List.length_cons, List.length_append, List.length_nil] at hn
    have e : kT (tkSm (.loop p b)) ++ rest = mkT (1, loop_) :: mkT (3, [123]) :: (kT (tkSms b) ++ mkT (3, [125]) :: rest) := by simp [tkSm, kT]
    obtain ⟨m, rfl⟩ : ∃ k, n = k + 1 := ⟨n - 1, by omega⟩
    have h1 := block_back (n := m) (nm := nm) (mk := mk) (mk' := mk') (b := b) ho (fun rest hk hst => sms_back b (o + 1) mk mk' m rest hb (by omega) hk hst) rest
    rw [e]
    rw [stmtS]
    rw [if_neg (by rw [nameS_word (by decide)]; decide), if_neg (by rw [isT_mk]; decide), if_neg (by rw [isT_mk]; decide), if_neg (by rw [isT_mk]; decide), if_neg (by rw [isT_mk]; decide), if_pos (by rw [isT_mk]; decide), pass_mk (by decide), h1]
    rfl
  | .iff p l r eq t .none, o, mk, mk', n, rest, h, hn, hs => by
    obtain ⟨n, rfl⟩ : ∃ k, n = k + 1 := ⟨n - 1, by omega⟩
    simp only [Sm.bk, Els.bk] at h
    obtain ⟨hc, ho, mk1, hb, rfl⟩ := h
    simp only [tkSm, tkEl, List.length_cons, List.length_append, List.length_nil] at hn
    have e : kT (tkSm (.iff p l r eq t .none)) ++ rest = mkT (1, if_) :: (kT (tkC l r eq) ++ mkT (3, [123]) :: (kT (tkSms t) ++ mkT (3, [125]) :: rest)) := by simp [tkSm, tkEl, kT]
    obtain ⟨m, rfl⟩ : ∃ k, n = k + 1 := ⟨n - 1, by omega⟩
    have h1 := block_back (n := m) (nm := nm) (mk := mk) (mk' := mk') (b := t) ho (fun rest hk hst => sms_back t (o + 1) mk mk' m rest hb (by omega) hk hst) rest
    have h0 := cond_back (n := m + 1) eq hc rfl (kT (tkSms t) ++ mkT (3, [125]) :: rest) (by omega)
    rw [e]
    rw [stmtS]
    rw [if_neg (by rw [nameS_word (by decide)]; decide), if_neg (by rw [isT_mk]; decide), if_neg (by rw [isT_mk]; decide), if_neg (by rw [isT_mk]; decide), if_neg (by rw [isT_mk]; decide), if_neg (by rw [isT_mk]; decide), if_pos (by rw [isT_mk]; decide), pass_mk (by decide), h0]
    simp only [h1]
    rw [if_neg (by rw [hs.2]; decide)]
    rfl
  | .iff p l r eq t (.some q b2), o, mk, mk', n, rest, h, hn, hs => by
    obtain ⟨n, rfl⟩ : ∃ k, n = k + 1 := ⟨n - 1, by omega⟩
    simp only [Sm.bk, Els.bk] at h
    obtain ⟨hc, ho, mk1, hb, _, hb2⟩ := h
    simp only [tkSm, tkEl, List.length_cons, List.length_append, List.length_nil] at hn
    have e : kT (tkSm (.iff p l r eq t (.some q b2))) ++ rest = mkT (1, if_) :: (kT (tkC l r eq) ++ mkT (3, [123]) :: (kT (tkSms t) ++ mkT (3, [125]) :: (mkT (1, else_) :: mkT (3, [123]) :: (kT (tkSms b2) ++ mkT (3, [125]) :: rest)))) := by simp [tkSm, tkEl, kT]
    obtain ⟨m, rfl⟩ : ∃ k, n = k + 1 := ⟨n - 1, by omega⟩
    have h1 := block_back (n := m) (nm := nm) (mk := mk) (mk' := mk1) (b := t) ho (fun rest hk hst => sms_back t (o + 1) mk mk1 m rest hb (by omega) hk hst) (mkT (1, else_) :: mkT (3, [123]) :: (kT (tkSms b2) ++ mkT (3, [125]) :: rest))
    have h2 := block_back (n := m) (nm := nm) (mk := mk1) (mk' := mk') (b := b2) ho (fun rest hk hst => sms_back b2 (o + 1) mk1 mk' m rest hb2 (by omega) hk hst) rest
    have h0 := cond_back (n := m + 1) eq hc rfl (kT (tkSms t) ++ mkT (3, [125]) :: (mkT (1, else_) :: mkT (3, [123]) :: (kT (tkSms b2) ++ mkT (3, [125]) :: rest))) (by omega)
    rw [e]
    rw [stmtS]
    rw [if_neg (by rw [nameS_word (by decide)]; decide), if_neg (by rw [isT_mk]; decide), if_neg (by rw [isT_mk]; decide), if_neg (by rw [isT_mk]; decide), if_neg (by rw [isT_mk]; decide), if_neg (by rw [isT_mk]; decide), if_pos (by rw [isT_mk]; decide), pass_mk (by decide), h0]
    simp only [h1]
    rw [if_pos (by rw [isT_mk]; decide), pass_mk (by decide), h2]
    rfl
  | .whil p l r eq b, o, mk, mk', n, rest, h, hn, hs => by
    obtain ⟨n, rfl⟩ : ∃ k, n = k + 1 := ⟨n - 1, by omega⟩
    simp only [Sm.bk] at h
    obtain ⟨hc, ho, hb⟩ := h
    simp only [tkSm, List.length_cons, List.length_append, List.length_nil] at hn
    have e : kT (tkSm (.whil p l r eq b)) ++ rest = mkT (1, while_) :: (kT (tkC l r eq) ++ mkT (3, [123]) :: (kT (tkSms b) ++ mkT (3, [125]) :: rest)) := by simp [tkSm, kT]
    obtain ⟨m, rfl⟩ : ∃ k, n = k + 1 := ⟨n - 1, by omega⟩
    have h1 := block_back (n := m) (nm := nm) (mk := mk) (mk' := mk') (b := b) ho (fun rest hk hst => sms_back b (o + 1) mk mk' m rest hb (by omega) hk hst) rest
    have h0 := cond_back (n := m + 1) eq hc rfl (kT (tkSms b) ++ mkT (3, [125]) :: rest) (by omega)
    rw [e]
    rw [stmtS]
    rw [if_neg (by rw [nameS_word (by decide)]; decide), if_neg (by rw [isT_mk]; decide), if_neg (by rw [isT_mk]; decide), if_neg (by rw [isT_mk]; decide), if_neg (by rw [isT_mk]; decide), if_neg (by rw [isT_mk]; decide), if_neg (by rw [isT_mk]; decide), if_pos (by rw [isT_mk]; decide), pass_mk (by decide), h0]
    simp only [h1]
    rfl
theorem sms_back {nm : Nms} : ∀ (s : Sms) (o : Nat) (mk mk' : Nms) (n : Nat) (rest : List Tok), s.bk nm o mk mk' → 4 * (tkSms s).length + 5 ≤ n → (hereT rest).kind ≠ 1 → stops rest → rowS n nm mk o (kT (tkSms s) ++ rest) = .ok (s.no, mk', rest)
  | .nil, o, mk, mk', n, rest, h, hn, hk, hs => by
    obtain ⟨n, rfl⟩ : ∃ k, n = k + 1 := ⟨n - 1, by omega⟩
    simp only [Sms.bk] at h
    subst h
    have e : kT (tkSms .nil) ++ rest = rest := rfl
    rw [e]
    simp only [rowS]
    rw [if_pos hk]
    rfl
  | .cons s r, o, mk, mk', n, rest, h, hn, hk, hs => by
    obtain ⟨n, rfl⟩ : ∃ k, n = k + 1 := ⟨n - 1, by omega⟩
    simp only [Sms.bk] at h
    obtain ⟨mk1, h1, h2⟩ := h
    have hp := tkSm_pos s
    simp only [tkSms, List.length_append] at hn
    have e : kT (tkSms (.cons s r)) ++ rest = kT (tkSm s) ++ (kT (tkSms r) ++ rest) := by simp only [tkSms, kT_app, List.append_assoc]
    have hst : stops (kT (tkSms r) ++ rest) := by
      cases r with
      | nil => exact hs
      | cons s2 r2 =>
        simp only [Sms.bk] at h2
        obtain ⟨mk2, h3, _⟩ := h2
        simp only [tkSms, kT_app, List.append_assoc]
        exact (stops_sm s2 h3 _).1
    have hk1 := (stops_sm s h1 (kT (tkSms r) ++ rest)).2
    have e1 := sm_back s o mk mk1 n (kT (tkSms r) ++ rest) h1 (by omega) hst
    have e2 := sms_back r o mk1 mk' n rest h2 (by omega) hk hs
    rw [e]
    rw [rowS]
    rw [if_neg (by rw [hk1]; simp), e1]
    simp only [e2]
    rfl
theorem bl_back {nm : Nms} : ∀ (s : Bls) (o : Nat) (mk mk' : Nms) (n : Nat) (rest : List Tok), s.bk nm o mk mk' → 4 * (tkBl s).length + 1 ≤ n → stops rest → orS n nm mk o (kT (tkBl s) ++ rest) = .ok (s.no, mk', rest)
  | .nil, o, mk, mk', n, rest, h, hn, hs => by
    obtain ⟨n, rfl⟩ : ∃ k, n = k + 1 := ⟨n - 1, by omega⟩
    simp only [Bls.bk] at h
    subst h
    have e : kT (tkBl .nil) ++ rest = rest := rfl
    rw [e]
    simp only [orS]
    rw [if_neg (by rw [hs.1]; decide)]
    rfl
  | .cons p b r, o, mk, mk', n, rest, h, hn, hs => by
    obtain ⟨n, rfl⟩ : ∃ k, n = k + 1 := ⟨n - 1, by omega⟩
    simp only [Bls.bk] at h
    obtain ⟨ho, mk1, hb, hr⟩ := h
    simp only [tkBl, List.length_cons, List.length_append] at hn
    have e : kT (tkBl (.cons p b r)) ++ rest = mkT (1, or_) :: mkT (3, [123]) :: (kT (tkSms b) ++ mkT (3, [125]) :: (kT (tkBl r) ++ rest)) := by simp [tkBl, kT]
    obtain ⟨m, rfl⟩ : ∃ k, n = k + 1 := ⟨n - 1, by omega⟩
    have h1 := block_back (n := m) (nm := nm) (mk := mk) (mk' := mk1) (b := b) ho (fun rest hk hst => sms_back b (o + 1) mk mk1 m rest hb (by omega) hk hst) (kT (tkBl r) ++ rest)
    have h2 := bl_back r o mk1 mk' (m + 1) rest hr (by omega) hs
    rw [e]
    rw [orS]
    rw [if_pos (by rw [isT_mk]; decide), pass_mk (by decide), h1]
    simp only [h2]
    rfl
end
end Go.Proofs.YtlklijpjacmgpaaGreatDoor

namespace Go.Proofs.YtlklijpjacmgpaaGreatDoor
open Go
set_option linter.unusedVariables false
set_option linter.unusedSimpArgs false
set_option exponentiation.threshold 5000

theorem must_gn {x : List UInt8} {r r1 : List Tok} (g : GN r) (h : mustS x r = .ok r1) : GN r1 := by
  unfold mustS at h
  split at h
  · cases h
    exact g.pass
  · cases h
theorem into_gn {x : List UInt8} {o : Nat} {r r1 : List Tok} (g : GN r) (h : intoS x o r = .ok r1) : GN r1 ∧ o < 16 := by
  unfold intoS at h
  split at h
  · cases h
  · split at h
    · cases h
    · cases h
      exact ⟨g.pass, by omega⟩
theorem nameW {r : List Tok} (g : GN r) (h : nameS r = true) : NmW (hereT r).text := by
  refine ⟨g.here (nameS_kind h), ?_⟩
  simp only [nameS, Bool.and_eq_true, Bool.not_eq_true'] at h
  exact h.2
theorem cond_bk {n : Nat} {nm : Nms} {o : Nat} {r : List Tok} {c : Nd × Nd × Bool} {r1 : List Tok} (ho : o ≤ 16) (g : Good r) (gn : GN r) (h : condS n nm o r = .ok (c, r1)) : CdOk nm o c.1 c.2.1 ∧ GN r1 := by
  simp only [condS] at h
  split at h
  · cases h
  · rename_i a r2 h1
    have q1 := (ex_len nm n).su g h1
    have e1 := (ex_bk nm n).su ho g gn h1
    split at h
    · split at h
      · cases h
      · rename_i b r3 h2
        cases h
        have e2 := (ex_bk nm n).su ho q1.1.pass e1.2.pass h2
        exact ⟨⟨e1.1.1, e2.1.1, e1.1.2, e2.1.2⟩, e2.2⟩
    · split at h
      · cases h
      · rename_i r3 h2
        have q2 := must_len q1.1 h2
        have g2 := must_gn e1.2 h2
        split at h
        · cases h
        · rename_i b r4 h3
          cases h
          have e2 := (ex_bk nm n).su ho q2.1 g2 h3
          exact ⟨⟨e1.1.1, e2.1.1, e1.1.2, e2.1.2⟩, e2.2⟩
theorem assign_bk {n : Nat} {nm mk : Nms} {o : Nat} {r : List Tok} {s : Sm} {r1 : List Tok} (ho : o ≤ 16) (g : Good r) (gn : GN r) (hn : nameS r = true) (h : assignS n nm o r = .ok (s, r1)) : s.bk nm o mk mk ∧ GN r1 := by
  have hw := nameW gn hn
  simp only [assignS] at h
  split at h
  · cases h
  · rename_i v hv
    split at h
    · cases h
    · rename_i r2 h2
      have q2 := must_len g.pass h2
      have g2 := must_gn gn.pass h2
      split at h
      · split at h
        · cases h
        · rename_i r3 h3
          cases h
          exact ⟨by simp only [Sm.bk]; exact ⟨hw, hv, trivial⟩, must_gn g2.pass h3⟩
      · split at h
        · cases h
        · rename_i a r3 h3
          have q3 := (ex_len nm n).su q2.1 h3
          have e3 := (ex_bk nm n).su ho q2.1 g2 h3
          split at h
          · cases h
          · rename_i r4 h4
            cases h
            exact ⟨by simp only [Sm.bk]; exact ⟨hw, hv, e3.1.1, e3.1.2, trivial⟩, must_gn e3.2 h4⟩
theorem mark_bk {p : Pl} {nm mk mk1 : Nms} {o : Nat} {r : List Tok} {s : Sm} {r1 : List Tok} (gn : GN r) (h : markS p mk r = .ok (s, mk1, r1)) : s.bk nm o mk mk1 ∧ GN r1 := by
  unfold markS at h
  split at h
  · cases h
  · rename_i hn
    have hw := nameW gn (by simpa using hn)
    split at h
    · cases h
    · rename_i hs
      split at h
      · cases h
      · rename_i hc
        split at h
        · cases h
        · rename_i r2 h2
          cases h
          exact ⟨by simp only [Sm.bk]; exact ⟨hw, by simpa using hs, by simpa using hc, trivial⟩, must_gn gn.pass h2⟩
structure StBk (n : Nat) (nm : Nms) : Prop where
  row : ∀ {mk o r l mk1 r1}, Good r → GN r → o ≤ 16 → rowS n nm mk o r = .ok (l, mk1, r1) → l.bk nm o mk mk1 ∧ GN r1
  st : ∀ {mk o r s mk1 r1}, Good r → GN r → o ≤ 16 → stmtS n nm mk o r = .ok (some s, mk1, r1) → s.bk nm o mk mk1 ∧ GN r1
  or : ∀ {mk o r l mk1 r1}, Good r → GN r → o ≤ 16 → orS n nm mk o r = .ok (l, mk1, r1) → l.bk nm o mk mk1 ∧ GN r1
  bl : ∀ {mk o r l mk1 r1}, Good r → GN r → o ≤ 16 → blockS n nm mk o r = .ok (l, mk1, r1) → (o < 16 ∧ l.bk nm (o + 1) mk mk1) ∧ GN r1
theorem st_bk (nm : Nms) : ∀ n, StBk n nm
  | 0 => ⟨fun _ _ _ h => by simp [rowS] at h, fun _ _ _ h => by simp [stmtS] at h, fun _ _ _ h => by simp [orS] at h, fun _ _ _ h => by simp [blockS] at h⟩
  | n + 1 => by
    have ih := st_bk nm n
    have il := st_len nm n
    refine ⟨?_, ?_, ?_, ?_⟩
    · intro mk o r l mk1 r1 g gn ho h
      simp only [rowS] at h
      split at h
      · cases h
        exact ⟨by simp only [Sms.bk], gn⟩
      · split at h
        · cases h
        · rename_i mk2 r2 h1
          cases h
          obtain ⟨rfl, rfl⟩ := il.no g h1
          exact ⟨by simp only [Sms.bk], gn⟩
        · rename_i s mk2 r2 h1
          have q1 := il.st g h1
          have e1 := ih.st g gn ho h1
          split at h
          · cases h
          · rename_i l2 mk3 r3 h2
            cases h
            have e2 := ih.row q1.1 e1.2 ho h2
            exact ⟨by simp only [Sms.bk]; exact ⟨_, e1.1, e2.1⟩, e2.2⟩
    · intro mk o r s mk1 r1 g gn ho h
      simp only [stmtS] at h
      split at h
      · rename_i hn
        split at h
        · cases h
        · rename_i s2 r2 h1
          cases h
          exact assign_bk ho g gn hn h1
      · split at h
        · split at h
          · cases h
          · rename_i r2 h1
            cases h
            exact ⟨by simp only [Sm.bk], must_gn gn.pass h1⟩
        · split at h
          · split at h
            · cases h
            · rename_i r2 h1
              cases h
              exact ⟨by simp only [Sm.bk], must_gn gn.pass h1⟩
          · split at h
            · split at h
              · cases h
              · rename_i s2 mk2 r2 h1
                cases h
                exact mark_bk gn.pass h1
            · split at h
              · split at h
                · cases h
                · rename_i b mk2 r2 h1
                  have q1 := il.bl g.pass h1
                  have e1 := ih.bl g.pass gn.pass ho h1
                  split at h
                  · cases h
                  · rename_i bs mk3 r3 h2
                    cases h
                    have e2 := ih.or q1.1 e1.2 ho h2
                    exact ⟨by simp only [Sm.bk]; exact ⟨e1.1.1, _, e1.1.2, e2.1⟩, e2.2⟩
              · split at h
                · split at h
                  · cases h
                  · rename_i b mk2 r2 h1
                    cases h
                    have e1 := ih.bl g.pass gn.pass ho h1
                    exact ⟨by simp only [Sm.bk]; exact e1.1, e1.2⟩
                · split at h
                  · split at h
                    · cases h
                    · rename_i c r2 h1
                      have q1 := cond_len g.pass h1
                      have e1 := cond_bk ho g.pass gn.pass h1
                      split at h
                      · cases h
                      · rename_i b mk2 r3 h2
                        have q2 := il.bl q1.1 h2
                        have e2 := ih.bl q1.1 e1.2 ho h2
                        split at h
                        · split at h
                          · cases h
                          · rename_i b2 mk3 r4 h3
                            cases h
                            have e3 := ih.bl q2.1.pass e2.2.pass ho h3
                            exact ⟨by simp only [Sm.bk, Els.bk]; exact ⟨e1.1, e2.1.1, _, e2.1.2, e3.1⟩, e3.2⟩
                        · cases h
                          exact ⟨by simp only [Sm.bk, Els.bk]; exact ⟨e1.1, e2.1.1, _, e2.1.2, rfl⟩, e2.2⟩
                  · split at h
                    · split at h
                      · cases h
                      · rename_i c r2 h1
                        have q1 := cond_len g.pass h1
                        have e1 := cond_bk ho g.pass gn.pass h1
                        split at h
                        · cases h
                        · rename_i b mk2 r3 h2
                          cases h
                          have e2 := ih.bl q1.1 e1.2 ho h2
                          exact ⟨by simp only [Sm.bk]; exact ⟨e1.1, e2.1⟩, e2.2⟩
                    · cases h
    · intro mk o r l mk1 r1 g gn ho h
      simp only [orS] at h
      split at h
      · split at h
        · cases h
        · rename_i b mk2 r2 h1
          have q1 := il.bl g.pass h1
          have e1 := ih.bl g.pass gn.pass ho h1
          split at h
          · cases h
          · rename_i bs mk3 r3 h2
            cases h
            have e2 := ih.or q1.1 e1.2 ho h2
            exact ⟨by simp only [Bls.bk]; exact ⟨e1.1.1, _, e1.1.2, e2.1⟩, e2.2⟩
      · cases h
        exact ⟨by simp only [Bls.bk], gn⟩
    · intro mk o r l mk1 r1 g gn ho h
      simp only [blockS] at h
      split at h
      · cases h
      · rename_i r2 h1
        have q1 := into_len g h1
        have g1 := into_gn gn h1
        split at h
        · cases h
        · rename_i l2 mk2 r3 h2
          have q2 := il.row q1.1 h2
          have e2 := ih.row q1.1 g1.1 (by omega) h2
          split at h
          · cases h
          · rename_i r4 h3
            cases h
            exact ⟨⟨g1.2, e2.1⟩, must_gn e2.2 h3⟩
end Go.Proofs.YtlklijpjacmgpaaGreatDoor

namespace Go.Proofs.YtlklijpjacmgpaaGreatDoor
open Go
set_option linter.unusedVariables false
set_option linter.unusedSimpArgs false
set_option exponentiation.threshold 5000

def BgOk (nm : Nms) (g : Bg) : Prop := NmW g.name ∧ shortS g.name = true ∧ varS nm g.name = none ∧ nm.length < 8 ∧ (g.any = true → g.neg = false ∧ g.mag = 0) ∧ (g.any = false → g.mag < 2 ^ 1024 ∧ (g.neg = true → g.mag ≠ 0))
def BgsOk : List Bg → List Bg → Prop
  | _, [] => True
  | bs, x :: r => BgOk (bs.map Bg.name) x ∧ BgsOk (bs ++ [x]) r
def tkB (g : Bg) : List Kt := (1, g.name) :: (if g.any then [] else (3, [61]) :: ((if g.neg && decide (g.mag ≠ 0) then [(3, [45])] else []) ++ [(2, decText g.mag)]))
def tkBg (i : Nat) (g : Bg) : List Kt := (if i = 0 then [] else [(3, [44])]) ++ tkB g
def tkBgs : Nat → List Bg → List Kt
  | _, [] => []
  | i, g :: r => tkBg i g ++ tkBgs (i + 1) r
def tkP (g : Pg) : List Kt := (1, vars_) :: (tkBgs 0 g.begins ++ (3, [59]) :: tkSms g.body)
/-! text -/
theorem tx_bg {nm : Nms} {acc : List UInt8} {l : List Kt} (ha : TxW acc l) (i : Nat) {g : Bg} (h : BgOk nm g) : TxW (acc ++ bgS i g) (l ++ tkBg i g) := by
  obtain ⟨hn, _, _, _, hy, hv⟩ := h
  have h1 : TxS (acc ++ ((if i = 0 then [] else [44]) ++ [32])) (l ++ (if i = 0 then [] else [(3, [44])])) := by
    by_cases hi : i = 0
    · rw [if_pos hi, if_pos hi]
      exact (ha.appH tx_sp).cast (by simp) (by simp)
    · rw [if_neg hi, if_neg hi]
      exact (ha.appH ((tx_sign (x := [44]) (by decide)).app tx_sp.s)).cast (by simp) (by simp)
  have h2 := h1.appW (tx_name hn.1)
  cases hany : g.any with
  | true =>
    have e1 : acc ++ bgS i g = acc ++ ((if i = 0 then [] else [44]) ++ [32]) ++ g.name := by simp [bgS, hany]
    have e2 : l ++ tkBg i g = l ++ (if i = 0 then [] else [(3, [44])]) ++ [(1, g.name)] := by simp [tkBg, tkB, hany]
    rw [e1, e2]
    exact h2
  | false =>
    have hm := (hv hany).1
    have g1 : TxH [32, 61, 32] [(3, [61])] := (tx_sp.app (tx_sg (x := [61]) (by decide))).app tx_sp.s
    have h3 := h2.appH g1
    have h4 : TxW (sgT g.neg g.mag) ((if g.neg && decide (g.mag ≠ 0) then [(3, [45])] else []) ++ [(2, decText g.mag)]) := by
      unfold sgT
      cases g.neg && decide (g.mag ≠ 0) with
      | true => exact (tx_sg (x := [45]) (by decide)).appW (tx_num hm)
      | false => exact tx_num hm
    have h5 := h3.appW h4
    have e1 : acc ++ bgS i g = acc ++ ((if i = 0 then [] else [44]) ++ [32]) ++ g.name ++ [32, 61, 32] ++ sgT g.neg g.mag := by simp [bgS, hany]
    have e2 : l ++ tkBg i g = l ++ (if i = 0 then [] else [(3, [44])]) ++ [(1, g.name)] ++ [(3, [61])] ++ ((if g.neg && decide (g.mag ≠ 0) then [(3, [45])] else []) ++ [(2, decText g.mag)]) := by simp [tkBg, tkB, hany]
    rw [e1, e2]
    exact h5
theorem tx_bgs : ∀ (gs bs : List Bg) (i : Nat) {acc : List UInt8} {l : List Kt}, TxW acc l → BgsOk bs gs → TxW (acc ++ bgsS i gs) (l ++ tkBgs i gs)
  | [], bs, i, acc, l, ha, h => by simpa [bgsS, tkBgs] using ha
  | g :: r, bs, i, acc, l, ha, h => by
    have h1 := tx_bgs r (bs ++ [g]) (i + 1) (tx_bg ha i h.1) h.2
    simpa [bgsS, tkBgs] using h1
theorem tx_pg {g : Pg} {mk : Nms} (hb : BgsOk [] g.begins) (hs : g.body.bk (g.begins.map Bg.name) 0 [] mk) : TxS (pgS g) (tkP g) := by
  have h1 := tx_bgs g.begins [] 0 (tx_word (x := vars_) (by decide)) hb
  have h2 := (h1.appH tx_semi).app (tx_sms g.body 0 [] mk [] hs TxS.nil)
  exact h2.cast (by simp [pgS, dcS]) (by simp [tkP])
/-! reading -/
theorem num_dec (v : Nat) : numS (decText v) = v := digVal_decText v
theorem declare_back {nm : Nms} {g : Bg} (h : BgOk nm g) {rest : List Tok} (hr : isT [61] rest = false) : declareS nm (kT (tkB g) ++ rest) = .ok (g, rest) := by
  obtain ⟨hn, hs, hv, hl, hy, hm⟩ := h
  obtain ⟨name, any, neg, mag⟩ := g
  simp only at hn hs hv hy hm
  cases any with
  | true =>
    obtain ⟨rfl, rfl⟩ := hy rfl
    have e : kT (tkB ⟨name, true, false, 0⟩) ++ rest = mkT (1, name) :: rest := rfl
    have ht : (hereT (mkT (1, name) :: rest)).text = name := rfl
    rw [e]
    unfold declareS
    rw [if_neg (by rw [nameS_mk hn.2]; decide), ht, if_neg (by rw [hs]; decide), if_neg (by rw [hv]; simp), if_neg (by omega), pass_mk (a := (1, name)) (by simp), if_neg (by rw [hr]; decide)]
  | false =>
    obtain ⟨hm1, hm2⟩ := hm rfl
    cases hd : (neg && decide (mag ≠ 0)) with
    | true =>
      have hne : neg = true ∧ mag ≠ 0 := by simpa using hd
      obtain ⟨rfl, hne⟩ := hne
      have e : kT (tkB ⟨name, false, true, mag⟩) ++ rest = mkT (1, name) :: mkT (3, [61]) :: mkT (3, [45]) :: mkT (2, decText mag) :: rest := by simp [tkB, hne, kT]
      have ht : (hereT (mkT (1, name) :: mkT (3, [61]) :: mkT (3, [45]) :: mkT (2, decText mag) :: rest)).text = name := rfl
      have hk : (hereT (mkT (2, decText mag) :: rest)).kind = 2 := rfl
      have hx : (hereT (mkT (2, decText mag) :: rest)).text = decText mag := rfl
      rw [e]
      unfold declareS
      rw [if_neg (by rw [nameS_mk hn.2]; decide), ht, if_neg (by rw [hs]; decide), if_neg (by rw [hv]; simp), if_neg (by omega), pass_mk (a := (1, name)) (by simp), if_pos (by rw [isT_mk]; decide), pass_mk (a := (3, [61])) (by simp), if_pos (by rw [isT_mk]; decide), pass_mk (a := (3, [45])) (by simp), if_pos hk, hx, num_dec, pass_mk (a := (2, decText mag)) (by simp)]
      simp [hne]
    | false =>
      have hneg : neg = false := by
        cases neg with
        | false => rfl
        | true =>
          have := hm2 rfl
          simp [this] at hd
      subst hneg
      have e : kT (tkB ⟨name, false, false, mag⟩) ++ rest = mkT (1, name) :: mkT (3, [61]) :: mkT (2, decText mag) :: rest := by simp [tkB, kT]
      have ht : (hereT (mkT (1, name) :: mkT (3, [61]) :: mkT (2, decText mag) :: rest)).text = name := rfl
      have hk : (hereT (mkT (2, decText mag) :: rest)).kind = 2 := rfl
      have hx : (hereT (mkT (2, decText mag) :: rest)).text = decText mag := rfl
      rw [e]
      unfold declareS
      rw [if_neg (by rw [nameS_mk hn.2]; decide), ht, if_neg (by rw [hs]; decide), if_neg (by rw [hv]; simp), if_neg (by omega), pass_mk (a := (1, name)) (by simp), if_pos (by rw [isT_mk]; decide), pass_mk (a := (3, [61])) (by simp), if_neg (by rw [isT_mk]; simp), if_pos hk, hx, num_dec, pass_mk (a := (2, decText mag)) (by simp)]
theorem no_eq : ∀ (gs : List Bg) (i : Nat) (rest : List Tok), 0 < i → isT [61] (kT (tkBgs i gs) ++ mkT (3, [59]) :: rest) = false
  | [], i, rest, hi => by rw [show kT (tkBgs i []) ++ mkT (3, [59]) :: rest = mkT (3, [59]) :: rest from rfl, isT_mk]; decide
  | g :: r, i, rest, hi => by
    simp only [tkBgs, tkBg]
    rw [if_neg (by omega)]
    exact isT_ne (by decide) 3 _
theorem decls_back : ∀ (gs bs : List Bg) (n : Nat) (rest : List Tok), BgsOk bs gs → gs.length + 1 ≤ n → declsS n bs (kT (tkBgs bs.length gs) ++ mkT (3, [59]) :: rest) = .ok (bs ++ gs, rest)
  | [], bs, n, rest, h, hn => by
    obtain ⟨n, rfl⟩ : ∃ k, n = k + 1 := ⟨n - 1, by omega⟩
    have e : kT (tkBgs bs.length []) ++ mkT (3, [59]) :: rest = mkT (3, [59]) :: rest := rfl
    rw [e, declsS, if_pos (by rw [isT_mk]; decide), pass_mk (by decide), List.append_nil]
  | g :: r, bs, n, rest, h, hn => by
    obtain ⟨n, rfl⟩ : ∃ k, n = k + 1 := ⟨n - 1, by omega⟩
    simp only [List.length_cons] at hn
    have ih := decls_back r (bs ++ [g]) n rest h.2 (by omega)
    have hne := no_eq r (bs.length + 1) rest (by omega)
    have hd := declare_back h.1 hne
    rw [List.length_append, List.length_singleton] at ih
    rw [List.append_assoc, List.singleton_append] at ih
    have hname : g.name ≠ [59] := nm_ne h.1.1.1 (by decide) (by decide)
    by_cases hb : bs = []
    · subst hb
      have e : kT (tkBgs 0 (g :: r)) ++ mkT (3, [59]) :: rest = kT (tkB g) ++ (kT (tkBgs 1 r) ++ mkT (3, [59]) :: rest) := by simp only [tkBgs, tkBg, if_true, List.nil_append, kT_app, List.append_assoc]
      show declsS (n + 1) [] (kT (tkBgs 0 (g :: r)) ++ mkT (3, [59]) :: rest) = _
      rw [e, declsS, if_neg (by rw [show kT (tkB g) ++ (kT (tkBgs 1 r) ++ mkT (3, [59]) :: rest) = mkT (1, g.name) :: _ from rfl, isT_mk]; simp [hname]), if_pos rfl]
      have hd' : declareS [] (kT (tkB g) ++ (kT (tkBgs 1 r) ++ mkT (3, [59]) :: rest)) = .ok (g, kT (tkBgs 1 r) ++ mkT (3, [59]) :: rest) := hd
      rw [hd']
      exact ih
    · have hi : bs.length ≠ 0 := fun e => hb (List.length_eq_zero_iff.1 e)
      have e : kT (tkBgs bs.length (g :: r)) ++ mkT (3, [59]) :: rest = mkT (3, [44]) :: (kT (tkB g) ++ (kT (tkBgs (bs.length + 1) r) ++ mkT (3, [59]) :: rest)) := by
        simp only [tkBgs, tkBg]
        rw [if_neg hi]
        simp [kT]
      rw [e, declsS, if_neg (by rw [isT_mk]; decide), if_neg hb, must3]
      simp only [hd]
      exact ih
theorem tkBgs_len : ∀ (gs : List Bg) (i : Nat), gs.length ≤ (tkBgs i gs).length
  | [], i => Nat.le_refl _
  | g :: r, i => by
    have := tkBgs_len r (i + 1)
    simp only [tkBgs, tkBg, tkB, List.length_append, List.length_cons]
    omega
theorem prog_back {g : Pg} {mk : Nms} {n : Nat} (hb : BgsOk [] g.begins) (hs : g.body.bk (g.begins.map Bg.name) 0 [] mk) (hn : 4 * (tkP g).length + 5 ≤ n) : progS n (kT (tkP g ++ [(0, [])])) = .ok g.no := by
  simp only [tkP, List.length_cons, List.length_append] at hn
  have hl := tkBgs_len g.begins 0
  have e : kT (tkP g ++ [(0, [])]) = mkT (1, vars_) :: (kT (tkBgs ([] : List Bg).length g.begins) ++ mkT (3, [59]) :: (kT (tkSms g.body) ++ [mkT (0, [])])) := by simp [tkP, kT]
  have h1 := decls_back g.begins [] n (kT (tkSms g.body) ++ [mkT (0, [])]) hb (by omega)
  have h2 := sms_back g.body 0 [] mk n [mkT (0, [])] hs (by omega) (by show ¬ ((0 : Int) = 1); decide) ⟨by rw [isT_mk]; decide, by rw [isT_mk]; decide⟩
  rw [e, progS, must_back (Or.inr rfl)]
  simp only [h1, List.nil_append, h2]
  rw [if_pos (show (hereT [mkT (0, [])]).kind = 0 from rfl)]
  rfl
/-! what is read fits -/
theorem declare_bk {nm : Nms} {r r1 : List Tok} {g : Bg} (hg : Good r) (gn : GN r) (h : declareS nm r = .ok (g, r1)) : BgOk nm g ∧ GN r1 := by
  unfold declareS at h
  split at h
  · cases h
  · rename_i hn
    have hw := nameW gn (by simpa using hn)
    split at h
    · cases h
    · rename_i hs
      split at h
      · cases h
      · rename_i hv
        split at h
        · cases h
        · rename_i h8
          have hs' : shortS (hereT r).text = true := by simpa using hs
          have hv' : varS nm (hereT r).text = none := by simpa using hv
          have num : ∀ {r : List Tok}, Good r → (hereT r).kind = 2 → numS (hereT r).text < 2 ^ 1024 := by
            intro r hg hk
            obtain ⟨v, hv, e⟩ := here_num hg hk
            rw [e, num_dec]
            exact hv
          split at h
          · split at h
            · split at h
              · rename_i hk
                cases h
                exact ⟨⟨hw, hs', hv', by omega, (fun h => by cases h), fun _ => ⟨num hg.pass.pass.pass hk, by simp⟩⟩, gn.pass.pass.pass.pass⟩
              · cases h
            · split at h
              · rename_i hk
                cases h
                exact ⟨⟨hw, hs', hv', by omega, (fun h => by cases h), fun _ => ⟨num hg.pass.pass hk, by simp⟩⟩, gn.pass.pass.pass⟩
              · cases h
          · cases h
            exact ⟨⟨hw, hs', hv', by omega, fun _ => ⟨rfl, rfl⟩, fun h => by cases h⟩, gn.pass⟩
theorem decls_bk : ∀ (n : Nat) (bs bs2 : List Bg) (r r2 : List Tok), Good r → GN r → declsS n bs r = .ok (bs2, r2) → ∃ l, bs2 = bs ++ l ∧ BgsOk bs l ∧ GN r2
  | 0, bs, bs2, r, r2, hg, gn, h => by simp [declsS] at h
  | n + 1, bs, bs2, r, r2, hg, gn, h => by
    have step : ∀ {r1 r3 : List Tok} {b : Bg}, Good r1 → GN r1 → declareS (bs.map Bg.name) r1 = .ok (b, r3) → declsS n (bs ++ [b]) r3 = .ok (bs2, r2) → ∃ l, bs2 = bs ++ l ∧ BgsOk bs l ∧ GN r2 := by
      intro r1 r3 b g1 n1 h1 h2
      have q1 := decl_len g1 h1
      have e1 := declare_bk g1 n1 h1
      obtain ⟨l, h3, h4, h5⟩ := decls_bk n (bs ++ [b]) bs2 r3 r2 q1.1 e1.2 h2
      exact ⟨b :: l, by rw [h3]; simp, ⟨e1.1, h4⟩, h5⟩
    simp only [declsS] at h
    split at h
    · cases h
      exact ⟨[], by simp, trivial, gn.pass⟩
    · split at h
      · rename_i hb
        subst hb
        split at h
        · cases h
        · rename_i b r1 h1
          exact step hg gn h1 h
      · split at h
        · cases h
        · rename_i r1 h1
          have q1 := must_len hg h1
          have g1 := must_gn gn h1
          split at h
          · cases h
          · rename_i b r3 h2
            exact step q1.1 g1 h2 h
theorem prog_bk {n : Nat} {r : List Tok} {g : Pg} (hg : Good r) (gn : GN r) (h : progS n r = .ok g) : BgsOk [] g.begins ∧ ∃ mk, g.body.bk (g.begins.map Bg.name) 0 [] mk := by
  unfold progS at h
  split at h
  · cases h
  · rename_i r1 h1
    have q1 := must_len hg h1
    have g1 := must_gn gn h1
    split at h
    · cases h
    · rename_i bs r2 h2
      have q2 := decls_len _ _ _ _ _ q1.1 h2
      obtain ⟨l, e, e2, g2⟩ := decls_bk _ _ _ _ _ q1.1 g1 h2
      rw [List.nil_append] at e
      subst e
      split at h
      · cases h
      · rename_i l mk r3 h3
        have e3 := (st_bk _ n).row q2.1 g2 (by omega) h3
        split at h
        · cases h
          exact ⟨e2, mk, e3.1⟩
        · cases h
theorem parse_bk {s : List UInt8} {g : Pg} (h : parseS s = .ok g) : BgsOk [] g.begins ∧ ∃ mk, g.body.bk (g.begins.map Bg.name) 0 [] mk := by
  unfold parseS at h
  split at h
  · cases h
  · rename_i toks hs
    exact prog_bk (scanS_good hs).1 (scan_names hs) h
/-- LangBack, plain -/
theorem back_read {s : List UInt8} {g : Pg} (h : parseS s = .ok g) (hl : (pgS g).length ≤ 4096) : ∃ g', parseS (pgS g) = .ok g' ∧ pgS g' = pgS g ∧ lnNo (lnS g') = lnNo (lnS g) ∧ g'.begins = g.begins := by
  obtain ⟨hb, mk, hs⟩ := parse_bk h
  obtain ⟨t, h1, h2⟩ := tx_scan (tx_pg hb hs) hl
  have hr : noR t = kT (tkP g ++ [(0, [])]) := by
    have e : ∀ l : List Tok, noR l = kT (l.map Tok.kt) := fun l => by simp [noR, noP, Tok.kt, kT, mkT]
    rw [e, h2]
  have hlen : t.length = (tkP g).length + 1 := by have := congrArg List.length h2; simpa using this
  have h3 := prog_back (n := 8 * t.length + 10) hb hs (by omega)
  rw [← hr, prog_no] at h3
  have h4 : ∃ g', progS (8 * t.length + 10) t = .ok g' ∧ g'.no = g.no := by
    revert h3
    rcases progS (8 * t.length + 10) t with e | g'
    · intro h; cases h
    · intro h; exact ⟨g', rfl, Except.ok.inj h⟩
  obtain ⟨g', h5, h6⟩ := h4
  refine ⟨g', ?_, pg_same h6, lnS_same h6, show g'.no.begins = g.no.begins by rw [h6]⟩
  unfold parseS
  rw [h1]
  exact h5
end Go.Proofs.YtlklijpjacmgpaaGreatDoor
