/- Texts that are read by reckoning: a scanner and a parser that the kernel can run. -/
import Derived.Test.YtlklijpjacmgpaaGreatDoorNC
namespace Go.Proofs.YtlklijpjacmgpaaGreatDoor
open Go
set_option linter.unusedVariables false
set_option linter.unusedSimpArgs false
set_option exponentiation.threshold 5000

def digF : Nat → Nat → List Nat
  | 0, _ => []
  | f + 1, n => if n = 0 then [] else n % 10 :: digF f (n / 10)
theorem digF_eq : ∀ (f n : Nat), n < 10 ^ f → dig 10 n = digF f n
  | 0, n, h => by
    have : n = 0 := by simpa using h
    subst this
    rw [dig_zero]
    rfl
  | f + 1, n, h => by
    by_cases h0 : n = 0
    · subst h0; rw [dig_zero]; rfl
    · rw [dig_pos (by omega) h0, digF_eq f (n / 10) (by rw [Nat.pow_succ] at h; omega)]
      simp [digF, h0]
def decF (n : Nat) : List UInt8 := if n = 0 then [48] else (digF 400 n).reverse.map fun d => UInt8.ofNat (48 + d)
theorem decF_eq {n : Nat} (h : n < 2 ^ 1024) : decText n = decF n := by
  unfold decText decF
  rw [digF_eq 400 n (Nat.lt_of_lt_of_le h (by decide +kernel))]
def tkF : List Nat → TR
  | [] => .ok 0 [] 0
  | c :: r =>
    if cls c = 3 then
      (if 2 ^ 1024 ≤ digVal ((c :: r).takeWhile digit) then .bad 2 else .ok 2 (decF (digVal ((c :: r).takeWhile digit))) ((c :: r).takeWhile digit).length)
    else tk (c :: r)
theorem tkF_eq (l : List Nat) : tk l = tkF l := by
  cases l with
  | nil => rfl
  | cons c r =>
    simp only [tkF]
    by_cases h3 : cls c = 3
    · rw [if_pos h3]
      simp only [tk]
      rw [if_neg (by omega), if_pos h3]
      split
      · rfl
      · rename_i h
        rw [decF_eq (by omega)]
    · rw [if_neg h3]
def scanF : Nat → List Nat → List Nat → Res
  | 0, pre, cs => .bad 0 start
  | n + 1, pre, cs =>
    match skipC false cs with
    | [] => .ok [⟨0, [], along start (pre ++ cs)⟩]
    | c :: r =>
      match tkF (c :: r) with
      | .bad e => .bad e (along start (pre ++ skipped cs))
      | .ok k x m => Res.cons ⟨k, x, along start (pre ++ skipped cs)⟩ (scanF n (pre ++ skipped cs ++ (c :: r).take m) ((c :: r).drop m))
theorem scanF_eq : ∀ (n : Nat) (pre cs : List Nat), scan false n pre cs = scanF n pre cs
  | 0, pre, cs => rfl
  | n + 1, pre, cs => by
    simp only [scan, scanF]
    cases skipC false cs with
    | nil => simp
    | cons c r =>
      simp only [tkF_eq (c :: r)]
      cases tkF (c :: r) with
      | bad e => rfl
      | ok k x m => simp only [scanF_eq n]
/-- a text of ASCII codes -/
def ascT (cs : List Nat) : List UInt8 := cs.map UInt8.ofNat
theorem asc_txt {cs : List Nat} (h : ∀ c ∈ cs, c < 128) : Txt (ascT cs) cs [] := by
  refine ⟨?_, fun c hc => ?_, rfl⟩
  · rw [List.append_nil]
    unfold ascT
    induction cs with
    | nil => rfl
    | cons c r ih =>
      have hc := h c (by simp)
      rw [List.map_cons, List.flatMap_cons, ih (fun d hd => h d (by simp [hd]))]
      unfold enc
      rw [if_pos hc]
      rfl
  · have := h c hc
    unfold okc
    simp
    omega
theorem asc_scan {cs : List Nat} (h : ∀ c ∈ cs, c < 128) (hl : cs.length ≤ 4096) : scanS (ascT cs) = scanF (cs.length + 1) [] cs := by
  rw [scanS_eq (asc_txt h) (by unfold ascT; rw [List.length_map]; exact hl)]
  exact scanF_eq _ _ _
def rep (s : List Nat) : Nat → List Nat
  | 0 => []
  | n + 1 => s ++ rep s n
def limTx (k : Nat) : List Nat := [118, 97, 114, 115, 32, 120, 59, 32] ++ rep [108, 111, 111, 112, 123] k ++ [120, 58, 61] ++ rep [40] (16 - k)
def limOk (k : Nat) : List Nat := limTx k ++ ([49] ++ rep [41] (16 - k)) ++ [59] ++ rep [125] k
def limBad (k : Nat) : List Nat := limTx k ++ [40] ++ ([49] ++ rep [41] (16 - k)) ++ [41, 59] ++ rep [125] k
def shF (x : List UInt8) : Bool := decide (x.length < 16)
theorem shF_eq {x : List UInt8} (h : ∀ b ∈ x, b.toNat < 128) : shortS x = shF x := by
  have hx : x = (x.map UInt8.toNat).flatMap enc := by
    have := (asc_txt (cs := x.map UInt8.toNat) (fun c hc => by
      obtain ⟨b, hb, rfl⟩ := List.mem_map.1 hc
      exact h b hb)).eq
    rw [List.append_nil] at this
    rw [← this]
    unfold ascT
    rw [List.map_map]
    conv => lhs; rw [← List.map_id x]
    apply List.map_congr_left
    intro b _
    simp
  rw [shortS_eq hx (fun c hc => by
    obtain ⟨b, hb, rfl⟩ := List.mem_map.1 hc
    have := h b hb
    unfold okc
    simp
    omega)]
  have h176 : (x.map UInt8.toNat).contains 176 = false := by
    rw [List.contains_eq_any_beq, List.any_eq_false]
    intro c hc
    obtain ⟨b, hb, rfl⟩ := List.mem_map.1 hc
    have := h b hb
    simp
    omega
  rw [h176]
  simp [shF]
def declareF (nm : List (List UInt8)) (r : List Tok) : Except Er (Bg × List Tok) :=
  if nameS r = false then .error (80, (hereT r).at_)
  else if shF (hereT r).text = false then .error (42, (hereT r).at_)
  else if (varS nm (hereT r).text).isSome then .error (82, (hereT r).at_)
  else if 8 ≤ nm.length then .error (2, (hereT r).at_)
  else if isT [61] (passT r) then
    if isT [45] (passT (passT r)) then
      (if (hereT (passT (passT (passT r)))).kind = 2 then .ok (⟨(hereT r).text, false, decide (numS (hereT (passT (passT (passT r)))).text ≠ 0), numS (hereT (passT (passT (passT r)))).text⟩, passT (passT (passT (passT r))))
       else .error (80, (hereT (passT (passT (passT r)))).at_))
    else
      (if (hereT (passT (passT r))).kind = 2 then .ok (⟨(hereT r).text, false, false, numS (hereT (passT (passT r))).text⟩, passT (passT (passT r)))
       else .error (80, (hereT (passT (passT r))).at_))
  else .ok (⟨(hereT r).text, true, false, 0⟩, passT r)
/-- tokens of ASCII texts -/
def Asc (r : List Tok) : Prop := ∀ x ∈ r, ∀ b ∈ x.text, b.toNat < 128
theorem Asc.here {r : List Tok} (h : Asc r) : ∀ b ∈ (hereT r).text, b.toNat < 128 := by
  cases r with
  | nil => intro b hb; simp [hereT] at hb
  | cons x r => exact h x (by simp)
theorem Asc.pass {r : List Tok} (h : Asc r) : Asc (passT r) := by
  cases r with
  | nil => exact h
  | cons x r =>
    simp only [passT]
    split
    · exact h
    · exact fun y hy => h y (by simp [hy])
theorem declareF_eq {nm : List (List UInt8)} {r : List Tok} (h : Asc r) : declareS nm r = declareF nm r := by
  unfold declareS declareF
  rw [shF_eq h.here]
theorem declareF_asc {nm : List (List UInt8)} {r r1 : List Tok} {g : Bg} (h : Asc r) (hd : declareF nm r = .ok (g, r1)) : Asc r1 := by
  unfold declareF at hd
  split at hd
  · cases hd
  split at hd
  · cases hd
  split at hd
  · cases hd
  split at hd
  · cases hd
  split at hd
  · split at hd
    · split at hd
      · cases hd; exact h.pass.pass.pass.pass
      · cases hd
    · split at hd
      · cases hd; exact h.pass.pass.pass
      · cases hd
  · cases hd; exact h.pass
def declsF : Nat → List Bg → List Tok → Except Er (List Bg × List Tok)
  | 0, _, _ => .error (0, start)
  | n + 1, bs, r =>
    if isT [59] r then .ok (bs, passT r)
    else if bs = [] then
      match declareF [] r with
      | .error e => .error e
      | .ok (b, r1) => declsF n [b] r1
    else
      match mustS [44] r with
      | .error e => .error e
      | .ok r1 =>
        match declareF (bs.map Bg.name) r1 with
        | .error e => .error e
        | .ok (b, r2) => declsF n (bs ++ [b]) r2
theorem declsF_eq : ∀ (n : Nat) (bs : List Bg) (r : List Tok), Asc r → declsS n bs r = declsF n bs r
  | 0, bs, r, h => rfl
  | n + 1, bs, r, h => by
    simp only [declsS, declsF]
    split
    · rfl
    · split
      · rw [declareF_eq h]
        cases hd : declareF [] r with
        | error e => rfl
        | ok x =>
          obtain ⟨b, r1⟩ := x
          exact declsF_eq n _ _ (declareF_asc h hd)
      · cases hm : mustS [44] r with
        | error e => rfl
        | ok r1 =>
          have h1 : Asc r1 := by
            unfold mustS at hm
            split at hm
            · cases hm; exact h.pass
            · cases hm
          simp only
          rw [declareF_eq h1]
          cases hd : declareF (bs.map Bg.name) r1 with
          | error e => rfl
          | ok x =>
            obtain ⟨b, r2⟩ := x
            exact declsF_eq n _ _ (declareF_asc h1 hd)
noncomputable def progF (n : Nat) (r : List Tok) : Except Er Pg :=
  match mustS vars_ r with
  | .error e => .error e
  | .ok r1 =>
    match declsF n [] r1 with
    | .error e => .error e
    | .ok (bs, r2) =>
      match rowS n (bs.map Bg.name) [] 0 r2 with
      | .error e => .error e
      | .ok (l, _, r3) => if (hereT r3).kind = 0 then .ok ⟨(hereT r).at_, bs, l⟩ else .error (80, (hereT r3).at_)
theorem progF_eq {n : Nat} {r : List Tok} (h : Asc r) : progS n r = progF n r := by
  unfold progS progF
  cases hm : mustS vars_ r with
  | error e => rfl
  | ok r1 =>
    have h1 : Asc r1 := by
      unfold mustS at hm
      split at hm
      · cases hm; exact h.pass
      · cases hm
    simp only
    rw [declsF_eq _ _ _ h1]
    cases declsF n [] r1 with
    | error e => rfl
    | ok x =>
      obtain ⟨bs, r2⟩ := x
      simp only
      cases rowS n (bs.map Bg.name) [] 0 r2 with
      | error e => rfl
      | ok y => obtain ⟨l, mk, r3⟩ := y; rfl
def ascB (r : List Tok) : Bool := r.all fun x => x.text.all fun b => decide (b.toNat < 128)
theorem ascB_asc {r : List Tok} (h : ascB r = true) : Asc r := by
  intro x hx b hb
  unfold ascB at h
  rw [List.all_eq_true] at h
  have := h x hx
  rw [List.all_eq_true] at this
  simpa using this b hb
/-- what Parse answers to a text of ASCII codes, by reckoning, and whether the text is one -/
noncomputable def parseF (cs : List Nat) : Except Er Pg :=
  match scanF (cs.length + 1) [] cs with
  | .bad n p => .error (n, p)
  | .ok toks => progF (8 * toks.length + 10) toks
def goodF (cs : List Nat) : Bool := cs.all (fun c => decide (c < 128)) && decide (cs.length ≤ 4096) && (match scanF (cs.length + 1) [] cs with
  | .bad _ _ => true
  | .ok toks => ascB toks)
theorem parseF_eq {cs : List Nat} (h : goodF cs = true) : parseS (ascT cs) = parseF cs := by
  unfold goodF at h
  rw [Bool.and_eq_true, Bool.and_eq_true] at h
  obtain ⟨⟨h1, h2⟩, h3⟩ := h
  unfold parseS parseF
  rw [asc_scan (fun c hc => by
    rw [List.all_eq_true] at h1
    simpa using h1 c hc) (by simpa using h2)]
  cases hs : scanF (cs.length + 1) [] cs with
  | bad n p => rfl
  | ok toks =>
    rw [hs] at h3
    exact progF_eq (ascB_asc h3)
def isOk : Except Er Pg → Bool
  | .ok _ => true
  | .error _ => false
def isErr (c n : Nat) : Except Er Pg → Bool
  | .ok _ => false
  | .error (k, p) => decide (k = (c : Int)) && decide (p.b = n)
def hasBegins (n : Nat) : Except Er Pg → Bool
  | .ok g => decide (g.begins.length = n)
  | .error _ => false
def eightTx : List Nat := [118, 97, 114, 115, 32, 97, 44, 32, 98, 44, 32, 99, 44, 32, 100, 44, 32, 101, 44, 32, 102, 44, 32, 103, 44, 32, 104]
def awakeTx : List Nat := [118, 97, 114, 115, 32, 120, 44, 32, 121, 32, 61, 32, 45, 51, 59, 32, 108, 111, 111, 112, 32, 123, 32, 120, 32, 58, 61, 32, 50, 42, 40, 120, 43, 121, 41, 32, 45, 32, 49, 59, 32, 125]
def awk : Sms → Bool
  | .cons (.loop _ (.cons (.set _ v x (some (.two o1 (.two o2 (.num a) (.two o3 (.name i n1) (.name j n2))) (.num b)))) .nil)) .nil => decide (x = [120] ∧ o1 = 45 ∧ o2 = 42 ∧ a = 2 ∧ o3 = 43 ∧ n1 = [120] ∧ n2 = [121] ∧ b = 1)
  | _ => false
def awB : List Bg → Bool
  | [⟨n1, a1, s1, m1⟩, ⟨n2, a2, s2, m2⟩] => decide (n1 = [120] ∧ a1 = true ∧ n2 = [121] ∧ a2 = false ∧ s2 = true ∧ m2 = 3)
  | _ => false
def isAwake : Except Er Pg → Bool
  | .ok g => awB g.begins && awk g.body
  | .error _ => false
theorem awake_reads : goodF awakeTx = true ∧ isAwake (parseF awakeTx) = true := by decide +kernel
theorem eight_reads : goodF (eightTx ++ [59]) = true ∧ hasBegins 8 (parseF (eightTx ++ [59])) = true ∧ goodF (eightTx ++ [44, 32, 105, 59]) = true ∧ isErr 2 29 (parseF (eightTx ++ [44, 32, 105, 59])) = true := by decide +kernel
theorem lim_reads : ∀ k : Fin 17, goodF (limOk k) = true ∧ isOk (parseF (limOk k)) = true ∧ goodF (limBad k) = true ∧ isErr 83 (limTx k).length (parseF (limBad k)) = true := by decide +kernel
def awakePr : List UInt8 := ascT [118, 97, 114, 115, 32, 120, 44, 32, 121, 32, 61, 32, 45, 51, 59, 10, 108, 111, 111, 112, 32, 123, 10, 32, 32, 120, 32, 58, 61, 32, 50, 32, 42, 32, 40, 120, 32, 43, 32, 121, 41, 32, 45, 32, 49, 59, 10, 125, 10]
theorem decOne (d : Nat) (h : d < 10) : decText d = [UInt8.ofNat (48 + d)] := by
  rw [decF_eq (Nat.lt_of_lt_of_le h (by decide +kernel))]
  rcases (show d = 0 ∨ d = 1 ∨ d = 2 ∨ d = 3 ∨ d = 4 ∨ d = 5 ∨ d = 6 ∨ d = 7 ∨ d = 8 ∨ d = 9 by omega) with rfl | rfl | rfl | rfl | rfl | rfl | rfl | rfl | rfl | rfl <;> rfl
theorem awake_print {g : Pg} (h : isAwake (.ok g) = true) : pgS g = awakePr := by
  obtain ⟨at_, bs, l⟩ := g
  simp only [isAwake, Bool.and_eq_true] at h
  obtain ⟨h1, h2⟩ := h
  unfold awB at h1
  split at h1
  · unfold awk at h2
    split at h2
    · simp only [decide_eq_true_eq] at h1 h2
      obtain ⟨rfl, rfl, rfl, rfl, rfl, rfl⟩ := h1
      obtain ⟨rfl, rfl, rfl, rfl, rfl, rfl, rfl, rfl⟩ := h2
      have d1 := decOne 1 (by omega)
      have d2 := decOne 2 (by omega)
      have d3 := decOne 3 (by omega)
      simp [pgS, dcS, bgsS, bgS, sgT, prSms, prSm, hdS, wrS, brS, sumB, addsB, singleB, d1, d2, d3, vars_, loop_, awakePr, ascT]
    · cases h2
  · cases h1
theorem awake_ok : ∃ g, parseS (ascT awakeTx) = .ok g ∧ pgS g = awakePr := by
  have h := awake_reads
  rw [parseF_eq h.1]
  cases hp : parseF awakeTx with
  | error e => rw [hp] at h; simp [isAwake] at h
  | ok g => exact ⟨g, rfl, awake_print (by rw [← hp]; exact h.2)⟩
theorem isOk_ex {x : Except Er Pg} (h : isOk x = true) : ∃ g, x = .ok g := by
  cases x with
  | ok g => exact ⟨g, rfl⟩
  | error e => simp [isOk] at h
theorem isErr_ex {c n : Nat} {x : Except Er Pg} (h : isErr c n x = true) : ∃ p : Pl, x = .error ((c : Int), p) ∧ p.b = n := by
  cases x with
  | ok g => simp [isErr] at h
  | error e =>
    obtain ⟨k, p⟩ := e
    simp only [isErr, Bool.and_eq_true, decide_eq_true_eq] at h
    obtain ⟨rfl, h2⟩ := h
    exact ⟨p, rfl, h2⟩
end Go.Proofs.YtlklijpjacmgpaaGreatDoor
