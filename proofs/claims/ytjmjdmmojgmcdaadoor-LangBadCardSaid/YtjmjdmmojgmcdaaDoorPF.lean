/- LangBad's plain law: sixteen things that are wrong behind a program that is right. -/
import Derived.Test.YtjmjdmmojgmcdaaDoorPC
namespace Go.Proofs.YtjmjdmmojgmcdaaDoor
open Go
set_option linter.unusedVariables false
set_option linter.unusedSimpArgs false
set_option exponentiation.threshold 5000

theorem takeWhile_all' {p : Nat → Bool} : ∀ (l : List Nat), (l.takeWhile p).length = l.length → ∀ x ∈ l, p x = true
  | [], _, x, hx => by simp at hx
  | y :: l, h, x, hx => by
    by_cases hy : p y = true
    · rw [List.takeWhile_cons, if_pos hy, List.length_cons, List.length_cons] at h
      rcases List.mem_cons.1 hx with rfl | hx
      · exact hy
      · exact takeWhile_all' l (by omega) x hx
    · rw [List.takeWhile_cons, if_neg hy] at h
      simp at h
theorem nm_codes {x : List UInt8} (h : NmT x) : ∃ X : List Nat, X.flatMap enc = x ∧ (∀ c ∈ X, okc c = true) ∧ X.length ≤ 16 ∧ ∀ c ∈ X, c ≠ 10 := by
  obtain ⟨X, hp, he⟩ := h
  refine ⟨X, he, hp.ok, ?_⟩
  obtain ⟨c, r, rfl, _⟩ := hp.head
  have ht := hp.tk [] (by simp)
  rw [List.append_nil] at ht
  have h2 : cls c = 2 := by
    rcases tk_kind ht with ⟨_, _, h2⟩ | ⟨h, _⟩ | ⟨h, _⟩
    · exact h2
    · cases h
    · cases h
  rw [tk2 h2] at ht
  split at ht
  · cases ht
  · rename_i h16
    have hl : ((c :: r).takeWhile part).length = (c :: r).length := by simp only [TR.ok.injEq] at ht; exact ht.2.2
    refine ⟨by omega, fun d hd => ?_⟩
    have := takeWhile_all' _ hl d hd
    rintro rfl
    revert this
    decide
theorem nm_len {x : List UInt8} (h : NmT x) : x.length ≤ 64 ∧ (10 : UInt8) ∉ x := by
  obtain ⟨X, he, hok, hl, hn⟩ := nm_codes h
  refine ⟨?_, ?_⟩
  · have := flat4 X
    rw [he] at this
    omega
  · rw [← List.count_eq_zero, ← he, flat_nl X hok, List.count_eq_zero]
    exact fun h => hn 10 h rfl
/-- how many code points there are -/
theorem cd_len {C cs : List Nat} {x a : List UInt8} (h1 : C.flatMap enc = x ++ a) (h2 : ∀ c ∈ C, okc c = true) (h3 : cs.flatMap enc = x) (h4 : ∀ c ∈ cs, okc c = true) (ha : ∀ b ∈ a, b.toNat < 128) : C.length = cs.length + a.length := by
  have e : (cs ++ a.map UInt8.toNat).flatMap enc = x ++ a := by rw [List.flatMap_append, h3, flat_asc a ha]
  have T1 : Txt (x ++ a) C [] := ⟨by simp [h1], h2, rfl⟩
  have T2 : Txt (x ++ a) (cs ++ a.map UInt8.toNat) [] := ⟨by simp [e], okc_app h4 (by
    intro c hc
    rw [List.mem_map] at hc
    obtain ⟨b, hb, rfl⟩ := hc
    exact okc_iff.2 (Or.inl (by have := ha b hb; omega))), rfl⟩
  rw [(T1.uniq T2).1]
  simp
def bigM : List UInt8 := [97, 98, 99, 100, 101, 102, 103, 104, 105, 106, 107, 108, 109, 110, 111, 112]
def degM : List UInt8 := [97, 194, 176]
def badS (x q : List UInt8) : Nat → List UInt8
  | 0 => [125]
  | 1 => skip_
  | 2 => q ++ [32, 58, 61, 32, 49, 59]
  | 3 => x ++ [32, 61, 32, 49, 59]
  | 4 => x ++ [32, 58, 61, 32, 49, 32, 43, 59]
  | 5 => x ++ [32, 58, 61, 32, 40, 49, 59]
  | 6 => [109, 97, 114, 107, 32] ++ bigM ++ [59]
  | 7 => [109, 97, 114, 107, 32] ++ degM ++ [59]
  | 8 => [105, 102, 32, 49, 32, 123, 32, 125]
  | 9 => [99, 104, 111, 111, 115, 101, 32, 123, 32, 125, 32, 111, 114]
  | 10 => [119, 104, 105, 108, 101, 32, 49, 32, 61, 32, 49, 32, 59]
  | 11 => [108, 111, 111, 112, 32, 123, 32, 111, 114, 32, 123, 32, 125, 32, 125]
  | 12 => [118, 97, 114, 115, 32, 113, 59]
  | 13 => [109, 97, 114, 107, 32, 97, 110, 121, 59]
  | 14 => [115, 107, 105, 112, 59, 32, 36]
  | _ => x ++ [32, 58, 61, 32, 97, 110, 121, 32, 43, 32, 49, 59]
def codeS : Nat → Int
  | 2 => 81
  | 6 => 42
  | 7 => 42
  | 14 => 41
  | _ => 80
def gapS (n : Nat) : Nat → Nat
  | 0 => 0
  | 1 => 4
  | 2 => 0
  | 3 => n + 1
  | 4 => n + 7
  | 5 => n + 6
  | 6 => 5
  | 7 => 5
  | 8 => 5
  | 9 => 13
  | 10 => 12
  | 11 => 7
  | 12 => 0
  | 13 => 5
  | 14 => 6
  | _ => n + 8
theorem bad_len (x q : List UInt8) (m : Nat) (hx : x.length ≤ 64) (hq : q.length ≤ 64) : (badS x q m).length ≤ 90 := by
  unfold badS
  split <;> simp [skip_, bigM, degM] <;> omega
theorem tx_one : TxW [49] [(2, [49])] := by
  have h := tx_num (n := 1) (by decide)
  have e : decText 1 = [49] := by decide +kernel
  rw [e] at h
  exact h
theorem TxW.cast {s s' : List UInt8} {l l' : List Kt} (h : TxW s l) (e1 : s = s') (e2 : l = l') : TxW s' l' := by subst e1 e2; exact h
theorem tx_gets : TxH [32, 58, 61, 32] [(3, [58, 61])] := (tx_sp.app (tx_sg (x := [58, 61]) (by decide))).app tx_sp.s
theorem tx_mark : TxS [109, 97, 114, 107, 32] [(1, mark_)] := tx_wsp (x := mark_) (by decide)
theorem nm_big : NmT bigM := by
  have h2 : cls 97 = 2 := by decide
  exact ⟨_, piece_name (c := 97) (r := [98, 99, 100, 101, 102, 103, 104, 105, 106, 107, 108, 109, 110, 111, 112]) (m := 16) (by rw [tk2 h2]; rfl) h2 (by decide), by decide⟩
theorem nm_deg : NmT degM := by
  have h2 : cls 97 = 2 := by decide
  exact ⟨_, piece_name (c := 97) (r := [176]) (m := 2) (by rw [tk2 h2]; rfl) h2 (by decide), by decide⟩
theorem short_big : shortS bigM = false := by
  unfold shortS
  rw [cpsOf_eq (cs := [97, 98, 99, 100, 101, 102, 103, 104, 105, 106, 107, 108, 109, 110, 111, 112]) (by decide) (by decide)]
  decide
theorem short_deg : shortS degM = false := by
  unfold shortS
  rw [cpsOf_eq (cs := [97, 176]) (by decide) (by decide)]
  decide
def BadOk (g : Pg) (s : List UInt8) (c : Int) (gap gly : Nat) : Prop := ∃ P : Pl, parseS (pgS g ++ s) = .error (c, P) ∧ P.b = (pgS g).length + gap ∧ P.l = 1 + (pgS g).count 10 ∧ P.c = gly + 1
theorem BadOk.cast {g : Pg} {s s' : List UInt8} {c : Int} {gap gly : Nat} (h : BadOk g s c gap gly) (e : s = s') : BadOk g s' c gap gly := e ▸ h
theorem badOk_of {s : List UInt8} {g : Pg} (hp : parseS s = .ok g) {x a sE : List UInt8} {cs : List Nat} (h3 : cs.flatMap enc = x) (h4 : ∀ c ∈ cs, okc c = true) (ha : ∀ b ∈ a, b.toNat < 128 ∧ b ≠ 10) (hx10 : (10 : UInt8) ∉ x) {lD : List Kt} {k : Int} {t : List UInt8} {c : Int} (hE : TxE (x ++ a) sE lD k t)
    (hbad : ∀ (P : Pl) (r : List Tok), RowBad (g.begins.map Bg.name) lD ⟨k, t, P⟩ r c) (hst : ∀ (P : Pl) (r : List Tok), stops (kT lD ++ ⟨k, t, P⟩ :: r)) (hl : (pgS g ++ (x ++ a ++ sE)).length ≤ 4096) {gap gly : Nat} (h5 : (x ++ a).length = gap) (h6 : cs.length + a.length = gly) : BadOk g (x ++ a ++ sE) c gap gly := by
  obtain ⟨P, CD, h1, h2, h7, h8, h9, h10⟩ := bad_law hp hE hbad hst (by
    intro h
    rcases List.mem_append.1 h with h | h
    · exact hx10 h
    · exact (ha _ h).2 rfl) hl
  refine ⟨P, h1, by rw [h8, h5], h9, ?_⟩
  rw [h10, cd_len h2 h7 h3 h4 (fun b hb => (ha b hb).1), h6]
set_option maxRecDepth 10000 in
theorem bad_all {s : List UInt8} {g : Pg} (hp : parseS s = .ok g) {x q : List UInt8} {nm : List (List UInt8)} (hnm : g.begins.map Bg.name = x :: nm) {cs : List Nat} (h3 : cs.flatMap enc = x) (h4 : ∀ c ∈ cs, okc c = true) (hxw : NmW x) (hqt : NmT q) (hqw : wordS q = false) (hqv : varS (x :: nm) q = none) (hq64 : q.length ≤ 64) (hl : (pgS g).length ≤ 3796) :
    ∀ m, m < 16 → BadOk g (badS x q m) (codeS m) (gapS x.length m) (gapS cs.length m) := by
  intro m hm
  have hx := nm_len hxw.1
  have hlen := bad_len x q m hx.1 hq64
  have hll : (pgS g ++ badS x q m).length ≤ 4096 := by rw [List.length_append]; omega
  have hv : varS (x :: nm) x = some 0 := by simp [varS, List.findIdx?_cons]
  have n0 : (10 : UInt8) ∉ ([] : List UInt8) := by simp
  have tx := tx_name hxw.1
  have hrest : ∀ (o : Int) (y : List UInt8) (P : Pl) (r : List Tok), y ≠ or_ ∧ y ≠ else_ → stops (⟨o, y, P⟩ :: r) := fun o y P r h => ⟨by rw [isT_tk]; simp [h.1], by rw [isT_tk]; simp [h.2]⟩
  have hwx : x ≠ or_ ∧ x ≠ else_ := ⟨word_ne hxw.2 (by decide), word_ne hxw.2 (by decide)⟩
  have hwq : q ≠ or_ ∧ q ≠ else_ := ⟨word_ne hqw (by decide), word_ne hqw (by decide)⟩
  have key0 := fun {a sE : List UInt8} {lD : List Kt} {k : Int} {t : List UInt8} {c : Int} (ha : ∀ b ∈ a, b.toNat < 128 ∧ b ≠ 10) (hE : TxE ([] ++ a) sE lD k t) (hbad : ∀ (P : Pl) (r : List Tok), RowBad (x :: nm) lD ⟨k, t, P⟩ r c) (hst : ∀ (P : Pl) (r : List Tok), stops (kT lD ++ ⟨k, t, P⟩ :: r)) (hl : (pgS g ++ ([] ++ a ++ sE)).length ≤ 4096) {gap : Nat} (h5 : a.length = gap) =>
    badOk_of (cs := []) hp rfl (by simp) ha n0 hE (by rw [hnm]; exact hbad) hst hl (gap := gap) (gly := gap) h5 (by simpa using h5)
  have keyx := fun {a sE : List UInt8} {lD : List Kt} {k : Int} {t : List UInt8} {c : Int} (ha : ∀ b ∈ a, b.toNat < 128 ∧ b ≠ 10) (hE : TxE (x ++ a) sE lD k t) (hbad : ∀ (P : Pl) (r : List Tok), RowBad (x :: nm) lD ⟨k, t, P⟩ r c) (hst : ∀ (P : Pl) (r : List Tok), stops (kT lD ++ ⟨k, t, P⟩ :: r)) (hl : (pgS g ++ (x ++ a ++ sE)).length ≤ 4096) {d : Nat} (h5 : a.length = d) =>
    badOk_of hp h3 h4 ha hx.2 hE (by rw [hnm]; exact hbad) hst hl (gap := x.length + d) (gly := cs.length + d) (by rw [List.length_append, h5]) (by rw [h5])
  have : m = 0 ∨ m = 1 ∨ m = 2 ∨ m = 3 ∨ m = 4 ∨ m = 5 ∨ m = 6 ∨ m = 7 ∨ m = 8 ∨ m = 9 ∨ m = 10 ∨ m = 11 ∨ m = 12 ∨ m = 13 ∨ m = 14 ∨ m = 15 := by omega
  rcases this with rfl | rfl | rfl | rfl | rfl | rfl | rfl | rfl | rfl | rfl | rfl | rfl | rfl | rfl | rfl | rfl
  · exact key0 (a := []) (sE := [125] ++ []) (by simp) (txE_sign (by decide) TxS.nil.w TxS.nil) (fun P r => bad0 _ P r) (fun P r => hrest _ _ P r (by decide)) hll rfl
  · exact key0 (a := skip_) (sE := []) (by decide) (txE_end (tx_word (by decide))) (fun P r => bad1 _ P r) (fun P r => stops_sign (by decide) 1 _) hll rfl
  · exact key0 (a := []) (sE := q ++ [32, 58, 61, 32, 49, 59]) (by simp) (txE_name hqt TxS.nil (tx_gets.app (tx_one.appH (tx_sign (x := [59]) (by decide))))) (fun P r => bad2 hqw hqv P r) (fun P r => hrest _ _ P r hwq) hll rfl
  · exact (keyx (a := [32]) (sE := [61] ++ [32, 49, 59]) (by decide) (txE_sign (by decide) (tx.appH tx_sp).w (tx_sp.app (tx_one.appH (tx_sign (x := [59]) (by decide)))).s) (fun P r => bad3 hxw.2 hv P r) (fun P r => stops_sign hwx 1 _) (by simpa [badS] using hll) (d := 1) rfl).cast (by simp [badS])
  · exact (keyx (a := [32, 58, 61, 32, 49, 32, 43]) (sE := [59] ++ []) (by decide) (txE_sign (by decide) ((((tx.appH tx_gets).appW tx_one).appH (tx_sp.app (tx_sg (x := [43]) (by decide)))).w.cast (by simp) rfl) TxS.nil) (fun P r => bad4 hxw.2 hv P r) (fun P r => stops_sign hwx 1 _) (by simpa [badS] using hll) (d := 7) rfl).cast (by simp [badS])
  · exact (keyx (a := [32, 58, 61, 32, 40, 49]) (sE := [59] ++ []) (by decide) (txE_sign (by decide) ((((tx.appH tx_gets).app (tx_sg (x := [40]) (by decide))).appW tx_one).cast (by simp) rfl) TxS.nil) (fun P r => bad5 hxw.2 hv P r) (fun P r => stops_sign hwx 1 _) (by simpa [badS] using hll) (d := 6) rfl).cast (by simp [badS])
  · exact key0 (a := [109, 97, 114, 107, 32]) (sE := bigM ++ [59]) (by decide) (txE_name nm_big tx_mark (tx_sign (x := [59]) (by decide))) (fun P r => bad6 _ (by decide) short_big P r) (fun P r => stops_sign (by decide) 1 _) hll rfl
  · exact key0 (a := [109, 97, 114, 107, 32]) (sE := degM ++ [59]) (by decide) (txE_name nm_deg tx_mark (tx_sign (x := [59]) (by decide))) (fun P r => bad6 _ (by decide) short_deg P r) (fun P r => stops_sign (by decide) 1 _) hll rfl
  · exact key0 (a := [105, 102, 32, 49, 32]) (sE := [123] ++ [32, 125]) (by decide) (txE_sign (by decide) (((tx_wsp (x := if_) (by decide)).appW tx_one).appH tx_sp).w (tx_sp.app (tx_sg (x := [125]) (by decide))).s) (fun P r => bad8 _ P r) (fun P r => stops_sign (by decide) 1 _) hll rfl
  · exact key0 (a := [99, 104, 111, 111, 115, 101, 32, 123, 32, 125, 32, 111, 114]) (sE := []) (by decide) (txE_end ((((tx_wsp (x := choose_) (by decide)).app (tx_sg (x := [123]) (by decide))).app ((tx_sp.app (tx_sg (x := [125]) (by decide))).app tx_sp.s).s).appW (tx_word (x := or_) (by decide)))) (fun P r => bad9 _ P r) (fun P r => stops_sign (by decide) 1 _) hll rfl
  · exact key0 (a := [119, 104, 105, 108, 101, 32, 49, 32, 61, 32, 49, 32]) (sE := [59] ++ []) (by decide) (txE_sign (by decide) ((((tx_wsp (x := while_) (by decide)).appW tx_one).appH ((tx_sp.app (tx_sg (x := [61]) (by decide))).app tx_sp.s)).appW tx_one |>.appH tx_sp).w TxS.nil) (fun P r => bad10 _ P r) (fun P r => stops_sign (by decide) 1 _) hll rfl
  · exact key0 (a := [108, 111, 111, 112, 32, 123, 32]) (sE := or_ ++ [32, 123, 32, 125, 32, 125]) (by decide) (txE_name (nmT_word (by decide)) (((tx_wsp (x := loop_) (by decide)).app (tx_sg (x := [123]) (by decide))).app tx_sp.s) ((tx_sp.app (tx_sg (x := [123]) (by decide))).app ((tx_sp.app (tx_sg (x := [125]) (by decide))).app (tx_sp.app (tx_sg (x := [125]) (by decide))).s).s)) (fun P r => bad11 _ P r) (fun P r => stops_sign (by decide) 1 _) hll rfl
  · exact key0 (a := []) (sE := vars_ ++ [32, 113, 59]) (by simp) (txE_name (nmT_word (by decide)) TxS.nil (tx_sp.app ((tx_name (x := [113]) ⟨_, piece_name (c := 113) (r := []) (m := 1) (by rw [tk2 (by decide)]; rfl) (by decide) (by decide), by decide⟩).appH (tx_sign (x := [59]) (by decide))))) (fun P r => bad12 _ P r) (fun P r => hrest _ _ P r (by decide)) hll rfl
  · exact key0 (a := [109, 97, 114, 107, 32]) (sE := any_ ++ [59]) (by decide) (txE_name (nmT_word (by decide)) tx_mark (tx_sign (x := [59]) (by decide))) (fun P r => bad13 _ P r) (fun P r => stops_sign (by decide) 1 _) hll rfl
  · obtain ⟨P, CD, h1, h2, h7, h8, h9, h10⟩ := bad_sign hp (sD := [115, 107, 105, 112, 59, 32]) (((tx_word (x := skip_) (by decide)).appH (tx_sign (x := [59]) (by decide))).app tx_sp.s) (by decide) hll
    refine ⟨P, h1, h8, h9, ?_⟩
    have := cd_len (cs := []) (x := []) (a := [115, 107, 105, 112, 59, 32]) h2 h7 rfl (by simp) (by decide)
    rw [h10, this]
    rfl
  · exact (keyx (a := [32, 58, 61, 32, 97, 110, 121, 32]) (sE := [43] ++ [32, 49, 59]) (by decide) (txE_sign (by decide) (((tx.appH tx_gets).appW (tx_word (x := any_) (by decide)) |>.appH tx_sp).w.cast (by simp [any_]) rfl) (tx_sp.app (tx_one.appH (tx_sign (x := [59]) (by decide)))).s) (fun P r => bad15 hxw.2 hv P r) (fun P r => stops_sign hwx 1 _) (by simpa [badS] using hll) (d := 8) rfl).cast (by simp [badS])
end Go.Proofs.YtjmjdmmojgmcdaaDoor
