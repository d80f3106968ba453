/- Tokens that a call owns: their cells; SamePlace, same, alike; both Scans in one form. -/
import Derived.Test.YtklhfbgmadblcaaDoorE1
import Derived.Deep.RegionHeld3
import Derived.Deep.DrawnRows
namespace Go.Proofs.YtklhfbgmadblcaaDoor
open Go.RowKit
set_option linter.unusedVariables false
set_option linter.unusedSimpArgs false
attribute [local go_sem ↓] Go.wp_at_zero Go.wp_at_succ

theorem Fr.cell {w w' : World} (f : Fr No w w') {a : Addr} {v : Value} (h : w.cell? a = some v) : w'.cell? a = some v := by
  have hlt : a.block < w.heap.size := by
    rcases Nat.lt_or_ge a.block w.heap.size with hh | hh
    · exact hh
    · simp [World.cell?, hh] at h
  exact (World.cell?_of_block (f.block a.block hlt (fun x => x))).trans h

theorem own_set {w : World} {B : Nat} {e : TypeId} {size g n cap : Nat} {xs : List Value} (h : w.ownsRow B e size (.slice (some ⟨g, 0, none⟩) n cap) n xs) (i : Nat) (u : Value) :
    (w.setCell ⟨g, i, none⟩ u).ownsRow B e size (.slice (some ⟨g, 0, none⟩) n cap) n (xs.set i u) := by
  obtain ⟨h1, h2⟩ := h
  refine ⟨by rw [List.length_set]; exact h1, ?_⟩
  rcases h2 with ⟨h2, _⟩ | ⟨g', c, cur, hv, hg, hh, h4, h5, h6, h7⟩
  · cases h2
  · simp only [Value.slice.injEq, Option.some.injEq, Addr.mk.injEq, true_and, and_true] at hv
    obtain ⟨rfl, rfl⟩ := hv
    refine Or.inr ⟨g, cap, cur.setIfInBounds i u, rfl, hg, Blk.setOff (show Blk w g _ from hh) i u, h4, h5, by simpa using h6, ?_⟩
    rw [← h7, Array.toList_setIfInBounds, List.take_set]

theorem toksV_get : ∀ (l : List Tok) (i : Nat) (x : Tok) (k : Nat), l[i]? = some x → k < 6 → (toksV l)[i * 6 + k]? = (tokC x)[k]?
  | [], i, x, k, h, _ => by simp at h
  | y :: l, 0, x, k, h, hk => by
    simp at h; subst h
    simp only [toksV, List.flatMap_cons, Nat.zero_mul, Nat.zero_add]
    rw [List.getElem?_append_left (by simp [tokC]; omega)]
  | y :: l, i + 1, x, k, h, hk => by
    have := toksV_get l i x k (by simpa using h) hk
    simp only [toksV, List.flatMap_cons] at this ⊢
    rw [List.getElem?_append_right (by simp [tokC]; omega)]
    rw [← this]
    congr 1
    simp [tokC]; omega

/-- the cells of a token -/
structure TokAt (w : World) (g o : Nat) (x : Tok) : Prop where
  k : w.cell? ⟨g, o, none⟩ = some (.int .i64 x.kind)
  t : w.cell? ⟨g, o + 1, none⟩ = some (.string ⟨x.text.toArray⟩)
  b : w.cell? ⟨g, o + 2, none⟩ = some (.int .i64 x.at_.b)
  gl : w.cell? ⟨g, o + 3, none⟩ = some (.int .i64 x.at_.g)
  l : w.cell? ⟨g, o + 4, none⟩ = some (.int .i64 x.at_.l)
  c : w.cell? ⟨g, o + 5, none⟩ = some (.int .i64 x.at_.c)
theorem tok_at {w : World} {B g n cap : Nat} {l : List Tok} (h : w.ownsRow B 37 6 (.slice (some ⟨g, 0, none⟩) n cap) n (toksV l)) {i : Nat} {x : Tok} (hx : l[i]? = some x) : TokAt w g (i * 6) x :=
  ⟨own_cell h (j := i * 6) (by have := toksV_get l i x 0 hx (by omega); simpa [tokC] using this), own_cell h (by rw [toksV_get l i x 1 hx (by omega)]; rfl), own_cell h (by rw [toksV_get l i x 2 hx (by omega)]; rfl), own_cell h (by rw [toksV_get l i x 3 hx (by omega)]; rfl), own_cell h (by rw [toksV_get l i x 4 hx (by omega)]; rfl), own_cell h (by rw [toksV_get l i x 5 hx (by omega)]; rfl)⟩

set_option maxHeartbeats 1000000 in
theorem place_same (p : Pl) (w : World) : Calls Tryd.prog 21 #[.agg (plA p), .agg (plA p)] w fun e w' => e = .returned (.bool true) ∧ Fr No w w' := by
  unfold plA
  go_enter Tryd.func21, Tryd.ntmps21
  go_wp2
  go_ret
  exact ⟨by simp, ((Fr.refl No w).alloc _).alloc _⟩

/-- what Scan hands back, in one form -/
def Res.toks : Res → List Tok
  | .bad _ _ => []
  | .ok l => l
def Res.code : Res → Int
  | .bad n _ => n
  | .ok _ => 0
def Res.pl : Res → Pl
  | .bad _ p => p
  | .ok _ => zeroPl
def ScanGot (w : World) (r : Res) (e : Ending) (w' : World) : Prop :=
  ∃ a c, e = .returned (.tuple #[.slice a r.toks.length c, .int .i64 r.code, .agg (plA r.pl)]) ∧ w'.ownsRow w.heap.size 37 6 (.slice a r.toks.length c) r.toks.length (toksV r.toks) ∧ Fr No w w'
theorem ScanOut.got {w : World} {r : Res} {e : Ending} {w' : World} (h : ScanOut w r e w') : ScanGot w r e w' := by
  cases r with
  | bad n p => exact ⟨none, 0, h.1, World.ownsRow_nil _ _ _ _, h.2⟩
  | ok l => exact h

/-- a text's code points, and what is left -/
noncomputable def csOf (l : List UInt8) : List Nat := (Txt.ex l).choose
noncomputable def tlOf (l : List UInt8) : List UInt8 := (Txt.ex l).choose_spec.choose
theorem txt_of (l : List UInt8) : Txt l (csOf l) (tlOf l) := (Txt.ex l).choose_spec.choose_spec
/-- what Scan answers to a text -/
noncomputable def scanS (l : List UInt8) : Res := if 4096 < l.length then .bad 2 zeroPl else scanOf (csOf l) (tlOf l)
theorem scanS_eq {l : List UInt8} {cs : List Nat} {t : List UInt8} (T : Txt l cs t) (h : l.length ≤ 4096) : scanS l = scanOf cs t := by
  unfold scanS
  rw [if_neg (by omega)]
  obtain ⟨e1, e2⟩ := (txt_of l).uniq T
  rw [e1, e2]
theorem Scan_any (s : ByteArray) (w : World) (hT : Tb w) (hs : s.size ≤ maxLen) : Calls Tryd.prog 19 #[.string s] w (ScanGot w (scanS s.data.toList)) := by
  have hl := Lib.size_eq s
  by_cases h : 4096 < s.size
  · have e : scanS s.data.toList = .bad 2 zeroPl := if_pos (by omega)
    rw [e]
    exact (Scan_long s w h hs).mono fun _ _ h => h.got
  · rw [scanS_eq (txt_of _) (by omega)]
    exact (Scan_short s w hT (by omega) (txt_of _)).mono fun _ _ h => h.got
theorem rScan_any (s : ByteArray) (w : World) (hs : s.size ≤ maxLen) : Calls Tryd.prog 18 #[.string s] w (ScanGot w (scanS s.data.toList)) := by
  have hl := Lib.size_eq s
  by_cases h : 4096 < s.size
  · have e : scanS s.data.toList = .bad 2 zeroPl := if_pos (by omega)
    rw [e]
    exact (rScan_long s w h hs).mono fun _ _ h => h.got
  · rw [scanS_eq (txt_of _) (by omega)]
    exact (rScan_short s w (by omega) (txt_of _)).mono fun _ _ h => h.got

set_option maxRecDepth 100000 in
set_option maxHeartbeats 2000000 in
/-- the same tokens -/
theorem same_true (l : List Tok) (B1 B2 : Nat) (a1 a2 : Option Addr) (c1 c2 : Nat) (w : World) (hl : l.length ≤ 1000000)
    (h1 : w.ownsRow B1 37 6 (.slice a1 l.length c1) l.length (toksV l)) (h2 : w.ownsRow B2 37 6 (.slice a2 l.length c2) l.length (toksV l)) :
    Calls Tryd.prog 22 #[.slice a1 l.length c1, .slice a2 l.length c2] w fun e w' => e = .returned (.bool true) ∧ Fr No w w' := by
  go_enter Tryd.func22, Tryd.ntmps22
  go_wp2
  go_loopw [5] (fun i wr => ∃ k : Nat, k ≤ l.length ∧ i = .int .i64 k ∧ Fr No w wr) (fun i _ => l.length - (intOf i).toNat)
  case atStart => exact ⟨0, by omega, rfl, Fr.refl _ _⟩
  case round =>
    obtain ⟨k, hk, rfl, hf⟩ := hrel
    by_cases hlt : k < l.length
    · have g1 := own_fr h1 hf (fun _ _ x => x)
      have g2 := own_fr h2 hf (fun _ _ x => x)
      rcases own_cases g1 with ⟨_, hn, _⟩ | ⟨b1, d1, hs1, _, _, _⟩
      · omega
      rcases own_cases g2 with ⟨_, hn, _⟩ | ⟨b2, d2, hs2, _, _, _⟩
      · omega
      simp only [Value.slice.injEq] at hs1 hs2
      obtain ⟨rfl, _, rfl⟩ := hs1
      obtain ⟨rfl, _, rfl⟩ := hs2
      obtain ⟨x, hx⟩ : ∃ x, l[k]? = some x := ⟨l[k], List.getElem?_eq_getElem hlt⟩
      have T1 := tok_at g1 hx
      have T2 := tok_at g2 hx
      clear g1 g2 h1 h2
      have HX := Lib.hid hx
      clear hx
      obtain ⟨p0, p1, p2, p3, p4, p5⟩ := T1
      obtain ⟨q0, q1, q2, q3, q4, q5⟩ := T2
      have i0 : (0 : Int) ≤ (k : Int) := by omega
      have i1 : (k : Int) < (l.length : Int) := by omega
      go_wp2_with fail
      go_region_held3 (fun w' => w'.cell? ⟨b1, k * 6, none⟩ = some (.int .i64 x.kind) ∧ w'.cell? ⟨b1, k * 6 + 1, none⟩ = some (.string ⟨x.text.toArray⟩) ∧ w'.cell? ⟨b1, k * 6 + 2, none⟩ = some (.int .i64 x.at_.b) ∧ w'.cell? ⟨b1, k * 6 + 3, none⟩ = some (.int .i64 x.at_.g) ∧ w'.cell? ⟨b1, k * 6 + 4, none⟩ = some (.int .i64 x.at_.l) ∧ w'.cell? ⟨b1, k * 6 + 5, none⟩ = some (.int .i64 x.at_.c) ∧ w'.cell? ⟨b2, k * 6, none⟩ = some (.int .i64 x.kind) ∧ w'.cell? ⟨b2, k * 6 + 1, none⟩ = some (.string ⟨x.text.toArray⟩) ∧ w'.cell? ⟨b2, k * 6 + 2, none⟩ = some (.int .i64 x.at_.b) ∧ w'.cell? ⟨b2, k * 6 + 3, none⟩ = some (.int .i64 x.at_.g) ∧ w'.cell? ⟨b2, k * 6 + 4, none⟩ = some (.int .i64 x.at_.l) ∧ w'.cell? ⟨b2, k * 6 + 5, none⟩ = some (.int .i64 x.at_.c)) (first | go_keep | (refine ⟨?_, ?_, ?_, ?_, ?_, ?_, ?_, ?_, ?_, ?_, ?_, ?_⟩ <;> exact hfp.cell (by assumption))) (first | (go_at_call 21; refine (place_same x.at_ _).mono ?_; rintro e w' ⟨rfl, hfp⟩))
      go_wp2
      go_roundw
      case rel => exact ⟨k + 1, by omega, by go_num, (hf.drew).callNo hfp⟩
      case measure => simp [intOf]; omega
    · go_wp2
      go_ret
      exact ⟨rfl, hf⟩
/-- kind and text -/
def Tok.kt (x : Tok) : Int × List UInt8 := (x.kind, x.text)

set_option maxRecDepth 100000 in
set_option maxHeartbeats 2000000 in
/-- the same kinds and texts -/
theorem alike_true (l l2 : List Tok) (B1 B2 : Nat) (a1 a2 : Option Addr) (c1 c2 : Nat) (w : World) (hl : l.length ≤ 1000000) (hkt : l.map Tok.kt = l2.map Tok.kt)
    (h1 : w.ownsRow B1 37 6 (.slice a1 l.length c1) l.length (toksV l)) (h2 : w.ownsRow B2 37 6 (.slice a2 l2.length c2) l2.length (toksV l2)) :
    Calls Tryd.prog 23 #[.slice a1 l.length c1, .slice a2 l2.length c2] w fun e w' => e = .returned (.bool true) ∧ Fr No w w' := by
  have hlen : l2.length = l.length := by simpa using (congrArg List.length hkt).symm
  rw [hlen] at h2 ⊢
  have HKT := Lib.hid (And.intro hkt hlen)
  clear hkt hlen
  go_enter Tryd.func23, Tryd.ntmps23
  go_wp2
  go_loopw [5] (fun i wr => ∃ k : Nat, k ≤ l.length ∧ i = .int .i64 k ∧ Fr No w wr) (fun i _ => l.length - (intOf i).toNat)
  case atStart => exact ⟨0, by omega, rfl, Fr.refl _ _⟩
  case round =>
    obtain ⟨k, hk, rfl, hf⟩ := hrel
    by_cases hlt : k < l.length
    · have g1 := own_fr h1 hf (fun _ _ x => x)
      have g2 := own_fr h2 hf (fun _ _ x => x)
      rcases own_cases g1 with ⟨_, hn, _⟩ | ⟨b1, d1, hs1, _, _, _⟩
      · omega
      rcases own_cases g2 with ⟨_, hn, _⟩ | ⟨b2, d2, hs2, _, _, _⟩
      · omega
      simp only [Value.slice.injEq] at hs1 hs2
      obtain ⟨rfl, _, rfl⟩ := hs1
      obtain ⟨rfl, _, rfl⟩ := hs2
      obtain ⟨x, hx⟩ : ∃ x, l[k]? = some x := ⟨l[k], List.getElem?_eq_getElem hlt⟩
      obtain ⟨y, hy⟩ : ∃ y, l2[k]? = some y := ⟨l2[k]'(by rw [HKT.out.2]; exact hlt), List.getElem?_eq_getElem _⟩
      have T1 := tok_at g1 hx
      have T2 := tok_at g2 hy
      clear g1 g2 h1 h2
      have hxy : x.kt = y.kt := by
        have := congrArg (·[k]?) HKT.out.1
        simpa [hx, hy] using this
      have HX := Lib.hid hx
      have HY := Lib.hid hy
      clear hx hy
      obtain ⟨p0, p1, _, _, _, _⟩ := T1
      obtain ⟨q0, q1, _, _, _, _⟩ := T2
      simp only [Tok.kt, Prod.mk.injEq] at hxy
      obtain ⟨hk1, hk2⟩ := hxy
      rw [← hk1] at q0
      rw [← hk2] at q1
      clear hk1 hk2
      have i0 : (0 : Int) ≤ (k : Int) := by omega
      have i1 : (k : Int) < (l.length : Int) := by omega
      go_wp2_with fail
      go_region_held3 (fun w' => w'.cell? ⟨b1, k * 6, none⟩ = some (.int .i64 x.kind) ∧ w'.cell? ⟨b1, k * 6 + 1, none⟩ = some (.string ⟨x.text.toArray⟩) ∧ w'.cell? ⟨b2, k * 6, none⟩ = some (.int .i64 x.kind) ∧ w'.cell? ⟨b2, k * 6 + 1, none⟩ = some (.string ⟨x.text.toArray⟩)) (go_keep) (fail)
      go_wp2
      go_roundw
      case rel => exact ⟨k + 1, by omega, by go_num, hf.drew⟩
      case measure => simp [intOf]; omega
    · go_wp2
      go_ret
      exact ⟨rfl, hf⟩
end Go.Proofs.YtklhfbgmadblcaaDoor
