/- The reader's small methods. -/
import Derived.Test.YtjmjdmmojgmcdaaDoorLS
import Derived.Test.YtjmjdmmojgmcdaaDoorGh
import Derived.BigQuiet
import Derived.Deep.QuietTactic
namespace Go.Proofs.YtjmjdmmojgmcdaaDoor
open Go.RowKit
set_option linter.unusedVariables false
set_option linter.unusedSimpArgs false
attribute [local go_sem ↓] Go.wp_at_zero Go.wp_at_succ

/-- the reader's cells -/
def rdC (lv : Value) (i : Nat) (nv : Value) (o : Nat) (mv : Value) : Obj := .cells #[lv, .int .i64 i, nv, .int .i64 o, mv] 99 (0, 0)
/-- tokens that can be read -/
def TkAt (w : World) (b : Nat) (lv : Value) (toks : List Tok) : Prop :=
  ∃ g c, lv = .slice (some ⟨g, 0, none⟩) toks.length c ∧ g ≠ b ∧ g < w.heap.size ∧ ∀ i x, toks[i]? = some x → ∀ k, k < 6 → w.cell? ⟨g, i * 6 + k, none⟩ = (tokC x)[k]?

theorem TkAt.no {S : Nat → Prop} {w w' : World} {b : Nat} {lv : Value} {toks : List Tok} (h : TkAt w b lv toks) (f : Fr S w w') (hS : ∀ k, k ≠ b → ¬ S k := by intro k hk; first | exact hk | exact fun x => x) : TkAt w' b lv toks := by
  obtain ⟨g, c, rfl, hgb, hgl, hc⟩ := h
  exact ⟨g, c, rfl, hgb, Nat.lt_of_lt_of_le hgl f.size, fun i x hx k hk => by rw [← hc i x hx k hk]; exact World.cell?_of_block (f.block g hgl (hS g hgb))⟩
theorem results_cell {fn : Func} {p : Tmp} {t1 : TypeId} (h : fn.results = #[.cell p t1]) (tmps : Array Value) (w : World) (g1 : Nat) (cs1 : Array Value)
    (hp : tmps.getD p undef = .pointer (some ⟨g1, 0, none⟩)) (L1 : (loadVar t1 ⟨g1, 0, none⟩).run Tryd.prog w = .ok (.agg cs1) w) :
    (results fn tmps).run Tryd.prog w = .ok (.agg cs1) w := by
  have hp' : tmps[p]?.getD undef = .pointer (some ⟨g1, 0, none⟩) := by simpa using hp
  simp only [results, h]
  simp [hp', asAddr, L1, Sem.run_bind, Result.andThen]

theorem here_calls (b : Nat) (lv nv mv : Value) (i o : Nat) (toks : List Tok) (x : Tok) (w : World) (hb : Blk w b (rdC lv i nv o mv)) (ht : TkAt w b lv toks) (hx : toks[i]? = some x) :
    Calls Tryd.prog 22 #[.pointer (some ⟨b, 0, none⟩)] w fun e w' => e = .returned (.agg (tokC x).toArray) ∧ Fr No w w' := by
  obtain ⟨g, c, rfl, hgb, hgl, hc⟩ := ht
  have hil : i < toks.length := (List.getElem?_eq_some_iff.1 hx).1
  have R := Blk.all hb
  have hbl := hb.lt
  clear hb
  have c0 := hc i x hx 0 (by omega)
  have c1 := hc i x hx 1 (by omega)
  have c2 := hc i x hx 2 (by omega)
  have c3 := hc i x hx 3 (by omega)
  have c4 := hc i x hx 4 (by omega)
  have c5 := hc i x hx 5 (by omega)
  simp only [tokC, List.getElem?_cons_zero, List.getElem?_cons_succ, Nat.add_zero] at c0 c1 c2 c3 c4 c5
  have i0 : (0 : Int) ≤ (i : Int) := by omega
  have i1 : (i : Int) < (toks.length : Int) := by omega
  clear hc hx
  go_enter Tryd.func22, Tryd.ntmps22
  go_wp2_with fail
  go_region
  go_wp2_with fail
  have hW := (Blk.new w (.cells #[.int .i64 x.kind, .string ⟨x.text.toArray⟩, .int .i64 x.at_.b, .int .i64 x.at_.g, .int .i64 x.at_.l, .int .i64 x.at_.c] 59 (0, 0))).drew
  exact bodyPost_ret (results_cell rfl _ _ _ _ rfl (load_tok hW rfl)) rfl ⟨rfl, ((Fr.refl No w).alloc _).drew⟩

theorem fld_kind (k s p0 p1 p2 p3 : Value) (w : World) : (Instr.field 59 (.agg #[k, s, p0, p1, p2, p3]) 0).run Tryd.prog w = .ok k w := by kernel_rfl
theorem fld_text (k s p0 p1 p2 p3 : Value) (w : World) : (Instr.field 59 (.agg #[k, s, p0, p1, p2, p3]) 1).run Tryd.prog w = .ok s w := by kernel_rfl
theorem fld_at (k s p0 p1 p2 p3 : Value) (w : World) : (Instr.field 59 (.agg #[k, s, p0, p1, p2, p3]) 2).run Tryd.prog w = .ok (.agg #[p0, p1, p2, p3]) w := by kernel_rfl

/-- a fault that is thrown -/
def fltV (c : Int) (p : Pl) : Value := .iface 96 (.agg #[.int .i64 c, .int .i64 p.b, .int .i64 p.g, .int .i64 p.l, .int .i64 p.c])
def Threw (c : Int) (p : Pl) (e : Ending) : Prop := e = .panicked [{ v := fltV c p, recovered := false }]

theorem need_true (b : Nat) (c : Int) (w : World) : Calls Tryd.prog 42 #[.pointer (some ⟨b, 0, none⟩), .bool true, .int .i64 c] w fun e w' => e = .returned (.tuple #[]) ∧ w' = w := by
  go_enter Tryd.func42, Tryd.ntmps42
  go_wp2_with fail
  go_end0
  exact ⟨rfl, rfl⟩
set_option maxRecDepth 100000 in
set_option maxHeartbeats 1000000 in
theorem need_false (b : Nat) (c : Int) (lv nv mv : Value) (i o : Nat) (toks : List Tok) (x : Tok) (w : World) (hb : Blk w b (rdC lv i nv o mv)) (ht : TkAt w b lv toks) (hx : toks[i]? = some x) :
    Calls Tryd.prog 42 #[.pointer (some ⟨b, 0, none⟩), .bool false, .int .i64 c] w fun e w' => Threw c x.at_ e ∧ Fr No w w' := by
  go_enter Tryd.func42, Tryd.ntmps42
  go_wp2_with fail
  refine (here_calls b lv nv mv i o toks x _ hb ht hx).mono ?_
  rintro e w1 ⟨rfl, hf⟩
  simp only [tokC]
  have hfa := fld_at
  go_wp2_with fail
  exact ⟨rfl, rfl, hf⟩

theorem set6 {w : World} {N : Nat} {t : TypeId} {a0 a1 a2 a3 a4 a5 : Value} (h : Blk w N (.cells #[a0, a1, a2, a3, a4, a5] t (0, 0))) (v0 v1 v2 v3 v4 v5 : Value) :
    Blk ((((((w.setCell ⟨N, 0, none⟩ v0).setCell ⟨N, 1, none⟩ v1).setCell ⟨N, 2, none⟩ v2).setCell ⟨N, 3, none⟩ v3).setCell ⟨N, 4, none⟩ v4).setCell ⟨N, 5, none⟩ v5) N (.cells #[v0, v1, v2, v3, v4, v5] t (0, 0)) :=
  ((((((h.setOff 0 v0).setOff 1 v1).setOff 2 v2).setOff 3 v3).setOff 4 v4).setOff 5 v5)
theorem far6 {w : World} {b N : Nat} {o : Obj} (h : Blk w b o) (hne : b ≠ N) (v0 v1 v2 v3 v4 v5 : Value) :
    Blk ((((((w.setCell ⟨N, 0, none⟩ v0).setCell ⟨N, 1, none⟩ v1).setCell ⟨N, 2, none⟩ v2).setCell ⟨N, 3, none⟩ v3).setCell ⟨N, 4, none⟩ v4).setCell ⟨N, 5, none⟩ v5) b o :=
  (((((h.set_ne ⟨N, 0, none⟩ v0 hne).set_ne ⟨N, 1, none⟩ v1 hne).set_ne ⟨N, 2, none⟩ v2 hne).set_ne ⟨N, 3, none⟩ v3 hne).set_ne ⟨N, 4, none⟩ v4 hne).set_ne ⟨N, 5, none⟩ v5 hne
theorem fr6 {S : Nat → Prop} {w0 w : World} {N : Nat} (h : Fr S w0 w) (hN : w0.heap.size ≤ N) (v0 v1 v2 v3 v4 v5 : Value) :
    Fr S w0 ((((((w.setCell ⟨N, 0, none⟩ v0).setCell ⟨N, 1, none⟩ v1).setCell ⟨N, 2, none⟩ v2).setCell ⟨N, 3, none⟩ v3).setCell ⟨N, 4, none⟩ v4).setCell ⟨N, 5, none⟩ v5) := by
  have h0 : ∀ i, (⟨N, i, none⟩ : Addr).block < w0.heap.size → S (⟨N, i, none⟩ : Addr).block := fun i h => absurd h (Nat.not_lt.2 hN)
  exact (((((h.setCell v0 (h0 0)).setCell v1 (h0 1)).setCell v2 (h0 2)).setCell v3 (h0 3)).setCell v4 (h0 4)).setCell v5 (h0 5)
theorem Fr.ofNo {S : Nat → Prop} {w w' : World} (h : Fr No w w') : Fr S w w' := (Fr.refl S w).callNo h
/-- one further, but for the end -/
def nxt (x : Tok) (i : Nat) : Nat := if x.kind = 0 then i else i + 1
set_option maxRecDepth 100000 in
set_option maxHeartbeats 1000000 in
theorem rpass_calls (b : Nat) (lv nv mv : Value) (i o : Nat) (toks : List Tok) (x : Tok) (w : World) (hl : toks.length ≤ 100000) (hb : Blk w b (rdC lv i nv o mv)) (ht : TkAt w b lv toks) (hx : toks[i]? = some x) :
    Calls Tryd.prog 43 #[.pointer (some ⟨b, 0, none⟩)] w fun e w' => e = .returned (.agg (tokC x).toArray) ∧ Blk w' b (rdC lv (nxt x i) nv o mv) ∧ Fr (· = b) w w' := by
  have hil : i < toks.length := (List.getElem?_eq_some_iff.1 hx).1
  go_enter Tryd.func43, Tryd.ntmps43
  go_wp2_with fail
  refine (here_calls b lv nv mv i o toks x _ (hb.alloc _) (ht.no ((Fr.refl No w).alloc _)) hx).mono ?_
  rintro e w1 ⟨rfl, hf⟩
  have hb1 := (hb.alloc _).fr hf (fun x => x)
  have n0 := (Blk.new w (.cells #[.int .i64 0, .string ⟨#[]⟩, .int .i64 0, .int .i64 0, .int .i64 0, .int .i64 0] 59 (0, 0))).fr hf (fun x => x)
  have hf1 := ((Fr.refl No w).alloc _).callNo hf
  have R := Blk.all hb1
  have Z := Blk.frees hb1
  have R0 := Blk.all n0
  have Z0 := Blk.frees n0
  have hbl := hb1.lt
  have hbl0 := hb.lt
  have hsz := n0.lt
  have hne : w.heap.size ≠ b := by omega
  have HB := Lib.hid (And.intro hb1 (And.intro n0 (And.intro hf1 hx)))
  clear hb ht hx hf hb1 n0 hf1
  simp only [tokC]
  by_cases h0 : x.kind = 0
  · have hk : (x.kind != 0) = false := by simpa using h0
    have HK := Lib.hid h0
    clear h0
    go_wp2_with fail
    have hn : nxt x i = i := by unfold nxt; rw [if_pos HK.out]
    have hW := (set6 HB.out.2.1 (.int .i64 x.kind) (.string ⟨x.text.toArray⟩) (.int .i64 x.at_.b) (.int .i64 x.at_.g) (.int .i64 x.at_.l) (.int .i64 x.at_.c)).alloc (.cells #[.int .i64 x.kind, .string ⟨x.text.toArray⟩, .int .i64 x.at_.b, .int .i64 x.at_.g, .int .i64 x.at_.l, .int .i64 x.at_.c] 59 (0, 0))
    refine bodyPost_ret (results_cell rfl _ _ _ _ rfl (load_tok hW rfl)) rfl ⟨rfl, ?_, (fr6 (Fr.ofNo HB.out.2.2.1) (Nat.le_refl _) _ _ _ _ _ _).alloc _⟩
    rw [hn]
    exact (far6 HB.out.1 hne.symm _ _ _ _ _ _).alloc _
  · have hk : (x.kind != 0) = true := by simpa using h0
    have HK := Lib.hid h0
    clear h0
    go_wp2_with fail
    have hn : nxt x i = i + 1 := by unfold nxt; rw [if_neg HK.out]
    have hb2 := HB.out.1.setOff 1 (.int .i64 ((i : Int) + 1))
    have hW := (set6 (HB.out.2.1.set_ne ⟨b, 1, none⟩ (.int .i64 ((i : Int) + 1)) hne) (.int .i64 x.kind) (.string ⟨x.text.toArray⟩) (.int .i64 x.at_.b) (.int .i64 x.at_.g) (.int .i64 x.at_.l) (.int .i64 x.at_.c)).alloc (.cells #[.int .i64 x.kind, .string ⟨x.text.toArray⟩, .int .i64 x.at_.b, .int .i64 x.at_.g, .int .i64 x.at_.l, .int .i64 x.at_.c] 59 (0, 0))
    refine bodyPost_ret (results_cell rfl _ _ _ _ rfl (load_tok hW rfl)) rfl ⟨rfl, ?_, (fr6 ((Fr.ofNo (S := (· = b)) HB.out.2.2.1).setCell (a := ⟨b, 1, none⟩) _ (fun _ => rfl)) (Nat.le_refl _) _ _ _ _ _ _).alloc _⟩
    rw [hn]
    exact (far6 hb2 hne.symm _ _ _ _ _ _).alloc _

/-- the tokens from i on -/
structure At (toks : List Tok) (i : Nat) (r : List Tok) (x : Tok) : Prop where
  g : Good toks
  h : toks[i]? = some x
  d : r = toks.drop i
theorem Good.at_ {toks : List Tok} (g : Good toks) {i : Nat} (h : i < toks.length) : ∃ x, At toks i (toks.drop i) x := ⟨toks[i], g, List.getElem?_eq_getElem h, rfl⟩
theorem At.lt {toks : List Tok} {i : Nat} {r : List Tok} {x : Tok} (a : At toks i r x) : i < toks.length := (List.getElem?_eq_some_iff.1 a.h).1
theorem At.cons {toks : List Tok} {i : Nat} {r : List Tok} {x : Tok} (a : At toks i r x) : r = x :: toks.drop (i + 1) := by
  rw [a.d, List.drop_eq_getElem_cons a.lt, (List.getElem?_eq_some_iff.1 a.h).2]
theorem At.here {toks : List Tok} {i : Nat} {r : List Tok} {x : Tok} (a : At toks i r x) : hereT r = x := by rw [a.cons]; rfl
theorem Good.drop {toks : List Tok} (g : Good toks) : ∀ i, i < toks.length → Good (toks.drop i) := by
  intro i
  induction i generalizing toks with
  | zero => intro _; exact g
  | succ i ih =>
    intro h
    cases g with
    | last p => simp at h
    | cons h1 hk hn ht g => simp only [List.drop_succ_cons]; exact ih g (by simpa using h)
theorem At.good {toks : List Tok} {i : Nat} {r : List Tok} {x : Tok} (a : At toks i r x) : Good r := by rw [a.d]; exact a.g.drop i a.lt
theorem At.next {toks : List Tok} {i : Nat} {r : List Tok} {x : Tok} (a : At toks i r x) : ∃ y, At toks (nxt x i) (passT r) y := by
  by_cases h0 : x.kind = 0
  · have e : nxt x i = i := if_pos h0
    rw [e, a.cons]
    exact ⟨x, a.g, a.h, by simp only [passT, if_pos h0]; exact a.cons ▸ a.d⟩
  · have e : nxt x i = i + 1 := if_neg h0
    have hg := a.good.pass
    rw [e]
    rw [a.cons] at hg ⊢
    simp only [passT, if_neg h0] at hg ⊢
    have hl : i + 1 < toks.length := by
      have := hg.pos
      rw [List.length_drop] at this
      omega
    exact ⟨toks[i + 1], a.g, List.getElem?_eq_getElem hl, rfl⟩

/-- the reader at some tokens -/
def Rdr (w : World) (b : Nat) (lv nv mv : Value) (o : Nat) (toks r : List Tok) : Prop :=
  ∃ i x, At toks i r x ∧ Blk w b (rdC lv i nv o mv) ∧ TkAt w b lv toks
theorem Rdr.no {w w' : World} {b : Nat} {lv nv mv : Value} {o : Nat} {toks r : List Tok} (h : Rdr w b lv nv mv o toks r) (f : Fr No w w') : Rdr w' b lv nv mv o toks r := by
  obtain ⟨i, x, a, hb, ht⟩ := h
  exact ⟨i, x, a, hb.fr f (fun x => x), ht.no f⟩
theorem here_rdr {w : World} {b : Nat} {lv nv mv : Value} {o : Nat} {toks r : List Tok} (h : Rdr w b lv nv mv o toks r) :
    Calls Tryd.prog 22 #[.pointer (some ⟨b, 0, none⟩)] w fun e w' => e = .returned (.agg (tokC (hereT r)).toArray) ∧ Rdr w' b lv nv mv o toks r ∧ Fr No w w' := by
  obtain ⟨i, x, a, hb, ht⟩ := h
  refine (here_calls b lv nv mv i o toks x w hb ht a.h).mono ?_
  rintro e w' ⟨rfl, hf⟩
  exact ⟨by rw [a.here], ⟨i, x, a, hb.fr hf (fun x => x), ht.no hf⟩, hf⟩
theorem need_rdr {w : World} {b : Nat} {lv nv mv : Value} {o : Nat} {toks r : List Tok} (h : Rdr w b lv nv mv o toks r) (c : Int) :
    Calls Tryd.prog 42 #[.pointer (some ⟨b, 0, none⟩), .bool false, .int .i64 c] w fun e w' => Threw c (hereT r).at_ e ∧ Fr No w w' := by
  obtain ⟨i, x, a, hb, ht⟩ := h
  rw [a.here]
  exact need_false b c lv nv mv i o toks x w hb ht a.h
theorem pass_rdr {w : World} {b : Nat} {lv nv mv : Value} {o : Nat} {toks r : List Tok} (hl : toks.length ≤ 100000) (h : Rdr w b lv nv mv o toks r) :
    Calls Tryd.prog 43 #[.pointer (some ⟨b, 0, none⟩)] w fun e w' => e = .returned (.agg (tokC (hereT r)).toArray) ∧ Rdr w' b lv nv mv o toks (passT r) ∧ Fr (· = b) w w' := by
  obtain ⟨i, x, a, hb, ht⟩ := h
  refine (rpass_calls b lv nv mv i o toks x w hl hb ht a.h).mono ?_
  rintro e w' ⟨rfl, hb', hf⟩
  obtain ⟨y, a'⟩ := a.next
  exact ⟨by rw [a.here], ⟨_, y, a', hb', ht.no hf⟩, hf⟩
end Go.Proofs.YtjmjdmmojgmcdaaDoor
