/- The reader's small methods; The reader's is, must, name, variable, into, out; The reader's name, variable, into, out; whole.made, whole.Parse of digits. -/
import Derived.Test.YtlklijpjacmgpaaGreatDoorLS
import Derived.Test.YtlklijpjacmgpaaGreatDoorGh
import Derived.BigQuiet
import Derived.Deep.QuietTactic
import Derived.Test.YtlklijpjacmgpaaGreatDoorGc
namespace Go.Proofs.YtlklijpjacmgpaaGreatDoor
open Go.RowKit
set_option linter.unusedVariables false
set_option linter.unusedSimpArgs false
attribute [local go_sem ↓] Go.wp_at_zero Go.wp_at_succ

/-- the reader's cells -/
def rdC (lv : Value) (i : Nat) (nv : Value) (o : Nat) (mv : Value) : Obj := .cells #[lv, .int .i64 i, nv, .int .i64 o, mv] 135 (0, 0)
/-- tokens that can be read -/
def TkAt (w : World) (b : Nat) (lv : Value) (toks : List Tok) : Prop :=
  ∃ g c, lv = .slice (some ⟨g, 0, none⟩) toks.length c ∧ g ≠ b ∧ g < w.heap.size ∧ ∀ i x, toks[i]? = some x → ∀ k, k < 6 → w.cell? ⟨g, i * 6 + k, none⟩ = (tokC x)[k]?

theorem TkAt.no {S : Nat → Prop} {w w' : World} {b : Nat} {lv : Value} {toks : List Tok} (h : TkAt w b lv toks) (f : Fr S w w') (hS : ∀ k, k ≠ b → ¬ S k := by intro k hk; first | exact hk | exact fun x => x) : TkAt w' b lv toks := by
  obtain ⟨g, c, rfl, hgb, hgl, hc⟩ := h
  exact ⟨g, c, rfl, hgb, Nat.lt_of_lt_of_le hgl f.size, fun i x hx k hk => by rw [← hc i x hx k hk]; exact World.cell?_of_block (f.block g hgl (hS g hgb))⟩
theorem results_cell {fn : Func} {p : Tmp} {t1 : TypeId} (h : fn.results = #[.cell p t1]) (tmps : Array Value) (w : World) (g1 : Nat) (cs1 : Array Value)
    (hp : tmps.getD p undef = .pointer (some ⟨g1, 0, none⟩)) (L1 : (loadVar t1 ⟨g1, 0, none⟩).run Tryz.prog w = .ok (.agg cs1) w) :
    (results fn tmps).run Tryz.prog w = .ok (.agg cs1) w := by
  have hp' : tmps[p]?.getD undef = .pointer (some ⟨g1, 0, none⟩) := by simpa using hp
  simp only [results, h]
  simp [hp', asAddr, L1, Sem.run_bind, Result.andThen]

theorem here_calls (b : Nat) (lv nv mv : Value) (i o : Nat) (toks : List Tok) (x : Tok) (w : World) (hb : Blk w b (rdC lv i nv o mv)) (ht : TkAt w b lv toks) (hx : toks[i]? = some x) :
    Calls Tryz.prog 30 #[.pointer (some ⟨b, 0, none⟩)] w fun e w' => e = .returned (.agg (tokC x).toArray) ∧ Fr No w w' := by
  obtain ⟨g, c, rfl, hgb, hgl, hc⟩ := ht
  have hil : i < toks.length := (List.getElem?_eq_some_iff.1 hx).1
  have R := Blk.all hb
  have hbl := hb.lt
  clear hb
  have c0 := hc i x hx 0 (by omega)
  have c1 := hc i x hx 1 (by omega)
  have c2 := hc i x hx 2 (by omega)
  have c3 := hc i x hx 3 (by omega)
  have c4 := hc i x hx 4 (by omega)
  have c5 := hc i x hx 5 (by omega)
  simp only [tokC, List.getElem?_cons_zero, List.getElem?_cons_succ, Nat.add_zero] at c0 c1 c2 c3 c4 c5
  have i0 : (0 : Int) ≤ (i : Int) := by omega
  have i1 : (i : Int) < (toks.length : Int) := by omega
  clear hc hx
  go_enter Tryz.func30, Tryz.ntmps30
  go_wp2_with fail
  go_region
  go_wp2_with fail
  have hW := (Blk.new w (.cells #[.int .i64 x.kind, .string ⟨x.text.toArray⟩, .int .i64 x.at_.b, .int .i64 x.at_.g, .int .i64 x.at_.l, .int .i64 x.at_.c] 83 (0, 0))).drew
  exact bodyPost_ret (results_cell rfl _ _ _ _ rfl (load_tok hW rfl)) rfl ⟨rfl, ((Fr.refl No w).alloc _).drew⟩

theorem fld_kind (k s p0 p1 p2 p3 : Value) (w : World) : (Instr.field 83 (.agg #[k, s, p0, p1, p2, p3]) 0).run Tryz.prog w = .ok k w := by kernel_rfl
theorem fld_text (k s p0 p1 p2 p3 : Value) (w : World) : (Instr.field 83 (.agg #[k, s, p0, p1, p2, p3]) 1).run Tryz.prog w = .ok s w := by kernel_rfl
theorem fld_at (k s p0 p1 p2 p3 : Value) (w : World) : (Instr.field 83 (.agg #[k, s, p0, p1, p2, p3]) 2).run Tryz.prog w = .ok (.agg #[p0, p1, p2, p3]) w := by kernel_rfl

/-- a fault that is thrown -/
def fltV (c : Int) (p : Pl) : Value := .iface 132 (.agg #[.int .i64 c, .int .i64 p.b, .int .i64 p.g, .int .i64 p.l, .int .i64 p.c])
def Threw (c : Int) (p : Pl) (e : Ending) : Prop := e = .panicked [{ v := fltV c p, recovered := false }]

theorem need_true (b : Nat) (c : Int) (w : World) : Calls Tryz.prog 64 #[.pointer (some ⟨b, 0, none⟩), .bool true, .int .i64 c] w fun e w' => e = .returned (.tuple #[]) ∧ w' = w := by
  go_enter Tryz.func64, Tryz.ntmps64
  go_wp2_with fail
  go_end0
  exact ⟨rfl, rfl⟩
set_option maxRecDepth 100000 in
set_option maxHeartbeats 1000000 in
theorem need_false (b : Nat) (c : Int) (lv nv mv : Value) (i o : Nat) (toks : List Tok) (x : Tok) (w : World) (hb : Blk w b (rdC lv i nv o mv)) (ht : TkAt w b lv toks) (hx : toks[i]? = some x) :
    Calls Tryz.prog 64 #[.pointer (some ⟨b, 0, none⟩), .bool false, .int .i64 c] w fun e w' => Threw c x.at_ e ∧ Fr No w w' := by
  go_enter Tryz.func64, Tryz.ntmps64
  go_wp2_with fail
  refine (here_calls b lv nv mv i o toks x _ hb ht hx).mono ?_
  rintro e w1 ⟨rfl, hf⟩
  simp only [tokC]
  have hfa := fld_at
  go_wp2_with fail
  exact ⟨rfl, rfl, hf⟩

theorem set6 {w : World} {N : Nat} {t : TypeId} {a0 a1 a2 a3 a4 a5 : Value} (h : Blk w N (.cells #[a0, a1, a2, a3, a4, a5] t (0, 0))) (v0 v1 v2 v3 v4 v5 : Value) :
    Blk ((((((w.setCell ⟨N, 0, none⟩ v0).setCell ⟨N, 1, none⟩ v1).setCell ⟨N, 2, none⟩ v2).setCell ⟨N, 3, none⟩ v3).setCell ⟨N, 4, none⟩ v4).setCell ⟨N, 5, none⟩ v5) N (.cells #[v0, v1, v2, v3, v4, v5] t (0, 0)) :=
  ((((((h.setOff 0 v0).setOff 1 v1).setOff 2 v2).setOff 3 v3).setOff 4 v4).setOff 5 v5)
theorem far6 {w : World} {b N : Nat} {o : Obj} (h : Blk w b o) (hne : b ≠ N) (v0 v1 v2 v3 v4 v5 : Value) :
    Blk ((((((w.setCell ⟨N, 0, none⟩ v0).setCell ⟨N, 1, none⟩ v1).setCell ⟨N, 2, none⟩ v2).setCell ⟨N, 3, none⟩ v3).setCell ⟨N, 4, none⟩ v4).setCell ⟨N, 5, none⟩ v5) b o :=
  (((((h.set_ne ⟨N, 0, none⟩ v0 hne).set_ne ⟨N, 1, none⟩ v1 hne).set_ne ⟨N, 2, none⟩ v2 hne).set_ne ⟨N, 3, none⟩ v3 hne).set_ne ⟨N, 4, none⟩ v4 hne).set_ne ⟨N, 5, none⟩ v5 hne
theorem fr6 {S : Nat → Prop} {w0 w : World} {N : Nat} (h : Fr S w0 w) (hN : w0.heap.size ≤ N) (v0 v1 v2 v3 v4 v5 : Value) :
    Fr S w0 ((((((w.setCell ⟨N, 0, none⟩ v0).setCell ⟨N, 1, none⟩ v1).setCell ⟨N, 2, none⟩ v2).setCell ⟨N, 3, none⟩ v3).setCell ⟨N, 4, none⟩ v4).setCell ⟨N, 5, none⟩ v5) := by
  have h0 : ∀ i, (⟨N, i, none⟩ : Addr).block < w0.heap.size → S (⟨N, i, none⟩ : Addr).block := fun i h => absurd h (Nat.not_lt.2 hN)
  exact (((((h.setCell v0 (h0 0)).setCell v1 (h0 1)).setCell v2 (h0 2)).setCell v3 (h0 3)).setCell v4 (h0 4)).setCell v5 (h0 5)
theorem Fr.ofNo {S : Nat → Prop} {w w' : World} (h : Fr No w w') : Fr S w w' := (Fr.refl S w).callNo h
/-- one further, but for the end -/
def nxt (x : Tok) (i : Nat) : Nat := if x.kind = 0 then i else i + 1
set_option maxRecDepth 100000 in
set_option maxHeartbeats 1000000 in
theorem rpass_calls (b : Nat) (lv nv mv : Value) (i o : Nat) (toks : List Tok) (x : Tok) (w : World) (hl : toks.length ≤ 100000) (hb : Blk w b (rdC lv i nv o mv)) (ht : TkAt w b lv toks) (hx : toks[i]? = some x) :
    Calls Tryz.prog 65 #[.pointer (some ⟨b, 0, none⟩)] w fun e w' => e = .returned (.agg (tokC x).toArray) ∧ Blk w' b (rdC lv (nxt x i) nv o mv) ∧ Fr (· = b) w w' := by
  have hil : i < toks.length := (List.getElem?_eq_some_iff.1 hx).1
  go_enter Tryz.func65, Tryz.ntmps65
  go_wp2_with fail
  refine (here_calls b lv nv mv i o toks x _ (hb.alloc _) (ht.no ((Fr.refl No w).alloc _)) hx).mono ?_
  rintro e w1 ⟨rfl, hf⟩
  have hb1 := (hb.alloc _).fr hf (fun x => x)
  have n0 := (Blk.new w (.cells #[.int .i64 0, .string ⟨#[]⟩, .int .i64 0, .int .i64 0, .int .i64 0, .int .i64 0] 83 (0, 0))).fr hf (fun x => x)
  have hf1 := ((Fr.refl No w).alloc _).callNo hf
  have R := Blk.all hb1
  have Z := Blk.frees hb1
  have R0 := Blk.all n0
  have Z0 := Blk.frees n0
  have hbl := hb1.lt
  have hbl0 := hb.lt
  have hsz := n0.lt
  have hne : w.heap.size ≠ b := by omega
  have HB := Lib.hid (And.intro hb1 (And.intro n0 (And.intro hf1 hx)))
  clear hb ht hx hf hb1 n0 hf1
  simp only [tokC]
  by_cases h0 : x.kind = 0
  · have hk : (x.kind != 0) = false := by simpa using h0
    have HK := Lib.hid h0
    clear h0
    go_wp2_with fail
    have hn : nxt x i = i := by unfold nxt; rw [if_pos HK.out]
    have hW := (set6 HB.out.2.1 (.int .i64 x.kind) (.string ⟨x.text.toArray⟩) (.int .i64 x.at_.b) (.int .i64 x.at_.g) (.int .i64 x.at_.l) (.int .i64 x.at_.c)).alloc (.cells #[.int .i64 x.kind, .string ⟨x.text.toArray⟩, .int .i64 x.at_.b, .int .i64 x.at_.g, .int .i64 x.at_.l, .int .i64 x.at_.c] 83 (0, 0))
    refine bodyPost_ret (results_cell rfl _ _ _ _ rfl (load_tok hW rfl)) rfl ⟨rfl, ?_, (fr6 (Fr.ofNo HB.out.2.2.1) (Nat.le_refl _) _ _ _ _ _ _).alloc _⟩
    rw [hn]
    exact (far6 HB.out.1 hne.symm _ _ _ _ _ _).alloc _
  · have hk : (x.kind != 0) = true := by simpa using h0
    have HK := Lib.hid h0
    clear h0
    go_wp2_with fail
    have hn : nxt x i = i + 1 := by unfold nxt; rw [if_neg HK.out]
    have hb2 := HB.out.1.setOff 1 (.int .i64 ((i : Int) + 1))
    have hW := (set6 (HB.out.2.1.set_ne ⟨b, 1, none⟩ (.int .i64 ((i : Int) + 1)) hne) (.int .i64 x.kind) (.string ⟨x.text.toArray⟩) (.int .i64 x.at_.b) (.int .i64 x.at_.g) (.int .i64 x.at_.l) (.int .i64 x.at_.c)).alloc (.cells #[.int .i64 x.kind, .string ⟨x.text.toArray⟩, .int .i64 x.at_.b, .int .i64 x.at_.g, .int .i64 x.at_.l, .int .i64 x.at_.c] 83 (0, 0))
    refine bodyPost_ret (results_cell rfl _ _ _ _ rfl (load_tok hW rfl)) rfl ⟨rfl, ?_, (fr6 ((Fr.ofNo (S := (· = b)) HB.out.2.2.1).setCell (a := ⟨b, 1, none⟩) _ (fun _ => rfl)) (Nat.le_refl _) _ _ _ _ _ _).alloc _⟩
    rw [hn]
    exact (far6 hb2 hne.symm _ _ _ _ _ _).alloc _

/-- the tokens from i on -/
structure At (toks : List Tok) (i : Nat) (r : List Tok) (x : Tok) : Prop where
  g : Good toks
  h : toks[i]? = some x
  d : r = toks.drop i
theorem Good.at_ {toks : List Tok} (g : Good toks) {i : Nat} (h : i < toks.length) : ∃ x, At toks i (toks.drop i) x := ⟨toks[i], g, List.getElem?_eq_getElem h, rfl⟩
theorem At.lt {toks : List Tok} {i : Nat} {r : List Tok} {x : Tok} (a : At toks i r x) : i < toks.length := (List.getElem?_eq_some_iff.1 a.h).1
theorem At.cons {toks : List Tok} {i : Nat} {r : List Tok} {x : Tok} (a : At toks i r x) : r = x :: toks.drop (i + 1) := by
  rw [a.d, List.drop_eq_getElem_cons a.lt, (List.getElem?_eq_some_iff.1 a.h).2]
theorem At.here {toks : List Tok} {i : Nat} {r : List Tok} {x : Tok} (a : At toks i r x) : hereT r = x := by rw [a.cons]; rfl
theorem Good.drop {toks : List Tok} (g : Good toks) : ∀ i, i < toks.length → Good (toks.drop i) := by
  intro i
  induction i generalizing toks with
  | zero => intro _; exact g
  | succ i ih =>
    intro h
    cases g with
    | last p => simp at h
    | cons h1 hk hn ht g => simp only [List.drop_succ_cons]; exact ih g (by simpa using h)
theorem At.good {toks : List Tok} {i : Nat} {r : List Tok} {x : Tok} (a : At toks i r x) : Good r := by rw [a.d]; exact a.g.drop i a.lt
theorem At.next {toks : List Tok} {i : Nat} {r : List Tok} {x : Tok} (a : At toks i r x) : ∃ y, At toks (nxt x i) (passT r) y := by
  by_cases h0 : x.kind = 0
  · have e : nxt x i = i := if_pos h0
    rw [e, a.cons]
    exact ⟨x, a.g, a.h, by simp only [passT, if_pos h0]; exact a.cons ▸ a.d⟩
  · have e : nxt x i = i + 1 := if_neg h0
    have hg := a.good.pass
    rw [e]
    rw [a.cons] at hg ⊢
    simp only [passT, if_neg h0] at hg ⊢
    have hl : i + 1 < toks.length := by
      have := hg.pos
      rw [List.length_drop] at this
      omega
    exact ⟨toks[i + 1], a.g, List.getElem?_eq_getElem hl, rfl⟩

/-- the reader at some tokens -/
def Rdr (w : World) (b : Nat) (lv nv mv : Value) (o : Nat) (toks r : List Tok) : Prop :=
  ∃ i x, At toks i r x ∧ Blk w b (rdC lv i nv o mv) ∧ TkAt w b lv toks
theorem Rdr.no {w w' : World} {b : Nat} {lv nv mv : Value} {o : Nat} {toks r : List Tok} (h : Rdr w b lv nv mv o toks r) (f : Fr No w w') : Rdr w' b lv nv mv o toks r := by
  obtain ⟨i, x, a, hb, ht⟩ := h
  exact ⟨i, x, a, hb.fr f (fun x => x), ht.no f⟩
theorem here_rdr {w : World} {b : Nat} {lv nv mv : Value} {o : Nat} {toks r : List Tok} (h : Rdr w b lv nv mv o toks r) :
    Calls Tryz.prog 30 #[.pointer (some ⟨b, 0, none⟩)] w fun e w' => e = .returned (.agg (tokC (hereT r)).toArray) ∧ Rdr w' b lv nv mv o toks r ∧ Fr No w w' := by
  obtain ⟨i, x, a, hb, ht⟩ := h
  refine (here_calls b lv nv mv i o toks x w hb ht a.h).mono ?_
  rintro e w' ⟨rfl, hf⟩
  exact ⟨by rw [a.here], ⟨i, x, a, hb.fr hf (fun x => x), ht.no hf⟩, hf⟩
theorem need_rdr {w : World} {b : Nat} {lv nv mv : Value} {o : Nat} {toks r : List Tok} (h : Rdr w b lv nv mv o toks r) (c : Int) :
    Calls Tryz.prog 64 #[.pointer (some ⟨b, 0, none⟩), .bool false, .int .i64 c] w fun e w' => Threw c (hereT r).at_ e ∧ Fr No w w' := by
  obtain ⟨i, x, a, hb, ht⟩ := h
  rw [a.here]
  exact need_false b c lv nv mv i o toks x w hb ht a.h
theorem pass_rdr {w : World} {b : Nat} {lv nv mv : Value} {o : Nat} {toks r : List Tok} (hl : toks.length ≤ 100000) (h : Rdr w b lv nv mv o toks r) :
    Calls Tryz.prog 65 #[.pointer (some ⟨b, 0, none⟩)] w fun e w' => e = .returned (.agg (tokC (hereT r)).toArray) ∧ Rdr w' b lv nv mv o toks (passT r) ∧ Fr (· = b) w w' := by
  obtain ⟨i, x, a, hb, ht⟩ := h
  refine (rpass_calls b lv nv mv i o toks x w hl hb ht a.h).mono ?_
  rintro e w' ⟨rfl, hb', hf⟩
  obtain ⟨y, a'⟩ := a.next
  exact ⟨by rw [a.here], ⟨_, y, a', hb', ht.no hf⟩, hf⟩
end Go.Proofs.YtlklijpjacmgpaaGreatDoor

namespace Go.Proofs.YtlklijpjacmgpaaGreatDoor
open Go.RowKit
set_option linter.unusedVariables false
set_option linter.unusedSimpArgs false
attribute [local go_sem ↓] Go.wp_at_zero Go.wp_at_succ

set_option maxRecDepth 100000 in
set_option maxHeartbeats 1000000 in
theorem is_rdr {w : World} {b : Nat} {lv nv mv : Value} {o : Nat} {toks r : List Tok} (hl : toks.length ≤ 100000) (x : List UInt8) (h : Rdr w b lv nv mv o toks r) :
    Calls Tryz.prog 32 #[.pointer (some ⟨b, 0, none⟩), .string ⟨x.toArray⟩] w fun e w' => e = .returned (.bool (isT x r)) ∧ Rdr w' b lv nv mv o toks (if isT x r then passT r else r) ∧ Fr (· = b) w w' := by
  obtain ⟨r', hr'⟩ : ∃ r', (if isT x r then passT r else r) = r' := ⟨_, rfl⟩
  rw [hr']
  obtain ⟨R, hR⟩ : ∃ R, isT x r = R := ⟨_, rfl⟩
  rw [hR] at hr' ⊢
  obtain ⟨K, hK⟩ : ∃ K, (hereT r).kind = K := ⟨_, rfl⟩
  obtain ⟨T, hT⟩ : ∃ T, (hereT r).text = T := ⟨_, rfl⟩
  have hR2 := hR
  unfold isT at hR2
  rw [hK, hT] at hR2
  go_enter Tryz.func32, Tryz.ntmps32
  go_wp2_with fail
  refine (here_rdr h).mono ?_
  rintro e w1 ⟨rfl, h1, hf1⟩
  simp only [tokC]
  rw [hK, hT]
  have HR := Lib.hid (And.intro hR2 hr')
  clear hR hR2 hr' hK hT h
  by_cases hx : T = x
  · subst hx
    by_cases hk : K = 3
    · subst hk
      have e : R = true := by rw [← HR.out.1]; simp
      have er : passT r = r' := by rw [← HR.out.2, e]; rfl
      subst e
      go_wp2_with fail
      refine (pass_rdr hl (h1.no ((Fr.refl No w1).alloc _))).mono ?_
      rintro e w2 ⟨rfl, h2, hf2⟩
      go_wp2_with fail
      go_ret
      rw [← er]
      exact ⟨rfl, h2, ((Fr.ofNo hf1).alloc _).call hf2 (fun _ _ x => x)⟩
    · by_cases hk1 : K = 1
      · subst hk1
        clear hk
        have e : R = true := by rw [← HR.out.1]; simp
        have er : passT r = r' := by rw [← HR.out.2, e]; rfl
        subst e
        go_wp2_with fail
        refine (pass_rdr hl (h1.no ((Fr.refl No w1).alloc _))).mono ?_
        rintro e w2 ⟨rfl, h2, hf2⟩
        go_wp2_with fail
        go_ret
        rw [← er]
        exact ⟨rfl, h2, ((Fr.ofNo hf1).alloc _).call hf2 (fun _ _ x => x)⟩
      · have e : R = false := by rw [← HR.out.1]; simp [hk, hk1]
        have er : r = r' := by rw [← HR.out.2, e]; rfl
        have b1 : (K != 3) = true := by simpa using hk
        have b2 : (K != 1) = true := by simpa using hk1
        subst e
        subst er
        clear hk hk1
        go_wp2_with fail
        go_ret
        exact ⟨rfl, h1.no ((Fr.refl No w1).alloc _), (Fr.ofNo hf1).alloc _⟩
  · have hxe : (T == x) = false := by rw [beq_eq_false_iff_ne]; exact hx
    have e : R = false := by rw [← HR.out.1]; simp [hx]
    have er : r = r' := by rw [← HR.out.2, e]; rfl
    subst e
    subst er
    clear hx
    go_wp2_with fail
    go_ret
    exact ⟨rfl, h1.no ((Fr.refl No w1).alloc _), (Fr.ofNo hf1).alloc _⟩
theorem must_yes {w : World} {b : Nat} {lv nv mv : Value} {o : Nat} {toks r : List Tok} (hl : toks.length ≤ 100000) (x : List UInt8) (h : Rdr w b lv nv mv o toks r) (hx : isT x r = true) :
    Calls Tryz.prog 31 #[.pointer (some ⟨b, 0, none⟩), .string ⟨x.toArray⟩] w fun e w' => e = .returned (.tuple #[]) ∧ Rdr w' b lv nv mv o toks (passT r) ∧ Fr (· = b) w w' := by
  go_enter Tryz.func31, Tryz.ntmps31
  go_wp2_with fail
  refine (is_rdr hl x h).mono ?_
  rintro e w1 ⟨rfl, h1, hf1⟩
  rw [hx] at h1 ⊢
  go_wp2_with fail
  refine (need_true b _ _).mono ?_
  rintro e w2 ⟨rfl, rfl⟩
  go_wp2_with fail
  go_end0
  exact ⟨rfl, h1, hf1⟩
theorem must_no {w : World} {b : Nat} {lv nv mv : Value} {o : Nat} {toks r : List Tok} (hl : toks.length ≤ 100000) (x : List UInt8) (h : Rdr w b lv nv mv o toks r) (hx : isT x r = false) :
    Calls Tryz.prog 31 #[.pointer (some ⟨b, 0, none⟩), .string ⟨x.toArray⟩] w fun e w' => Threw 80 (hereT r).at_ e ∧ Fr (· = b) w w' := by
  go_enter Tryz.func31, Tryz.ntmps31
  go_wp2_with fail
  refine (is_rdr hl x h).mono ?_
  rintro e w1 ⟨rfl, h1, hf1⟩
  rw [hx] at h1 ⊢
  go_wp2_with fail
  refine (need_rdr h1 80).mono ?_
  rintro e w2 ⟨ht, hf2⟩
  unfold Threw at ht
  subst ht
  go_wp2_with fail
  exact ⟨rfl, rfl, hf1.callNo hf2⟩
end Go.Proofs.YtlklijpjacmgpaaGreatDoor

namespace Go.Proofs.YtlklijpjacmgpaaGreatDoor
open Go.RowKit
set_option linter.unusedVariables false
set_option linter.unusedSimpArgs false
attribute [local go_sem ↓] Go.wp_at_zero Go.wp_at_succ

set_option maxRecDepth 100000 in
set_option maxHeartbeats 1000000 in
theorem word_calls (x : List UInt8) (w : World) : Calls Tryz.prog 105 #[.string ⟨x.toArray⟩] w fun e w' => e = .returned (.bool (wordS x)) ∧ Fr No w w' := by
  obtain ⟨R, hR⟩ : ∃ R, wordS x = R := ⟨_, rfl⟩
  rw [hR]
  have HR := Lib.hid hR
  clear hR
  go_enter Tryz.func105, Tryz.ntmps105
  go_wp2_with fail
  all_goals (go_ret; exact ⟨by rw [← HR.out]; simp_all [wordS, words, vars_, any_, skip_, stop_, mark_, choose_, or_, loop_, if_, else_, while_], Fr.refl _ _⟩)

set_option maxRecDepth 100000 in
set_option maxHeartbeats 1000000 in
theorem name_rdr {w : World} {b : Nat} {lv nv mv : Value} {o : Nat} {toks r : List Tok} (h : Rdr w b lv nv mv o toks r) :
    Calls Tryz.prog 66 #[.pointer (some ⟨b, 0, none⟩)] w fun e w' => e = .returned (.bool (nameS r)) ∧ Rdr w' b lv nv mv o toks r ∧ Fr No w w' := by
  obtain ⟨R, hR⟩ : ∃ R, nameS r = R := ⟨_, rfl⟩
  rw [hR]
  obtain ⟨K, hK⟩ : ∃ K, (hereT r).kind = K := ⟨_, rfl⟩
  obtain ⟨T, hT⟩ : ∃ T, (hereT r).text = T := ⟨_, rfl⟩
  have hR2 := hR
  unfold nameS at hR2
  rw [hK, hT] at hR2
  obtain ⟨W, hW⟩ : ∃ W, wordS T = W := ⟨_, rfl⟩
  rw [hW] at hR2
  have HW := Lib.hid (And.intro hR2 (And.intro hW (And.intro hK hT)))
  clear hR hR2 hW
  go_enter Tryz.func66, Tryz.ntmps66
  go_wp2_with fail
  refine (here_rdr h).mono ?_
  rintro e w1 ⟨rfl, h1, hf1⟩
  simp only [tokC]
  rw [hK, hT]
  by_cases hk : K = 1
  · have e : R = !W := by rw [← HW.out.1]; simp [hk]
    have HE := Lib.hid e
    subst hk
    clear e hK hT h
    have hfk := fld_kind
    have hft := fld_text
    go_wp2_with fail
    refine (here_rdr h1).mono ?_
    rintro e w2 ⟨rfl, h2, hf2⟩
    simp only [tokC]
    rw [HW.out.2.2.1, HW.out.2.2.2]
    go_wp2_with fail
    refine (word_calls T _).mono ?_
    rintro e w3 ⟨rfl, hf3⟩
    rw [HW.out.2.1]
    go_wp2_with fail
    go_ret
    exact ⟨by rw [HE.out]; rfl, h2.no hf3, (hf1.callNo hf2).callNo hf3⟩
  · have e : R = false := by rw [← HW.out.1]; simp [hk]
    have b1 : (K == 1) = false := by simpa using hk
    have HE := Lib.hid e
    clear e hK hT h hk
    have hfk := fld_kind
    go_wp2_with fail
    go_ret
    exact ⟨by rw [HE.out]; rfl, h1, hf1⟩

set_option maxRecDepth 100000 in
set_option maxHeartbeats 1000000 in
theorem into_rdr {w : World} {b : Nat} {lv nv mv : Value} {o : Nat} {toks r : List Tok} (hl : toks.length ≤ 100000) (x : List UInt8) (h : Rdr w b lv nv mv o toks r) :
    Calls Tryz.prog 144 #[.pointer (some ⟨b, 0, none⟩), .string ⟨x.toArray⟩] w fun e w' => Fr (· = b) w w' ∧ match intoS x o r with
      | .error (c, p) => Threw c p e
      | .ok r1 => e = .returned (.tuple #[]) ∧ Rdr w' b lv nv mv (o + 1) toks r1 := by
  by_cases hs : (hereT r).kind = 3 ∧ (hereT r).text = x
  · by_cases ho : 16 ≤ o
    · have e : intoS x o r = .error (83, (hereT r).at_) := by unfold intoS; rw [if_neg (by simpa using hs), if_pos ho]
      rw [e]
      obtain ⟨hk, hx⟩ := hs
      have hd : decide ((o : Int) < 16) = false := by simp; omega
      clear e ho
      go_enter Tryz.func144, Tryz.ntmps144
      go_wp2_with fail
      refine (here_rdr h).mono ?_
      rintro e w1 ⟨rfl, h1, hf1⟩
      simp only [tokC]
      rw [hk, hx]
      clear hk hx
      go_wp2_with fail
      refine (need_true b _ _).mono ?_
      rintro e w2 ⟨rfl, rfl⟩
      obtain ⟨i, y, a, hb, ht⟩ := h1.no ((Fr.refl No w1).alloc (.cells #[.int .i64 3, .string ⟨x.toArray⟩, .int .i64 (hereT r).at_.b, .int .i64 (hereT r).at_.g, .int .i64 (hereT r).at_.l, .int .i64 (hereT r).at_.c] 83 (0, 0)))
      have R := Blk.all hb
      have Z := Blk.frees hb
      have hbl := hb.lt
      have HB := Lib.hid (And.intro a (And.intro hb ht))
      clear a hb ht h1 h
      go_wp2_with fail
      refine (need_rdr ⟨i, y, HB.out.1, HB.out.2.1, HB.out.2.2⟩ 83).mono ?_
      rintro e w3 ⟨ht, hf3⟩
      unfold Threw at ht
      subst ht
      go_wp2_with fail
      exact ⟨rfl, ((Fr.ofNo hf1).alloc _).callNo hf3, rfl⟩
    · have e : intoS x o r = .ok (passT r) := by unfold intoS; rw [if_neg (by simpa using hs), if_neg ho]
      rw [e]
      obtain ⟨hk, hx⟩ := hs
      have hd : decide ((o : Int) < 16) = true := by simp; omega
      have ho2 : o < 16 := by omega
      clear e ho
      go_enter Tryz.func144, Tryz.ntmps144
      go_wp2_with fail
      refine (here_rdr h).mono ?_
      rintro e w1 ⟨rfl, h1, hf1⟩
      simp only [tokC]
      rw [hk, hx]
      clear hk hx
      go_wp2_with fail
      refine (need_true b _ _).mono ?_
      rintro e w2 ⟨rfl, rfl⟩
      obtain ⟨i, y, a, hb, ht⟩ := h1.no ((Fr.refl No w1).alloc (.cells #[.int .i64 3, .string ⟨x.toArray⟩, .int .i64 (hereT r).at_.b, .int .i64 (hereT r).at_.g, .int .i64 (hereT r).at_.l, .int .i64 (hereT r).at_.c] 83 (0, 0)))
      have R := Blk.all hb
      have Z := Blk.frees hb
      have hbl := hb.lt
      have HB := Lib.hid (And.intro a (And.intro hb ht))
      clear a hb ht h1 h
      go_wp2_with fail
      refine (need_true b _ _).mono ?_
      rintro e w3 ⟨rfl, rfl⟩
      go_wp2_with fail
      have hq := ((Fr.ofNo (S := (· = b)) hf1).alloc (.cells #[.int .i64 3, .string ⟨x.toArray⟩, .int .i64 (hereT r).at_.b, .int .i64 (hereT r).at_.g, .int .i64 (hereT r).at_.l, .int .i64 (hereT r).at_.c] 83 (0, 0))).setCell (a := ⟨b, 3, none⟩) (.int .i64 ((o : Int) + 1)) (fun _ => rfl)
      have hb3 := (HB.out.2.1.setOff 3 (.int .i64 ((o : Int) + 1)))
      have ht3 := HB.out.2.2.no ((Fr.refl (· = b) _).setCell (a := ⟨b, 3, none⟩) (.int .i64 ((o : Int) + 1)) (fun _ => rfl))
      refine (pass_rdr (o := o + 1) (r := r) hl ⟨i, y, HB.out.1, hb3, ht3⟩).mono ?_
      rintro e w4 ⟨rfl, h4, hf4⟩
      go_wp2_with fail
      go_end0
      exact ⟨hq.call hf4 (fun _ _ x => x), rfl, h4⟩
  · have e : intoS x o r = .error (80, (hereT r).at_) := by unfold intoS; rw [if_pos (by simpa using hs)]
    rw [e]
    obtain ⟨K, hK⟩ : ∃ K, (hereT r).kind = K := ⟨_, rfl⟩
    obtain ⟨T, hT⟩ : ∃ T, (hereT r).text = T := ⟨_, rfl⟩
    rw [hK, hT] at hs
    clear e
    by_cases hk : K = 3
    · have hx : (T == x) = false := by rw [beq_eq_false_iff_ne]; exact fun h => hs ⟨hk, h⟩
      subst hk
      clear hs
      go_enter Tryz.func144, Tryz.ntmps144
      go_wp2_with fail
      refine (here_rdr h).mono ?_
      rintro e w1 ⟨rfl, h1, hf1⟩
      simp only [tokC]
      rw [hK, hT]
      clear hK hT h
      go_wp2_with fail
      refine (need_rdr (h1.no ((Fr.refl No w1).alloc _)) 80).mono ?_
      rintro e w3 ⟨ht, hf3⟩
      unfold Threw at ht
      subst ht
      go_wp2_with fail
      exact ⟨rfl, ((Fr.ofNo hf1).alloc _).callNo hf3, rfl⟩
    · have b1 : (K == 3) = false := by simpa using hk
      clear hs hk
      go_enter Tryz.func144, Tryz.ntmps144
      go_wp2_with fail
      refine (here_rdr h).mono ?_
      rintro e w1 ⟨rfl, h1, hf1⟩
      simp only [tokC]
      rw [hK, hT]
      clear hK hT h
      go_wp2_with fail
      refine (need_rdr (h1.no ((Fr.refl No w1).alloc _)) 80).mono ?_
      rintro e w3 ⟨ht, hf3⟩
      unfold Threw at ht
      subst ht
      go_wp2_with fail
      exact ⟨rfl, ((Fr.ofNo hf1).alloc _).callNo hf3, rfl⟩

set_option maxRecDepth 100000 in
set_option maxHeartbeats 1000000 in
theorem out_rdr {w : World} {b : Nat} {lv nv mv : Value} {o : Nat} {toks r : List Tok} (hl : toks.length ≤ 100000) (hom : o ≤ 1000) (x : List UInt8) (h : Rdr w b lv nv mv (o + 1) toks r) :
    Calls Tryz.prog 145 #[.pointer (some ⟨b, 0, none⟩), .string ⟨x.toArray⟩] w fun e w' => Fr (· = b) w w' ∧ match mustS x r with
      | .error (c, p) => Threw c p e
      | .ok r1 => e = .returned (.tuple #[]) ∧ Rdr w' b lv nv mv o toks r1 := by
  cases hx : isT x r with
  | true =>
    have e : mustS x r = .ok (passT r) := by unfold mustS; rw [if_pos hx]
    rw [e]
    go_enter Tryz.func145, Tryz.ntmps145
    go_wp2_with fail
    refine (must_yes hl x h hx).mono ?_
    rintro e w1 ⟨rfl, ⟨i, y, a, hb, ht⟩, hf1⟩
    have R := Blk.all hb
    have Z := Blk.frees hb
    have HB := Lib.hid (And.intro a (And.intro hb ht))
    clear a hb ht h
    go_wp2_with fail
    go_end0
    have hb3 := HB.out.2.1.setOff 3 (.int .i64 (o : Int))
    have ht3 := HB.out.2.2.no ((Fr.refl (· = b) _).setCell (a := ⟨b, 3, none⟩) (.int .i64 (o : Int)) (fun _ => rfl))
    exact ⟨hf1.setCell (a := ⟨b, 3, none⟩) _ (fun _ => rfl), rfl, ⟨i, y, HB.out.1, hb3, ht3⟩⟩
  | false =>
    have e : mustS x r = .error (80, (hereT r).at_) := by unfold mustS; rw [if_neg (by simp [hx])]
    rw [e]
    go_enter Tryz.func145, Tryz.ntmps145
    go_wp2_with fail
    refine (must_no hl x h hx).mono ?_
    rintro e w1 ⟨ht, hf1⟩
    unfold Threw at ht
    subst ht
    go_wp2_with fail
    exact ⟨rfl, hf1, rfl⟩

/-- names that can be read -/
def NmAt (w : World) (b : Nat) (nv : Value) (nm : List (List UInt8)) : Prop :=
  ∃ a c, nv = .slice a nm.length c ∧ ∀ i x, nm[i]? = some x → ∃ g off, a = some ⟨g, off, none⟩ ∧ w.cell? ⟨g, off + i, none⟩ = some (.string ⟨x.toArray⟩) ∧ g ≠ b
theorem NmAt.no {S : Nat → Prop} {w w' : World} {b : Nat} {nv : Value} {nm : List (List UInt8)} (h : NmAt w b nv nm) (f : Fr S w w') (hS : ∀ k, k ≠ b → ¬ S k := by intro k hk; first | exact hk | exact fun x => x) : NmAt w' b nv nm := by
  obtain ⟨a, c, rfl, hc⟩ := h
  refine ⟨a, c, rfl, fun i x hx => ?_⟩
  obtain ⟨g, off, rfl, h1, h2⟩ := hc i x hx
  refine ⟨g, off, rfl, ?_, h2⟩
  have hlt : g < w.heap.size := by
    rcases Nat.lt_or_ge g w.heap.size with hh | hh
    · exact hh
    · simp [World.cell?, hh] at h1
  rw [← h1]
  exact World.cell?_of_block (f.block g hlt (hS g h2))
/-- a name's number, -1: it is none -/
def varI (nm : List (List UInt8)) (x : List UInt8) : Int := match varS nm x with
  | none => -1
  | some v => v
theorem varS_here {nm : List (List UInt8)} {x : List UInt8} {k : Nat} (hk : k < nm.length) (h0 : ∀ j, j < k → nm[j]? ≠ some x) (h : nm[k]? = some x) : varS nm x = some k := by
  unfold varS
  rw [List.findIdx?_eq_some_iff_getElem]
  refine ⟨hk, ?_, fun j hj => ?_⟩
  · have := (List.getElem?_eq_some_iff.1 h).2
    simp [this]
  · have h1 := h0 j hj
    have hj2 : j < nm.length := by omega
    rw [List.getElem?_eq_getElem hj2] at h1
    simpa using h1
theorem varS_none {nm : List (List UInt8)} {x : List UInt8} (h0 : ∀ j, j < nm.length → nm[j]? ≠ some x) : varS nm x = none := by
  unfold varS
  rw [List.findIdx?_eq_none_iff]
  intro y hy
  obtain ⟨j, hj, rfl⟩ := List.mem_iff_getElem.1 hy
  have h1 := h0 j hj
  rw [List.getElem?_eq_getElem hj] at h1
  simpa using h1

set_option maxRecDepth 100000 in
set_option maxHeartbeats 1000000 in
theorem variable_rdr {w : World} {b : Nat} {lv nv mv : Value} {i o : Nat} {nm : List (List UInt8)} (hl : nm.length ≤ 100000) (x : List UInt8) (hb : Blk w b (rdC lv i nv o mv)) (hn : NmAt w b nv nm) :
    Calls Tryz.prog 68 #[.pointer (some ⟨b, 0, none⟩), .string ⟨x.toArray⟩] w fun e w' => e = .returned (.int .i64 (varI nm x)) ∧ Fr No w w' := by
  obtain ⟨V, hV⟩ : ∃ V, varI nm x = V := ⟨_, rfl⟩
  rw [hV]
  have HV := Lib.hid hV
  clear hV
  obtain ⟨a, c, rfl, hc⟩ := hn
  have R := Blk.all hb
  clear hb
  go_enter Tryz.func68, Tryz.ntmps68
  go_wp2_with fail
  go_loopg [12] nm.length (fun r x12 wr => ∃ k : Nat, r = nm.length - k ∧ k ≤ nm.length ∧ x12 = .int .i64 k ∧ wr = w ∧ ∀ j, j < k → nm[j]? ≠ some x)
  case atStart => exact ⟨0, rfl, Nat.zero_le _, rfl, rfl, fun j hj => by omega⟩
  case round =>
    obtain ⟨k, hr, hk, rfl, rfl, h0⟩ := hrel
    have HR := Lib.hid (And.intro hr h0)
    clear hr h0
    by_cases hlt : k < nm.length
    · obtain ⟨y, hy⟩ : ∃ y, nm[k]? = some y := ⟨nm[k], List.getElem?_eq_getElem hlt⟩
      obtain ⟨g, off, rfl, hcc, hgb⟩ := hc k y hy
      have HY := Lib.hid (And.intro hy hc)
      clear hy hc
      have i0 : (0 : Int) ≤ (k : Int) := by omega
      have i1 : (k : Int) < (nm.length : Int) := by omega
      by_cases hxy : x = y
      · have e : V = (k : Int) := by
          rw [← HV.out]
          unfold varI
          rw [varS_here hlt HR.out.2 (by rw [hxy]; exact HY.out.1)]
        subst e
        subst hxy
        go_wp2_with fail
        go_ret
        exact ⟨rfl, Fr.refl _ _⟩
      · have hxe : (x == y) = false := by rw [beq_eq_false_iff_ne]; exact hxy
        have HX := Lib.hid hxy
        clear hxy
        go_wp2_with fail
        go_roundg (nm.length - (k + 1))
        case measure => rw [HR.out.1]; omega
        case rel => exact ⟨k + 1, rfl, by omega, by go_num, rfl, fun j hj => by
          by_cases e : j = k
          · subst e; rw [HY.out.1]; exact fun h => HX.out (Option.some.inj h).symm
          · exact HR.out.2 j (by omega)⟩
    · obtain rfl : k = nm.length := by omega
      have e : V = -1 := by
        rw [← HV.out]
        unfold varI
        rw [varS_none HR.out.2]
      subst e
      clear hc hlt
      go_wp2_with fail
      go_ret
      exact ⟨rfl, Fr.refl _ _⟩
end Go.Proofs.YtlklijpjacmgpaaGreatDoor

namespace Go.Proofs.YtlklijpjacmgpaaGreatDoor
open Go.RowKit
set_option linter.unusedVariables false
set_option linter.unusedSimpArgs false
attribute [local go_sem ↓] Go.wp_at_zero Go.wp_at_succ

/-- a whole number's value -/
abbrev whV (neg : Bool) (a : Option Addr) (n c : Nat) : Value := .agg #[.bool neg, .slice a n c]
theorem load_wh {w : World} {g : Nat} {cs : Array Value} (hg : Blk w g (.cells cs 54 (0, 0))) (hs : cs.size = 2) : (loadVar 54 ⟨g, 0, none⟩).run Tryz.prog w = .ok (.agg cs) w :=
  run_loadVar_row w g _ _ cs _ _ hg Tryz.underlying54 rfl (by rw [hs]; kernel_rfl)

theorem results_ct {fn : Func} {p q : Tmp} {t1 : TypeId} (h : fn.results = #[.cell p t1, .tmp q]) (tmps : Array Value) (w : World) (g1 : Nat) (cs1 : Array Value)
    (hp : tmps.getD p undef = .pointer (some ⟨g1, 0, none⟩)) (L1 : (loadVar t1 ⟨g1, 0, none⟩).run Tryz.prog w = .ok (.agg cs1) w) :
    (results fn tmps).run Tryz.prog w = .ok (.tuple #[.agg cs1, tmps.getD q undef]) w := by
  have hp' : tmps[p]?.getD undef = .pointer (some ⟨g1, 0, none⟩) := by simpa using hp
  simp only [results, h]
  simp [hp', asAddr, L1, Sem.run_bind, Result.andThen]

set_option maxRecDepth 100000 in
set_option maxHeartbeats 1000000 in
theorem made_calls (neg : Bool) (a : Option Addr) (n c : Nat) (w : World) :
    Calls Tryz.prog 85 #[.bool neg, .slice a n c] w fun e w' => e = .returned (whV (neg && decide (0 < n)) a n c) ∧ Fr No w w' := by
  cases neg with
  | false =>
    go_enter Tryz.func85, Tryz.ntmps85
    go_wp2_with fail
    exact bodyPost_ret (results_cell rfl _ _ _ _ rfl (load_wh (Blk.new w (.cells #[.bool false, .slice a n c] 54 (0, 0))) rfl)) rfl ⟨rfl, (Fr.refl No w).alloc _⟩
  | true =>
    go_enter Tryz.func85, Tryz.ntmps85
    go_wp2_with fail
    exact bodyPost_ret (results_cell rfl _ _ _ _ rfl (load_wh (Blk.new w (.cells #[.bool (decide (0 < n)), .slice a n c] 54 (0, 0))) rfl)) rfl ⟨by simp, (Fr.refl No w).alloc _⟩

set_option maxRecDepth 100000 in
set_option maxHeartbeats 1000000 in
theorem wParse_calls (s : ByteArray) (ds : List Nat) (hs : s.data.toList = ds.map UInt8.ofNat) (hd : ∀ d ∈ ds, 48 ≤ d ∧ d ≤ 57) (h0 : ds ≠ []) (hl : ds.length ≤ 4096) (w : World) :
    Calls Tryz.prog 69 #[.string s] w fun e w' => ∃ a c, e = .returned (.tuple #[whV false a (dig L32 (digVal ds)).length c, .int .i64 0]) ∧
      w'.ownsRow w.heap.size 57 1 (.slice a (dig L32 (digVal ds)).length c) (dig L32 (digVal ds)).length (u32s (dig L32 (digVal ds))) ∧ Fr No w w' := by
  obtain ⟨d, r, rfl⟩ : ∃ d r, ds = d :: r := by cases ds with | nil => exact absurd rfl h0 | cons d r => exact ⟨d, r, rfl⟩
  have hdd := hd d (by simp)
  go_enter Tryz.func69, Tryz.ntmps69
  go_wp2_with fail
  have hit0 := World.iter_heap (w.alloc (.cells #[.bool false, .slice none 0 0] 54 (0, 0))) s 0
  rw [show (w.alloc (.cells #[.bool false, .slice none 0 0] 54 (0, 0))).heap.size = w.heap.size + 1 by (show (w.heap.push _).size = _; simp)] at hit0
  have hf0 : Fr No w ((w.alloc (.cells #[.bool false, .slice none 0 0] 54 (0, 0))).iter s 0) := ((Fr.refl No w).alloc _).alloc _
  have hb0 : Blk ((w.alloc (.cells #[.bool false, .slice none 0 0] 54 (0, 0))).iter s 0) w.heap.size (.cells #[.bool false, .slice none 0 0] 54 (0, 0)) := (Blk.new w _).alloc _
  obtain ⟨W, hW⟩ : ∃ W, (w.alloc (.cells #[.bool false, .slice none 0 0] 54 (0, 0))).iter s 0 = W := ⟨_, rfl⟩
  rw [hW] at hit0 hf0 hb0 ⊢
  obtain ⟨hlt, hby⟩ : ∃ h : 0 < s.size, (s[0]'h).toNat = d := byte_at (pre := []) (c := d) (post := r) (s := s) hs (by omega)
  have hnx : ∀ ty, (Instr.next (.pointer (some ⟨w.heap.size + 1, 0, none⟩)) true ty).run Tryz.prog W = _ := fun ty => Lib.run_next_ascii_at _ _ _ _ ty hit0 hlt (by omega)
  rw [hby] at hnx
  have hit2 := Lib.iterAt_heap W (w.heap.size + 1) s 0 (0 + 1) hit0
  have hf2 : Fr No w (W.iterAt (w.heap.size + 1) s (0 + 1)) := hf0.iterAt (fun h => by omega) s _
  have HS := Lib.hid (And.intro hs (And.intro hd (And.intro h0 hl)))
  clear hs hd h0 hl hW
  go_loopg [0, 4] 1 (fun r x0 x4 wr => x0 = .string s ∧ x4 = .bool false ∧ wr = W)
  case atStart => exact ⟨rfl, rfl, rfl⟩
  case round =>
    obtain ⟨rfl, rfl, rfl⟩ := hrel
    have n1 : ((d : Int) == 45) = false := by rw [beq_eq_false_iff_ne]; omega
    have n2 : ((d : Int) == 8722) = false := by rw [beq_eq_false_iff_ne]; omega
    go_wp2_with fail
    have hb2 : Blk (wr.iterAt (w.heap.size + 1) s 1) w.heap.size (.cells #[.bool false, .slice none 0 0] 54 (0, 0)) := hb0.fr ((Fr.refl (· = w.heap.size + 1) wr).iterAt (fun _ => rfl) s 1) (by omega)
    obtain ⟨q1, q2, q3, q4⟩ := HS.out
    refine (Parse_calls s (d :: r) q1 q2 q3 q4 _).mono ?_
    rintro e w2 ⟨a, c, rfl, ho, hf3⟩
    have hb3 := hb2.fr hf3 (fun x => x)
    have hf4 := hf2.callNo hf3
    have ho2 := own_mono (B' := w.heap.size + 1) ho hb2.lt
    obtain ⟨n, hn⟩ : ∃ n, (dig L32 (digVal (d :: r))).length = n := ⟨_, rfl⟩
    obtain ⟨us, hus⟩ : ∃ us, u32s (dig L32 (digVal (d :: r))) = us := ⟨_, rfl⟩
    rw [hn, hus] at ho2
    rw [hn]
    have HN := Lib.hid (And.intro hn hus)
    clear hn hus q1 q2 q3 q4 hit0 hit2 hnx hb0 hf0 hf2 hb2 ho hf3
    go_wp2_with fail
    refine (made_calls false a n c _).mono ?_
    rintro e w3 ⟨rfl, hf5⟩
    have hb5 := hb3.fr hf5 (fun x => x)
    have hf6 := hf4.callNo hf5
    have ho3 := own_fr ho2 hf5 (fun _ _ x => x)
    have R := Blk.all hb5
    have Z := Blk.frees hb5
    go_wp2_with fail
    have hW := (hb5.setOff 0 (.bool false)).setOff 1 (.slice a n c)
    have hne : (Value.slice a n c).ownBlock ≠ some w.heap.size := fun hk => by have := (ho3.lt _ hk).1; omega
    have h0 : ∀ i, (⟨w.heap.size, i, none⟩ : Addr).block < w.heap.size → No (⟨w.heap.size, i, none⟩ : Addr).block := fun i h => absurd h (Nat.lt_irrefl _)
    refine bodyPost_ret (results_ct rfl _ _ _ _ rfl (load_wh hW rfl)) rfl ⟨a, c, by rw [HN.out.1]; rfl, ?_, (hf6.setCell (a := ⟨w.heap.size, 0, none⟩) _ (h0 0)).setCell (a := ⟨w.heap.size, 1, none⟩) _ (h0 1)⟩
    rw [HN.out.1, HN.out.2]
    exact own_mono (ownsRow_setCell_other (ownsRow_setCell_other ho3 hne _) hne _) (Nat.le_succ _)
end Go.Proofs.YtlklijpjacmgpaaGreatDoor
