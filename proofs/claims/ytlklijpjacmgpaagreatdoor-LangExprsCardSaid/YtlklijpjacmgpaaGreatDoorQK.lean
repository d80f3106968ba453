/- ReadExpr and Expr of the program. -/
import Derived.Test.YtlklijpjacmgpaaGreatDoorLV
import Derived.Test.YtlklijpjacmgpaaGreatDoorQJ
namespace Go.Proofs.YtlklijpjacmgpaaGreatDoor
open Go.RowKit Go.Maps
set_option linter.unusedVariables false
set_option linter.unusedSimpArgs false
attribute [local go_sem ↓] Go.wp_at_zero Go.wp_at_succ

/-- an expression that is the whole text -/
noncomputable def exprT (n : Nat) (nm : List (List UInt8)) (toks : List Tok) : Except Er Nd := match sumS n nm 0 toks with
  | .error e => .error e
  | .ok (a, r1) => if (hereT r1).kind = 0 then .ok a else .error (80, (hereT r1).at_)
noncomputable def exprS (nm : List (List UInt8)) (s : List UInt8) : Except Er Nd := match scanS s with
  | .bad n p => .error (n, p)
  | .ok toks => exprT (8 * toks.length + 10) nm toks
theorem expr_nz {nm : List (List UInt8)} {s : List UInt8} {c : Int} {p : Pl} (h : exprS nm s = .error (c, p)) : c ≠ 0 := by
  unfold exprS at h
  split at h
  · rename_i n q hs; cases h; exact scanS_bad_ne hs
  · rename_i toks hs
    obtain ⟨g, _⟩ := scanS_good hs
    unfold exprT at h
    split at h
    · rename_i h1; cases h; exact sum_nz g (by omega) h1
    · split at h
      · cases h
      · cases h; decide
def ndO (v : Value) : Obj := .cells #[v] 60 (0, 0)
theorem NmIn.at_ {wn w : World} {Nv : Value} {nm : List (List UInt8)} {b C : Nat} (h : NmIn wn Nv nm) (f : Fr (· = C) wn w) (hC : wn.heap.size ≤ C) (hb : wn.heap.size ≤ b) : NmAt w b Nv nm := by
  obtain ⟨a, cap, rfl, hlc, h2⟩ := h
  refine ⟨a, cap, rfl, fun i x hx => ?_⟩
  have hl := (List.getElem?_eq_some_iff.1 hx).1
  obtain ⟨g, off, e, hgl, hc⟩ := h2 (by omega)
  refine ⟨g, off, e, ?_, by omega⟩
  rw [← hc i x hx]
  exact World.cell?_of_block (f.block g hgl (by omega))
theorem Rdr.notN {w : World} {b C : Nat} {lv nv mv : Value} {o : Nat} {toks r : List Tok} {v : Value} (h : Rdr w b lv nv mv o toks r) (hC : Blk w C (ndO v)) {g : Nat} {a c : Nat} (e : lv = .slice (some ⟨g, 0, none⟩) a c) : g ≠ C := by
  obtain ⟨i, x, ha, hb, g', c', e1, hgb, hgl, hc⟩ := h
  rw [e] at e1
  simp only [Value.slice.injEq, Option.some.injEq, Addr.mk.injEq, and_true] at e1
  obtain ⟨rfl, _⟩ := e1
  intro hgP
  subst hgP
  have hpos := ha.g.pos
  have h1 := hc 0 toks[0] (List.getElem?_eq_getElem hpos) 1 (by omega)
  have h2 := Blk.all hC 1
  rw [show 0 * 6 + 1 = 1 from rfl, h2] at h1
  simp [tokC] at h1
theorem Rdr.farN {w w' : World} {b C : Nat} {lv nv mv : Value} {o : Nat} {toks r : List Tok} {v : Value} (h : Rdr w b lv nv mv o toks r) (hC : Blk w C (ndO v)) (hCb : C ≠ b) (f : Fr (· = C) w w') : Rdr w' b lv nv mv o toks r := by
  have hne := fun (g a c : Nat) (e : lv = .slice (some ⟨g, 0, none⟩) a c) => h.notN hC e
  obtain ⟨i, x, ha, hb, g, c, e1, hgb, hgl, hc⟩ := h
  refine ⟨i, x, ha, hb.fr f (fun e => hCb e.symm), g, c, e1, hgb, Nat.lt_of_lt_of_le hgl f.size, fun i x hx k hk => ?_⟩
  rw [← hc i x hx k hk]
  exact World.cell?_of_block (f.block g hgl (hne g _ _ e1))
def XcS (b C : Nat) : Nat → Prop := fun k => k = b ∨ k = C
def XcOut (w : World) (b C : Nat) (lv nv mv : Value) (toks : List Tok) (res : Except Er (Nd × List Tok)) (e : Ending) (w' : World) : Prop :=
  Fr (XcS b C) w w' ∧ match res with
    | .error (c, p) => Threw c p e ∧ Blk w' C (ndO .nilIface)
    | .ok (a, r1) => e = .returned (.tuple #[]) ∧ Rdr w' b lv nv mv 0 toks r1 ∧ ∃ v, NdIs w' w.heap.size a v ∧ Blk w' C (ndO v)
set_option maxRecDepth 100000 in
set_option maxHeartbeats 2000000 in
theorem rexp_calls {w : World} {b C n : Nat} {lv nv mv : Value} {toks : List Tok} {nm : List (List UInt8)} (hl : toks.length ≤ 5000) (hnl : nm.length ≤ 1000) (h : Rdr w b lv nv mv 0 toks toks) (hn : NmAt w b nv nm) (hC : Blk w C (ndO .nilIface)) (hne : C ≠ b) (hfu : 4 * toks.length + 3 ≤ n) :
    Calls Tryz.prog 52 #[.pointer (some ⟨b, 0, none⟩), .pointer (some ⟨C, 0, none⟩)] w (XcOut w b C lv nv mv toks (sumS n nm 0 toks)) := by
  obtain ⟨res, hres⟩ : ∃ res, sumS n nm 0 toks = res := ⟨_, rfl⟩
  have hs := sum_rdr hl hnl (by omega) hfu h hn
  rw [hres] at hs ⊢
  have HS := Lib.hid hs
  have hCl := hC.lt
  clear hs hres
  go_enter Tryz.func52, Tryz.ntmps52
  go_wp2_with fail
  refine HS.out.mono ?_
  rintro e w1 ⟨hf1, hm1⟩
  have hC1 := hC.fr hf1 hne
  match res, hm1 with
  | .error (c, p), hm1 =>
    have ht : e = _ := hm1
    subst ht
    go_wp2_with fail
    exact ⟨rfl, hf1.mono (fun _ _ e => Or.inl e), rfl, hC1⟩
  | .ok (a, r1), hm1 =>
    obtain ⟨v, rfl, hnd, hR1⟩ := hm1
    obtain ⟨t, x, rfl⟩ := hnd.form
    have RC : ∀ i, w1.cell? ⟨C, i, none⟩ = (#[.nilIface] : Array Value)[i]? := Blk.all hC1
    have ZC := Blk.frees hC1
    go_wp2_with fail
    go_end0
    have hfk := (Fr.refl (· = C) w1).setCell (a := ⟨C, 0, none⟩) (.iface t (.agg x)) (fun _ => rfl)
    have hC2 : Blk _ C (ndO (.iface t (.agg x))) := hC1.setOff 0 (.iface t (.agg x))
    exact ⟨(hf1.mono (fun _ _ e => Or.inl e)).call hfk (fun _ _ e => Or.inr e), rfl, hR1.farN hC1 hne hfk, _, hnd.fr hCl hfk, hC2⟩
def ReOut (w : World) (C : Nat) (res : Except Er Nd) (e : Ending) (w' : World) : Prop :=
  Fr (· = C) w w' ∧ match res with
    | .error (c, p) => e = .returned (.tuple #[.int .i64 c, .agg (plA p)]) ∧ ∃ v, Blk w' C (ndO v)
    | .ok a => e = .returned (.tuple #[.int .i64 0, .agg (plA zeroPl)]) ∧ ∃ v, NdIs w' w.heap.size a v ∧ Blk w' C (ndO v)
set_option maxRecDepth 100000 in
set_option maxHeartbeats 4000000 in
theorem readE_calls {wn w : World} {C : Nat} {Nv : Value} {nm : List (List UInt8)} (s : ByteArray) (hs : s.size ≤ maxLen) (hT : Tb w) (hN : NmIn wn Nv nm) (hfn : Fr No wn w) (hCn : wn.heap.size ≤ C) (hnl : nm.length ≤ 1000) (hC : Blk w C (ndO .nilIface)) :
    Calls Tryz.prog 28 #[.string s, Nv, .func (.func 52) #[] #[.pointer (some ⟨C, 0, none⟩)]] w (ReOut w C (exprS nm s.data.toList)) := by
  obtain ⟨aN, cN, hNv, _, _⟩ := id hN
  have hmf : ∀ (fn : Fn) (first cap : Array Value) (w : World), (Instr.makeFunc fn first cap).run Tryz.prog w = .ok (.func fn first cap) w := fun _ _ _ _ => rfl
  have hmm := @run_makeMap Tryz.prog
  obtain ⟨res, hres⟩ : ∃ res, exprS nm s.data.toList = res := ⟨_, rfl⟩
  rw [hres]
  unfold exprS at hres
  subst hNv
  go_enter_defers Tryz.func28, Tryz.ntmps28
  go_wp2_with fail
  have hE0 := (Blk.new w (eO 0)).alloc (plaO zeroPl)
  have hA0 := Blk.new (w.alloc (eO 0)) (plaO zeroPl)
  have hF0 : Fr (· = C) w ((w.alloc (eO 0)).alloc (plaO zeroPl)) := ((Fr.refl _ w).alloc _).alloc _
  rw [alloc_size] at hA0
  have hT0 := hT.no (((Fr.refl No w).alloc (eO 0)).alloc (plaO zeroPl))
  have hC0 := (hC.alloc (eO 0)).alloc (plaO zeroPl)
  have hszE : ((w.alloc (eO 0)).alloc (plaO zeroPl)).heap.size = w.heap.size + 2 := by rw [alloc_size, alloc_size]
  refine (Scan_any s ((w.alloc (eO 0)).alloc (plaO zeroPl)) hT0 hs).mono ?_
  rintro e w1 ⟨a, c, rfl, ho1, hf1⟩
  have hE1 := hE0.fr hf1 (fun x => x)
  have hA1 := hA0.fr hf1 (fun x => x)
  have hC1 := hC0.fr hf1 (fun x => x)
  have hF1 := hF0.callNo hf1
  have hsz1 := hf1.size
  rw [hszE] at hsz1 ho1
  have hCl : C < w.heap.size := hC.lt
  have hFn : Fr (· = C) wn w := Fr.ofNo hfn
  have hnsz := hfn.size
  clear hE0 hA0 hF0 hT0 hC0 hf1 hszE
  obtain ⟨E, hE⟩ : ∃ E, w.heap.size = E := ⟨_, rfl⟩
  rw [hE] at hE1 hA1 hsz1 ho1 hCl hnsz ⊢
  have HE := Lib.hid hE
  clear hE
  have RE : ∀ i, w1.cell? ⟨E, i, none⟩ = (#[.int .i64 0] : Array Value)[i]? := Blk.all hE1
  have ZE : ∀ i, w1.frozen? ⟨E, i, none⟩ = false := Blk.frees hE1
  have RA : ∀ i, w1.cell? ⟨E + 1, i, none⟩ = (#[.int .i64 0, .int .i64 0, .int .i64 0, .int .i64 0] : Array Value)[i]? := Blk.all hA1
  have ZA : ∀ i, w1.frozen? ⟨E + 1, i, none⟩ = false := Blk.frees hA1
  unfold plA
  cases hsc : scanS s.data.toList with
  | bad n p =>
    rw [hsc] at hres ho1
    simp only at hres
    simp only [Res.toks, Res.code, Res.pl, List.length_nil] at ho1 ⊢
    have hn := scanS_bad_ne hsc
    have hn1 : (n != 0) = true := by simpa using hn
    have HX := Lib.hid (And.intro hres hn)
    clear hres hn hsc
    have hfe := (Fr.refl (fun k => k = E ∨ k = E + 1) w1).setCell (a := ⟨E, 0, none⟩) (.int .i64 n) (fun _ => Or.inl rfl)
    have hfa := fr4 hfe (N := E + 1) (fun _ _ => Or.inr rfl) (.int .i64 p.b) (.int .i64 p.g) (.int .i64 p.l) (.int .i64 p.c)
    have hE2 : Blk _ E (eO n) := (((hE1.setOff 0 (.int .i64 n)).set_ne ⟨E + 1, 0, none⟩ (.int .i64 p.b) (by simp)).set_ne ⟨E + 1, 1, none⟩ (.int .i64 p.g) (by simp)).set_ne ⟨E + 1, 2, none⟩ (.int .i64 p.l) (by simp) |>.set_ne ⟨E + 1, 3, none⟩ (.int .i64 p.c) (by simp)
    have hA2 := set4 (hA1.set_ne ⟨E, 0, none⟩ (.int .i64 n) (by simp)) (.int .i64 p.b) (.int .i64 p.g) (.int .i64 p.l) (.int .i64 p.c)
    obtain ⟨W2, hW2⟩ : ∃ W2, ((((w1.setCell ⟨E, 0, none⟩ (.int .i64 n)).setCell ⟨E + 1, 0, none⟩ (.int .i64 p.b)).setCell ⟨E + 1, 1, none⟩ (.int .i64 p.g)).setCell ⟨E + 1, 2, none⟩ (.int .i64 p.l)).setCell ⟨E + 1, 3, none⟩ (.int .i64 p.c) = W2 := ⟨_, rfl⟩
    rw [hW2] at hfa hE2 hA2
    have HW := Lib.hid hW2
    clear hW2
    have hF2 : Fr (· = C) w W2 := hF1.call hfa (fun k hk e => by have := HE.out; omega)
    have hC2 := hC1.fr hfa (by omega)
    clear hfe hfa hE1 hA1 hF1 hC1
    go_wp2_with fail
    rw [HW.out]
    clear RE ZE RA ZA
    have RE : ∀ i, W2.cell? ⟨E, i, none⟩ = (#[.int .i64 n] : Array Value)[i]? := Blk.all hE2
    have ZE : ∀ i, W2.frozen? ⟨E, i, none⟩ = false := Blk.frees hE2
    have RA : ∀ i, W2.cell? ⟨E + 1, i, none⟩ = (#[.int .i64 p.b, .int .i64 p.g, .int .i64 p.l, .int .i64 p.c] : Array Value)[i]? := Blk.all hA2
    have ZA : ∀ i, W2.frozen? ⟨E + 1, i, none⟩ = false := Blk.frees hA2
    go_region
    all_goals go_wp2_with fail
    have hfe := (Fr.refl (fun k => k = E ∨ k = E + 1) W2).setCell (a := ⟨E, 0, none⟩) (.int .i64 n) (fun _ => Or.inl rfl)
    have hfa := fr4 hfe (N := E + 1) (fun _ _ => Or.inr rfl) (.int .i64 p.b) (.int .i64 p.g) (.int .i64 p.l) (.int .i64 p.c)
    have hE3 : Blk _ E (eO n) := (((hE2.setOff 0 (.int .i64 n)).set_ne ⟨E + 1, 0, none⟩ (.int .i64 p.b) (by simp)).set_ne ⟨E + 1, 1, none⟩ (.int .i64 p.g) (by simp)).set_ne ⟨E + 1, 2, none⟩ (.int .i64 p.l) (by simp) |>.set_ne ⟨E + 1, 3, none⟩ (.int .i64 p.c) (by simp)
    have hA3 := set4 (hA2.set_ne ⟨E, 0, none⟩ (.int .i64 n) (by simp)) (.int .i64 p.b) (.int .i64 p.g) (.int .i64 p.l) (.int .i64 p.c)
    have hF3 : Fr (· = C) w _ := (hF2.call hfa (fun k hk e => by have := HE.out; omega)).drew
    have hC3 := (hC2.fr hfa (by omega)).drew
    refine ⟨_, results_cc rfl _ _ E (E + 1) _ _ rfl rfl (load_errno hE3.drew) (load_place hA3.drew), ?_⟩
    rw [← HX.out.1]
    exact ⟨hF3, rfl, _, hC3⟩
  | ok toks =>
    rw [hsc] at hres ho1
    simp only at hres
    simp only [Res.toks, Res.code, Res.pl] at ho1 ⊢
    obtain ⟨hg, hl⟩ := scanS_good hsc
    have HX := Lib.hid hres
    clear hres hsc
    have hpos := hg.pos
    obtain ⟨W3, hW3⟩ : ∃ W3, ((((((w1.setCell ⟨E, 0, none⟩ (.int .i64 0)).setCell ⟨E + 1, 0, none⟩ (.int .i64 zeroPl.b)).setCell ⟨E + 1, 1, none⟩ (.int .i64 zeroPl.g)).setCell ⟨E + 1, 2, none⟩ (.int .i64 zeroPl.l)).setCell ⟨E + 1, 3, none⟩ (.int .i64 zeroPl.c)).alloc (.map #[] 0)).alloc (rdC (.slice a toks.length c) 0 (.slice aN nm.length cN) 0 (.map (some w1.heap.size))) = W3 := ⟨_, rfl⟩
    have hfe := (Fr.refl (fun k => k = E ∨ k = E + 1) w1).setCell (a := ⟨E, 0, none⟩) (.int .i64 0) (fun _ => Or.inl rfl)
    have hfa := fr4 hfe (N := E + 1) (fun _ _ => Or.inr rfl) (.int .i64 zeroPl.b) (.int .i64 zeroPl.g) (.int .i64 zeroPl.l) (.int .i64 zeroPl.c)
    have hE2 : Blk _ E (eO 0) := (((hE1.setOff 0 (.int .i64 0)).set_ne ⟨E + 1, 0, none⟩ (.int .i64 zeroPl.b) (by simp)).set_ne ⟨E + 1, 1, none⟩ (.int .i64 zeroPl.g) (by simp)).set_ne ⟨E + 1, 2, none⟩ (.int .i64 zeroPl.l) (by simp) |>.set_ne ⟨E + 1, 3, none⟩ (.int .i64 zeroPl.c) (by simp)
    have hA2 := set4 (hA1.set_ne ⟨E, 0, none⟩ (.int .i64 0) (by simp)) (.int .i64 zeroPl.b) (.int .i64 zeroPl.g) (.int .i64 zeroPl.l) (.int .i64 zeroPl.c)
    have hszW : ((((w1.setCell ⟨E, 0, none⟩ (.int .i64 0)).setCell ⟨E + 1, 0, none⟩ (.int .i64 zeroPl.b)).setCell ⟨E + 1, 1, none⟩ (.int .i64 zeroPl.g)).setCell ⟨E + 1, 2, none⟩ (.int .i64 zeroPl.l) |>.setCell ⟨E + 1, 3, none⟩ (.int .i64 zeroPl.c)).heap.size = w1.heap.size := by simp
    obtain ⟨W2, hW2⟩ : ∃ W2, ((((w1.setCell ⟨E, 0, none⟩ (.int .i64 0)).setCell ⟨E + 1, 0, none⟩ (.int .i64 zeroPl.b)).setCell ⟨E + 1, 1, none⟩ (.int .i64 zeroPl.g)).setCell ⟨E + 1, 2, none⟩ (.int .i64 zeroPl.l)).setCell ⟨E + 1, 3, none⟩ (.int .i64 zeroPl.c) = W2 := ⟨_, rfl⟩
    rw [hW2] at hW3 hfa hE2 hA2 hszW
    obtain ⟨m, hm⟩ : ∃ m, w1.heap.size = m := ⟨_, rfl⟩
    rw [hm] at hszW hW3 hsz1
    have hM0 : MkAt (W2.alloc (.map #[] 0)) m [] := by
      have h := World.ownsMap_made (H := Unit) W2 Tryz.prog 9 (plainElem Tryz.prog 3)
      rw [hszW] at h
      exact ⟨_, h, fun x => by simp [DataW.atKey]⟩
    have hR0 := Blk.new (W2.alloc (.map #[] 0)) (rdC (.slice a toks.length c) 0 (.slice aN nm.length cN) 0 (.map (some m)))
    rw [alloc_size, hszW, hW3] at hR0
    have hf3 : Fr (fun k => k = E ∨ k = E + 1) w1 W3 := by rw [← hW3]; exact (hfa.alloc _).alloc _
    have hE3 : Blk W3 E (eO 0) := by rw [← hW3]; exact (hE2.alloc _).alloc _
    have hA3 : Blk W3 (E + 1) (plaO zeroPl) := by rw [← hW3]; exact (hA2.alloc _).alloc _
    have hM3 : MkAt W3 m [] := by rw [← hW3]; exact hM0.keep ((Fr.refl No _).alloc _) (fun x => x)
    have hC3 := hC1.fr hf3 (by omega)
    have hF3 : Fr (· = C) w W3 := hF1.call hf3 (fun k hk e => by have := HE.out; omega)
    have ho3 := own_fr ho1 hf3 (fun k hk e => by have := (ho1.lt k hk).1; omega)
    have hRd : Rdr W3 (m + 1) (.slice a toks.length c) (.slice aN nm.length cN) (.map (some m)) 0 toks toks := by
      refine ⟨0, toks[0], ⟨hg, List.getElem?_eq_getElem hpos, by rw [List.drop_zero]⟩, hR0, ?_⟩
      rcases own_cases ho3 with ⟨_, h2, _⟩ | ⟨g, cap, h1, hB, hgl, hcap⟩
      · omega
      · rw [h1] at ho3
        have hgm := (ho1.lt g (by rw [h1]; rfl)).2
        refine ⟨g, cap, h1, by omega, hgl, fun i x hx k hk => ?_⟩
        obtain ⟨v, hv⟩ : ∃ v, (tokC x)[k]? = some v := ⟨(tokC x)[k]'(by simp [tokC]; omega), List.getElem?_eq_getElem _⟩
        rw [hv]
        exact own_cell ho3 (by rw [toksV_get toks i x k hx hk, hv])
    have hW3l := hR0.lt
    have hNm : NmAt W3 (m + 1) (.slice aN nm.length cN) nm := hN.at_ (hFn.call hF3 (fun _ _ e => e)) hCn (by omega)
    clear hfe hfa hE2 hA2 hM0 hR0 hf3 hC1 hF1 ho3 hE1 hA1
    have HW := Lib.hid (And.intro hW2 hW3)
    have HM := Lib.hid hm
    clear hW2 hW3 hszW
    have hcall := rexp_calls (n := 8 * toks.length + 10) (by omega) hnl hRd hNm hC3 (by omega) (by omega)
    have hcall2 : Calls Tryz.prog 52 #[.pointer (some ⟨m + 1, 0, none⟩), .pointer (some ⟨C, 0, none⟩)] W3 (fun e w4 => XcOut W3 (m + 1) C (.slice a toks.length c) (.slice aN nm.length cN) (.map (some m)) toks (sumS (8 * toks.length + 10) nm 0 toks) e w4) := hcall
    rw [← HW.out.2, ← HW.out.1] at hcall2
    have HC := Lib.hid hcall2
    clear hcall hcall2
    go_wp2_with fail
    refine HC.out.mono ?_
    rw [HW.out.1, HW.out.2]
    rintro e w4 ⟨hf4, hm4⟩
    have hE4 := hE3.fr hf4 (by unfold XcS; omega)
    have hA4 := hA3.fr hf4 (by unfold XcS; omega)
    have hF4 : Fr (· = C) w w4 := hF3.call hf4 (fun k hk e => by have := HE.out; unfold XcS at e; omega)
    clear hE3 hA3 hF3 hC3 hM3 hRd hf4 hNm
    cases hpg : sumS (8 * toks.length + 10) nm 0 toks with
    | error ep =>
      rw [hpg] at hm4
      obtain ⟨c', q⟩ := ep
      simp only [Threw] at hm4
      obtain ⟨hm4, hC4⟩ := hm4
      have hX : Except.error (c', q) = res := by rw [← HX.out]; unfold exprT; rw [hpg]
      have HY := Lib.hid hX
      clear hX HX hpg
      subst hm4
      go_wp2_with fail
      refine leaves_cons (f := 63) (args := #[.pointer (some ⟨E, 0, none⟩), .pointer (some ⟨E + 1, 0, none⟩)]) (by simp) (by simp [go_sem]) ?_
      refine (catch_panicking E (E + 1) 0 _ zeroPl _ [] _ hE4 hA4 (by omega)).mono ?_
      rintro e u' w9 ⟨rfl, rfl, hE9, hA9, hf9⟩
      have hF9 : Fr (· = C) w w9 := hF4.call hf9 (fun k hk e => by have := HE.out; omega)
      refine ⟨_, results_cc rfl _ w9 E (E + 1) _ _ rfl rfl (load_errno hE9) (load_place hA9), ?_⟩
      rw [← HY.out]
      exact ⟨hF9, rfl, _, hC4.fr hf9 (by omega)⟩
    | ok x =>
      rw [hpg] at hm4
      obtain ⟨g, r3⟩ := x
      obtain ⟨rfl, hR4, vE, hPg, hC4⟩ := hm4
      obtain ⟨K, hK⟩ : ∃ K, (hereT r3).kind = K := ⟨_, rfl⟩
      have hX : (if K = 0 then Except.ok g else Except.error (80, (hereT r3).at_)) = res := by rw [← HX.out]; unfold exprT; rw [hpg, ← hK]
      clear HX hpg
      have hfd := fld_kind
      go_wp2_with fail
      refine (here_rdr hR4).mono ?_
      rintro e w5 ⟨rfl, hR5, hf5⟩
      have hE5 := hE4.fr hf5 (fun x => x)
      have hA5 := hA4.fr hf5 (fun x => x)
      have hF5 := hF4.callNo hf5
      have hPg5 := hPg.keep hf5 (fun _ _ x => x)
      have hC5 := hC4.fr hf5 (fun x => x)
      clear hE4 hA4 hF4 hPg hC4 hf5
      simp only [tokC]
      rw [hK]
      by_cases hk : K = 0
      · rw [if_pos hk] at hX
        have HY := Lib.hid hX
        clear hX
        subst hk
        go_wp2_with fail
        refine (need_true (m + 1) _ _).mono ?_
        rintro e w6 ⟨rfl, rfl⟩
        have RE5 : ∀ i, w6.cell? ⟨E, i, none⟩ = (#[.int .i64 0] : Array Value)[i]? := Blk.all hE5
        have ZE5 : ∀ i, w6.frozen? ⟨E, i, none⟩ = false := Blk.frees hE5
        have RA5 : ∀ i, w6.cell? ⟨E + 1, i, none⟩ = (#[.int .i64 0, .int .i64 0, .int .i64 0, .int .i64 0] : Array Value)[i]? := Blk.all hA5
        have ZA5 : ∀ i, w6.frozen? ⟨E + 1, i, none⟩ = false := Blk.frees hA5
        go_wp2_with fail
        have hfe7 := (Fr.refl (fun k => k = E ∨ k = E + 1) w6).setCell (a := ⟨E, 0, none⟩) (.int .i64 0) (fun _ => Or.inl rfl)
        have hfa7 := fr4 hfe7 (N := E + 1) (fun _ _ => Or.inr rfl) (.int .i64 0) (.int .i64 0) (.int .i64 0) (.int .i64 0)
        have hE7 : Blk _ E (eO 0) := (((hE5.setOff 0 (.int .i64 0)).set_ne ⟨E + 1, 0, none⟩ (.int .i64 0) (by simp)).set_ne ⟨E + 1, 1, none⟩ (.int .i64 0) (by simp)).set_ne ⟨E + 1, 2, none⟩ (.int .i64 0) (by simp) |>.set_ne ⟨E + 1, 3, none⟩ (.int .i64 0) (by simp)
        have hA7 : Blk _ (E + 1) (plaO zeroPl) := set4 (hA5.set_ne ⟨E, 0, none⟩ (.int .i64 0) (by simp)) (.int .i64 0) (.int .i64 0) (.int .i64 0) (.int .i64 0)
        have hPg7 := (hPg5.mono (show E + 1 + 1 ≤ W3.heap.size by omega)).keep hfa7 (fun k hk e => by omega)
        have hC7 := hC5.fr hfa7 (by omega)
        have hF7 : Fr (· = C) w _ := hF5.call hfa7 (fun k hk e => by have := HE.out; omega)
        refine leaves_cons (f := 63) (args := #[.pointer (some ⟨E, 0, none⟩), .pointer (some ⟨E + 1, 0, none⟩)]) (by simp) (by simp [go_sem]) ?_
        refine (catch_idle E (E + 1) _).mono ?_
        rintro e u' w9 ⟨rfl, rfl, rfl⟩
        refine ⟨_, results_cc rfl _ _ E (E + 1) _ _ rfl rfl (load_errno hE7) (load_place hA7), ?_⟩
        rw [← HY.out]
        exact ⟨hF7, rfl, _, hPg7.mono (by have := HE.out; omega), hC7⟩
      · rw [if_neg hk] at hX
        have hb : (K == 0) = false := by simpa using hk
        have HY := Lib.hid hX
        clear hX
        go_wp2_with fail
        refine (need_rdr hR5 80).mono ?_
        rintro e w6 ⟨ht, hf6⟩
        simp only [Threw] at ht
        subst ht
        have hE6 := hE5.fr hf6 (fun x => x)
        have hA6 := hA5.fr hf6 (fun x => x)
        have hF6 := hF5.callNo hf6
        have hC6 := hC5.fr hf6 (fun x => x)
        go_wp2_with fail
        refine leaves_cons (f := 63) (args := #[.pointer (some ⟨E, 0, none⟩), .pointer (some ⟨E + 1, 0, none⟩)]) (by simp) (by simp [go_sem]) ?_
        refine (catch_panicking E (E + 1) 0 _ zeroPl _ [] _ hE6 hA6 (by omega)).mono ?_
        rintro e u' w9 ⟨rfl, rfl, hE9, hA9, hf9⟩
        have hF9 : Fr (· = C) w w9 := hF6.call hf9 (fun k hk e => by have := HE.out; omega)
        refine ⟨_, results_cc rfl _ w9 E (E + 1) _ _ rfl rfl (load_errno hE9) (load_place hA9), ?_⟩
        rw [← HY.out]
        exact ⟨hF9, rfl, _, hC6.fr hf9 (by omega)⟩
theorem load_node {w : World} {g : Nat} {v : Value} (hg : Blk w g (ndO v)) : (loadVar 60 ⟨g, 0, none⟩).run Tryz.prog w = .ok v w := by
  have h := Blk.cell (show Blk w g (.cells #[v] 60 (0, 0)) from hg) 0 v rfl
  simp [loadVar, go_sem, h]
theorem results_vtc {fn : Func} {p q r : Tmp} {t1 t2 : TypeId} (h : fn.results = #[.cell p t1, .tmp q, .cell r t2]) (tmps : Array Value) (w : World) (g1 g2 : Nat) (v1 v2 : Value)
    (hp : tmps.getD p undef = .pointer (some ⟨g1, 0, none⟩)) (hr : tmps.getD r undef = .pointer (some ⟨g2, 0, none⟩))
    (L1 : (loadVar t1 ⟨g1, 0, none⟩).run Tryz.prog w = .ok v1 w) (L2 : (loadVar t2 ⟨g2, 0, none⟩).run Tryz.prog w = .ok v2 w) :
    (results fn tmps).run Tryz.prog w = .ok (.tuple #[v1, tmps.getD q undef, v2]) w := by
  have hp' : tmps[p]?.getD undef = .pointer (some ⟨g1, 0, none⟩) := by simpa using hp
  have hr' : tmps[r]?.getD undef = .pointer (some ⟨g2, 0, none⟩) := by simpa using hr
  simp only [results, h]
  simp [hp', hr', asAddr, L1, L2, Sem.run_bind, Result.andThen]
theorem setN {w : World} {C : Nat} {v : Value} (h : Blk w C (ndO v)) (v' : Value) : Blk (w.setCell ⟨C, 0, none⟩ v') C (ndO v') := (show Blk w C (.cells #[v] 60 (0, 0)) from h).setOff 0 v'
/-- both results stored -/
theorem both_set {w0 w : World} {C : Nat} {v : Value} {p : Pl} (hC : Blk w C (ndO v)) (hD : Blk w (C + 1) (plaO p)) (hF : Fr No w0 w) (h0 : w0.heap.size = C) (v' : Value) (q : Pl) :
    Blk (((((w.setCell ⟨C, 0, none⟩ v').setCell ⟨C + 1, 0, none⟩ (.int .i64 q.b)).setCell ⟨C + 1, 1, none⟩ (.int .i64 q.g)).setCell ⟨C + 1, 2, none⟩ (.int .i64 q.l)).setCell ⟨C + 1, 3, none⟩ (.int .i64 q.c)) C (ndO v') ∧
    Blk (((((w.setCell ⟨C, 0, none⟩ v').setCell ⟨C + 1, 0, none⟩ (.int .i64 q.b)).setCell ⟨C + 1, 1, none⟩ (.int .i64 q.g)).setCell ⟨C + 1, 2, none⟩ (.int .i64 q.l)).setCell ⟨C + 1, 3, none⟩ (.int .i64 q.c)) (C + 1) (plaO q) ∧
    Fr No w0 (((((w.setCell ⟨C, 0, none⟩ v').setCell ⟨C + 1, 0, none⟩ (.int .i64 q.b)).setCell ⟨C + 1, 1, none⟩ (.int .i64 q.g)).setCell ⟨C + 1, 2, none⟩ (.int .i64 q.l)).setCell ⟨C + 1, 3, none⟩ (.int .i64 q.c)) ∧
    Fr (fun k => k = C ∨ k = C + 1) w (((((w.setCell ⟨C, 0, none⟩ v').setCell ⟨C + 1, 0, none⟩ (.int .i64 q.b)).setCell ⟨C + 1, 1, none⟩ (.int .i64 q.g)).setCell ⟨C + 1, 2, none⟩ (.int .i64 q.l)).setCell ⟨C + 1, 3, none⟩ (.int .i64 q.c)) := by
  have hC1 := setN hC v'
  have hD1 : Blk (w.setCell ⟨C, 0, none⟩ v') (C + 1) (plaO p) := hD.set_ne ⟨C, 0, none⟩ v' (by simp)
  have f1 := fr4 (Fr.refl (· = C + 1) (w.setCell ⟨C, 0, none⟩ v')) (N := C + 1) (fun _ _ => rfl) (.int .i64 q.b) (.int .i64 q.g) (.int .i64 q.l) (.int .i64 q.c)
  refine ⟨hC1.fr f1 (by omega), set4 hD1 (.int .i64 q.b) (.int .i64 q.g) (.int .i64 q.l) (.int .i64 q.c), ?_, ?_⟩
  · exact fr4 (hF.setCell (a := ⟨C, 0, none⟩) v' (fun h => absurd h (by show ¬ (C < w0.heap.size); omega))) (N := C + 1) (fun i h => absurd h (by show ¬ (C + 1 < w0.heap.size); omega)) (.int .i64 q.b) (.int .i64 q.g) (.int .i64 q.l) (.int .i64 q.c)
  · exact fr4 ((Fr.refl (fun k => k = C ∨ k = C + 1) w).setCell (a := ⟨C, 0, none⟩) v' (fun h => Or.inl rfl)) (N := C + 1) (fun i h => Or.inr rfl) (.int .i64 q.b) (.int .i64 q.g) (.int .i64 q.l) (.int .i64 q.c)
def RxOut (w : World) (r : Int) (res : Except Er Nd) (e : Ending) (w' : World) : Prop :=
  Fr No w w' ∧ if r = 0 then (match res with
    | .error (c, p) => e = .returned (.tuple #[.nilIface, .int .i64 c, .agg (plA p)])
    | .ok a => ∃ v, e = .returned (.tuple #[v, .int .i64 0, .agg (plA zeroPl)]) ∧ NdIs w' w.heap.size a v) else e = .returned (.tuple #[.nilIface, .int .i64 1, .agg (plA zeroPl)])
set_option maxRecDepth 100000 in
set_option maxHeartbeats 4000000 in
theorem ReadExpr_calls {w : World} {Nv : Value} {nm : List (List UInt8)} (s : ByteArray) (hs : s.size ≤ maxLen) (hT : Tb w) (h : NmIn w Nv nm) (hss : ∀ x ∈ nm, x.length ≤ maxLen) (hl : nm.length ≤ maxLen) :
    Calls Tryz.prog 24 #[.string s, Nv] w fun e w' => ∃ r, NmsR nm r ∧ RxOut w r (exprS nm s.data.toList) e w' := by
  obtain ⟨aN, cN, rfl, _, _⟩ := id h
  have hmf : ∀ (fn : Fn) (first cap : Array Value) (w : World), (Instr.makeFunc fn first cap).run Tryz.prog w = .ok (.func fn first cap) w := fun _ _ _ _ => rfl
  obtain ⟨res, hres⟩ : ∃ res, exprS nm s.data.toList = res := ⟨_, rfl⟩
  have hnz : ∀ c p, res = .error (c, p) → c ≠ 0 := fun c p h => expr_nz (hres.trans h)
  have HR := Lib.hid (And.intro hres hnz)
  rw [hres]
  clear hres hnz
  go_enter Tryz.func24, Tryz.ntmps24
  go_wp2_with fail
  have hC0 := (Blk.new w (ndO .nilIface)).alloc (plaO zeroPl)
  have hD0 := Blk.new (w.alloc (ndO .nilIface)) (plaO zeroPl)
  have hF0 : Fr No w _ := ((Fr.refl No w).alloc (ndO .nilIface)).alloc (plaO zeroPl)
  rw [alloc_size] at hD0
  refine (Names_calls (hT.no hF0) (h.fr hF0) hss hl).mono ?_
  rintro e w1 ⟨r, rfl, hr, hf1⟩
  have hC1 := hC0.fr hf1 (fun x => x)
  have hD1 := hD0.fr hf1 (fun x => x)
  have hF1 := hF0.callNo hf1
  have hsz1 := hf1.size
  rw [alloc_size, alloc_size] at hsz1
  clear hC0 hD0 hF0 hf1
  obtain ⟨C, hCe⟩ : ∃ C, w.heap.size = C := ⟨_, rfl⟩
  rw [hCe] at hC1 hD1 hsz1 ⊢
  have HC := Lib.hid hCe
  clear hCe
  have RC : ∀ i, w1.cell? ⟨C, i, none⟩ = (#[.nilIface] : Array Value)[i]? := Blk.all hC1
  have ZC : ∀ i, w1.frozen? ⟨C, i, none⟩ = false := Blk.frees hC1
  have RD : ∀ i, w1.cell? ⟨C + 1, i, none⟩ = (#[.int .i64 0, .int .i64 0, .int .i64 0, .int .i64 0] : Array Value)[i]? := Blk.all hD1
  have ZD : ∀ i, w1.frozen? ⟨C + 1, i, none⟩ = false := Blk.frees hD1
  rcases id hr with ⟨rfl, h16, _⟩ | ⟨rfl, _⟩
  · go_wp2_with fail
    refine (readE_calls s hs (hT.no hF1) h hF1 (Nat.le_of_eq HC.out) (by omega) hC1).mono ?_
    rintro e w2 ⟨hf2, hm2⟩
    rw [HR.out.1] at hm2
    have hD2 := hD1.fr hf2 (by omega)
    have hF2 : Fr No w w2 := hF1.call hf2 (fun k hk e => by have := HC.out; omega)
    clear RC ZC RD ZD hC1 hD1 hF1
    cases hre : res with
    | error ep =>
      obtain ⟨c, p⟩ := ep
      rw [hre] at hm2
      obtain ⟨rfl, v, hC2⟩ := hm2
      have hc := HR.out.2 c p hre
      have hc1 : (c != 0) = true := by simpa using hc
      have RC : ∀ i, w2.cell? ⟨C, i, none⟩ = (#[v] : Array Value)[i]? := Blk.all hC2
      have ZC : ∀ i, w2.frozen? ⟨C, i, none⟩ = false := Blk.frees hC2
      have RD : ∀ i, w2.cell? ⟨C + 1, i, none⟩ = (#[.int .i64 0, .int .i64 0, .int .i64 0, .int .i64 0] : Array Value)[i]? := Blk.all hD2
      have ZD : ∀ i, w2.frozen? ⟨C + 1, i, none⟩ = false := Blk.frees hD2
      have hc0 := Lib.hid hc
      clear hc
      have hD3 := set4 hD2 (.int .i64 p.b) (.int .i64 p.g) (.int .i64 p.l) (.int .i64 p.c)
      have hC3 := hC2.fr (fr4 (Fr.refl (· = C + 1) w2) (N := C + 1) (fun _ _ => rfl) (.int .i64 p.b) (.int .i64 p.g) (.int .i64 p.l) (.int .i64 p.c)) (by omega)
      have hF3 := fr4 hF2 (N := C + 1) (fun i h => absurd h (by have := HC.out; show ¬ (C + 1 < w.heap.size); omega)) (.int .i64 p.b) (.int .i64 p.g) (.int .i64 p.l) (.int .i64 p.c)
      unfold plA
      go_wp2_with fail
      go_region
      all_goals go_wp2_with fail
      obtain ⟨e1, e2, e3, _⟩ := both_set hC3 hD3 hF3 HC.out .nilIface p
      rw [hre]
      exact bodyPost_ret (results_vtc rfl _ _ C (C + 1) _ _ rfl rfl (load_node e1.drew) (load_place e2.drew)) rfl ⟨0, hr, e3.drew, by rw [if_pos rfl]; rfl⟩
    | ok a =>
      rw [hre] at hm2
      obtain ⟨rfl, v, hnd, hC2⟩ := hm2
      obtain ⟨t, x, rfl⟩ := hnd.form
      have RC : ∀ i, w2.cell? ⟨C, i, none⟩ = (#[.iface t (.agg x)] : Array Value)[i]? := Blk.all hC2
      have ZC : ∀ i, w2.frozen? ⟨C, i, none⟩ = false := Blk.frees hC2
      have RD : ∀ i, w2.cell? ⟨C + 1, i, none⟩ = (#[.int .i64 0, .int .i64 0, .int .i64 0, .int .i64 0] : Array Value)[i]? := Blk.all hD2
      have ZD : ∀ i, w2.frozen? ⟨C + 1, i, none⟩ = false := Blk.frees hD2
      unfold plA
      have hD3 := set4 hD2 (.int .i64 0) (.int .i64 0) (.int .i64 0) (.int .i64 0)
      have hC3 := hC2.fr (fr4 (Fr.refl (· = C + 1) w2) (N := C + 1) (fun _ _ => rfl) (.int .i64 0) (.int .i64 0) (.int .i64 0) (.int .i64 0)) (by omega)
      have hF3 := fr4 hF2 (N := C + 1) (fun i h => absurd h (by have := HC.out; show ¬ (C + 1 < w.heap.size); omega)) (.int .i64 0) (.int .i64 0) (.int .i64 0) (.int .i64 0)
      have hN3 := hnd.mono (show C + 1 + 1 ≤ w1.heap.size by omega)
      have hN4 := hN3.keep (fr4 (Fr.refl (· = C + 1) w2) (N := C + 1) (fun _ _ => rfl) (.int .i64 0) (.int .i64 0) (.int .i64 0) (.int .i64 0)) (fun k hk e => by omega)
      go_wp2_with fail
      obtain ⟨e1, e2, e3, e4⟩ := both_set hC3 (p := zeroPl) hD3 hF3 HC.out (.iface t (.agg x)) zeroPl
      have hN5 := hN4.keep e4 (fun k hk e => by omega)
      rw [hre]
      exact bodyPost_ret (results_vtc rfl _ _ C (C + 1) _ _ rfl rfl (load_node e1) (load_place e2)) rfl ⟨0, hr, e3, by rw [if_pos rfl]; exact ⟨_, rfl, by rw [HC.out]; exact hN5.mono (by omega)⟩⟩
  · go_wp2_with fail
    obtain ⟨e1, e2, e3, e4⟩ := both_set hC1 hD1 hF1 HC.out .nilIface zeroPl
    exact bodyPost_ret (results_vtc rfl _ _ C (C + 1) _ _ rfl rfl (load_node e1) (load_place e2)) rfl ⟨1, hr, e3, by rw [if_neg (by decide)]; rfl⟩
end Go.Proofs.YtlklijpjacmgpaaGreatDoor
