/- Alone and Expr of the reference. -/
import Derived.Test.YtlklijpjacmgpaaGreatDoorQK
import Derived.Test.YtlklijpjacmgpaaGreatDoorQI
import Derived.Test.YtlklijpjacmgpaaGreatDoorQG
import Derived.Test.YtlklijpjacmgpaaGreatDoorLZ
import Derived.Test.YtlklijpjacmgpaaGreatDoorNB
import Derived.Test.YtlklijpjacmgpaaGreatDoorOG
namespace Go.Proofs.YtlklijpjacmgpaaGreatDoor
open Go.RowKit Go.Maps
set_option linter.unusedVariables false
set_option linter.unusedSimpArgs false
attribute [local go_sem ↓] Go.wp_at_zero Go.wp_at_succ

theorem expr_gd {nm : List (List UInt8)} {s : List UInt8} {a : Nd} (h : exprS nm s = .ok a) : a.ok ∧ (wrS a).length ≤ 10000000 := by
  unfold exprS at h
  split at h
  · cases h
  · rename_i toks hs
    obtain ⟨g, hl⟩ := scanS_good hs
    unfold exprT at h
    split at h
    · cases h
    · rename_i x r1 h1
      split at h
      · cases h
        have q := sum_gd g h1
        exact ⟨q.1, by omega⟩
      · cases h
theorem expr_bk {nm : List (List UInt8)} {s : List UInt8} {a : Nd} (h : exprS nm s = .ok a) : ExOk nm a := by
  unfold exprS at h
  split at h
  · cases h
  · rename_i toks hs
    obtain ⟨g, hl⟩ := scanS_good hs
    unfold exprT at h
    split at h
    · cases h
    · rename_i x r1 h1
      split at h
      · cases h
        exact ((ex_bk nm _).su (by omega) g (scan_names hs) h1).1.1
      · cases h
/-- the text, the code and the place that Expr answers -/
noncomputable def exTx (r : Int) (res : Except Er Nd) : List UInt8 := if r = 0 then (match res with | .ok a => wrS a | .error _ => []) else []
def exCd (r : Int) (res : Except Er Nd) : Int := if r = 0 then (match res with | .ok _ => 0 | .error e => e.1) else 1
def exPl (r : Int) (res : Except Er Nd) : Pl := if r = 0 then (match res with | .ok _ => zeroPl | .error e => e.2) else zeroPl
def ExprOut (w : World) (r : Int) (res : Except Er Nd) (e : Ending) (w' : World) : Prop :=
  Fr No w w' ∧ e = .returned (.tuple #[.string ⟨(exTx r res).toArray⟩, .int .i64 (exCd r res), .agg (plA (exPl r res))])
set_option maxRecDepth 100000 in
set_option maxHeartbeats 4000000 in
theorem Expr_calls {w : World} {Nv : Value} {nm : List (List UInt8)} (s : ByteArray) (hs : s.size ≤ maxLen) (hT : Tb w) (h : NmIn w Nv nm) (hss : ∀ x ∈ nm, x.length ≤ maxLen) (hl : nm.length ≤ maxLen) :
    Calls Tryz.prog 6 #[.string s, Nv] w fun e w' => ∃ r, NmsR nm r ∧ ExprOut w r (exprS nm s.data.toList) e w' := by
  obtain ⟨aN, cN, rfl, _, _⟩ := id h
  obtain ⟨res, hres⟩ : ∃ res, exprS nm s.data.toList = res := ⟨_, rfl⟩
  have hnz : ∀ c p, res = .error (c, p) → c ≠ 0 := fun c p h => expr_nz (hres.trans h)
  have hgd : ∀ a, res = .ok a → a.ok ∧ (wrS a).length ≤ 10000000 := fun a h => expr_gd (hres.trans h)
  have HR := Lib.hid (And.intro hres (And.intro hnz hgd))
  rw [hres]
  clear hres hnz hgd
  go_enter Tryz.func6, Tryz.ntmps6
  go_wp2_with fail
  have hD0 := Blk.new w (plaO zeroPl)
  have hF0 : Fr No w _ := (Fr.refl No w).alloc (plaO zeroPl)
  refine (ReadExpr_calls s hs (hT.no hF0) (h.fr hF0) hss hl).mono ?_
  rintro e w1 ⟨r, hr, hf1, hm1⟩
  rw [HR.out.1] at hm1
  have hD1 := hD0.fr hf1 (fun x => x)
  have hF1 := hF0.callNo hf1
  have hsz1 := hf1.size
  rw [alloc_size] at hsz1
  clear hD0 hF0 hf1
  obtain ⟨D, hDe⟩ : ∃ D, w.heap.size = D := ⟨_, rfl⟩
  rw [hDe] at hD1 hsz1
  rw [hDe]
  have HD := Lib.hid hDe
  clear hDe
  have hcs : (∃ c p, e = .returned (.tuple #[.nilIface, .int .i64 c, .agg (plA p)]) ∧ c ≠ 0 ∧ exTx r res = [] ∧ exCd r res = c ∧ exPl r res = p) ∨ (r = 0 ∧ ∃ a v, res = .ok a ∧ e = .returned (.tuple #[v, .int .i64 0, .agg (plA zeroPl)]) ∧ NdIs w1 (w.alloc (plaO zeroPl)).heap.size a v) := by
    by_cases hr0 : r = 0
    · subst hr0
      rw [if_pos rfl] at hm1
      cases hre : res with
      | error ep =>
        obtain ⟨c, p⟩ := ep
        rw [hre] at hm1
        exact Or.inl ⟨c, p, hm1, HR.out.2.1 c p hre, by simp [exTx], by simp [exCd], by simp [exPl]⟩
      | ok a =>
        rw [hre] at hm1
        obtain ⟨v, he, hnd⟩ := hm1
        exact Or.inr ⟨rfl, a, v, rfl, he, hnd⟩
    · rw [if_neg hr0] at hm1
      exact Or.inl ⟨1, zeroPl, hm1, by decide, by simp [exTx, hr0], by simp [exCd, hr0], by simp [exPl, hr0]⟩
  clear hm1
  rcases hcs with ⟨c, p, rfl, hc, x1, x2, x3⟩ | ⟨rfl, a, v, hre, he, hnd⟩
  · have HX := Lib.hid (And.intro x1 (And.intro x2 x3))
    clear x1 x2 x3
    have hc1 : (c != 0) = true := by simpa using hc
    have hc0 := Lib.hid hc
    clear hc
    have hN := Blk.new w1 (plaO p)
    have hDa := hD1.alloc (plaO p)
    have hFa := hF1.alloc (plaO p)
    obtain ⟨W2, hW2⟩ : ∃ W2, w1.alloc (plaO p) = W2 := ⟨_, rfl⟩
    obtain ⟨N, hNe⟩ : ∃ N, w1.heap.size = N := ⟨_, rfl⟩
    rw [hW2] at hN hDa hFa
    rw [hNe] at hN hsz1
    have HW := Lib.hid (And.intro hW2 hNe)
    clear hW2 hNe
    unfold plA
    go_wp2_with fail
    have RN : ∀ i, W2.cell? ⟨N, i, none⟩ = (#[.int .i64 p.b, .int .i64 p.g, .int .i64 p.l, .int .i64 p.c] : Array Value)[i]? := Blk.all hN
    have RD : ∀ i, W2.cell? ⟨D, i, none⟩ = (#[.int .i64 0, .int .i64 0, .int .i64 0, .int .i64 0] : Array Value)[i]? := Blk.all hDa
    have ZD : ∀ i, W2.frozen? ⟨D, i, none⟩ = false := Blk.frees hDa
    have e1 := HW.out.1
    unfold plaO at e1
    rw [e1, HW.out.2]
    clear e1
    go_region
    all_goals go_wp2_with fail
    have hD3 : Blk _ D (plaO p) := set4 hDa (.int .i64 p.b) (.int .i64 p.g) (.int .i64 p.l) (.int .i64 p.c)
    have hF3 := fr4 hFa (N := D) (fun i h => absurd h (Nat.not_lt.2 (Nat.le_of_eq HD.out))) (.int .i64 p.b) (.int .i64 p.g) (.int .i64 p.l) (.int .i64 p.c)
    exact bodyPost_ret (results_ttc rfl _ _ _ _ rfl (load_place hD3.drew)) rfl ⟨r, hr, hF3.drew, by rw [HX.out.1, HX.out.2.1, HX.out.2.2]; rfl⟩
  · subst he
    obtain ⟨t, x, rfl⟩ := hnd.form
    obtain ⟨hok, hlw⟩ := HR.out.2.2 a hre
    have hDa := hD1.alloc (plaO zeroPl)
    have hFa := hF1.alloc (plaO zeroPl)
    unfold plA
    go_wp2_with fail
    refine (Write_calls hok (hnd.keep ((Fr.refl No w1).alloc (plaO zeroPl)) (fun _ _ x => x)) (by omega)).mono ?_
    rintro e w3 ⟨rfl, hf3⟩
    have hD3 := hDa.fr hf3 (fun x => x)
    have hF3 := hFa.callNo hf3
    have hlt3 := hD3.lt
    have RD : ∀ i, w3.cell? ⟨D, i, none⟩ = (#[.int .i64 0, .int .i64 0, .int .i64 0, .int .i64 0] : Array Value)[i]? := Blk.all hD3
    have ZD : ∀ i, w3.frozen? ⟨D, i, none⟩ = false := Blk.frees hD3
    go_wp2_with fail
    have hD4 : Blk _ D (plaO zeroPl) := set4 hD3 (.int .i64 0) (.int .i64 0) (.int .i64 0) (.int .i64 0)
    have hF4 := fr4 hF3 (N := D) (fun i h => absurd h (Nat.not_lt.2 (Nat.le_of_eq HD.out))) (.int .i64 0) (.int .i64 0) (.int .i64 0) (.int .i64 0)
    exact bodyPost_ret (results_ttc rfl _ _ _ _ rfl (load_place hD4)) rfl ⟨0, hr, hF4, by unfold exTx exCd exPl; rw [if_pos rfl, if_pos rfl, if_pos rfl, hre]; rfl⟩
def AlOut (w : World) (r : Int) (Nv : Value) (nm : List (List UInt8)) (res : Except Er Nd) (e : Ending) (w' : World) : Prop :=
  Fr No w w' ∧ if r = 0 then (match res with
    | .error (c, p) => e = .returned (.tuple #[.pointer none, .int .i64 0, .int .i64 0, .bool false, .int .i64 c, .agg (plA p)])
    | .ok a => ∃ (b q B k : Nat) (Lv Mv Bv Tv Pv : Value) (pl : Pl) (s : PS), e = .returned (.tuple #[.pointer (some ⟨b, 0, none⟩), .int .i64 k, .int .i64 0, .bool false, .int .i64 0, .agg (plA zeroPl)]) ∧ Blk w' b (psO Lv Nv Mv q s) ∧ Blk w' q (pqO Bv Tv Pv pl) ∧ PaN w' B Pv Nv s.parts nm ∧ RepX s.parts a k) else e = .returned (.tuple #[.pointer none, .int .i64 0, .int .i64 0, .bool false, .int .i64 1, .agg (plA zeroPl)])
theorem results_t5c {fn : Func} {p1 p2 p3 p4 p5 r : Tmp} {t2 : TypeId} (h : fn.results = #[.tmp p1, .tmp p2, .tmp p3, .tmp p4, .tmp p5, .cell r t2]) (tmps : Array Value) (w : World) (g2 : Nat) (v2 : Value)
    (hr : tmps.getD r undef = .pointer (some ⟨g2, 0, none⟩)) (L2 : (loadVar t2 ⟨g2, 0, none⟩).run Tryz.prog w = .ok v2 w) :
    (results fn tmps).run Tryz.prog w = .ok (.tuple #[tmps.getD p1 undef, tmps.getD p2 undef, tmps.getD p3 undef, tmps.getD p4 undef, tmps.getD p5 undef, v2]) w := by
  have hr' : tmps[r]?.getD undef = .pointer (some ⟨g2, 0, none⟩) := by simpa using hr
  simp only [results, h]
  simp [hr', asAddr, L2, Sem.run_bind, Result.andThen]
set_option maxRecDepth 100000 in
set_option maxHeartbeats 8000000 in
theorem Alone_calls {w : World} {Nv : Value} {nm : List (List UInt8)} (s : ByteArray) (hs : s.size ≤ maxLen) (h : NmIn w Nv nm) (hss : ∀ x ∈ nm, x.length ≤ maxLen) (hl : nm.length ≤ maxLen) :
    Calls Tryz.prog 26 #[.string s, Nv, .bool false] w fun e w' => ∃ r, NmsR nm r ∧ AlOut w r Nv nm (exprS nm s.data.toList) e w' := by
  obtain ⟨aN, cN, rfl, _, _⟩ := id h
  obtain ⟨res, hres⟩ : ∃ res, exprS nm s.data.toList = res := ⟨_, rfl⟩
  have hnz : ∀ c p, res = .error (c, p) → c ≠ 0 := fun c p h => expr_nz (hres.trans h)
  rw [hres]
  unfold exprS at hres
  have HR := Lib.hid hnz
  clear hnz
  go_enter Tryz.func26, Tryz.ntmps26
  go_wp2_with fail
  have hD0 := Blk.new w (plaO zeroPl)
  have hF0 : Fr No w _ := (Fr.refl No w).alloc (plaO zeroPl)
  refine (rNames_calls (h.fr hF0) hss hl).mono ?_
  rintro e w1 ⟨r, rfl, hr, hf1⟩
  have hD1 := hD0.fr hf1 (fun x => x)
  have hF1 := hF0.callNo hf1
  have hsz1 := hf1.size
  rw [alloc_size] at hsz1
  clear hD0 hF0 hf1
  obtain ⟨D, hDe⟩ : ∃ D, w.heap.size = D := ⟨_, rfl⟩
  rw [hDe] at hD1 hsz1 ⊢
  have HD := Lib.hid hDe
  clear hDe
  have RD : ∀ i, w1.cell? ⟨D, i, none⟩ = (#[.int .i64 0, .int .i64 0, .int .i64 0, .int .i64 0] : Array Value)[i]? := Blk.all hD1
  have ZD : ∀ i, w1.frozen? ⟨D, i, none⟩ = false := Blk.frees hD1
  rcases id hr with ⟨rfl, h16, _⟩ | ⟨rfl, _⟩
  · go_wp2_with fail
    refine (rScan_any s w1 hs).mono ?_
    rintro e w2 ⟨a, c, rfl, ho2, hf2⟩
    have hD2 := hD1.fr hf2 (fun x => x)
    have hN1 := h.fr hF1
    have hsz2 := hf2.size
    unfold plA
    clear RD ZD
    have RD : ∀ i, w2.cell? ⟨D, i, none⟩ = (#[.int .i64 0, .int .i64 0, .int .i64 0, .int .i64 0] : Array Value)[i]? := Blk.all hD2
    have ZD : ∀ i, w2.frozen? ⟨D, i, none⟩ = false := Blk.frees hD2
    cases hsc : scanS s.data.toList with
    | bad n p =>
      rw [hsc] at hres ho2
      simp only at hres
      simp only [Res.toks, Res.code, Res.pl, List.length_nil] at ho2 ⊢
      have hn := scanS_bad_ne hsc
      have hn1 : (n != 0) = true := by simpa using hn
      have hN := Blk.new w2 (plaO p)
      have hDa := hD2.alloc (plaO p)
      have hFa := (hF1.callNo hf2).alloc (plaO p)
      have hlt2 := hD2.lt
      obtain ⟨W2, hW2⟩ : ∃ W2, w2.alloc (plaO p) = W2 := ⟨_, rfl⟩
      obtain ⟨N, hNe⟩ : ∃ N, w2.heap.size = N := ⟨_, rfl⟩
      rw [hW2] at hN hDa hFa
      rw [hNe] at hN hsz2 hlt2
      have HW := Lib.hid (And.intro hW2 (And.intro hNe hres))
      clear hW2 hNe hres RD ZD
      have hn0 := Lib.hid hn
      clear hn
      go_wp2_with fail
      have RN : ∀ i, W2.cell? ⟨N, i, none⟩ = (#[.int .i64 p.b, .int .i64 p.g, .int .i64 p.l, .int .i64 p.c] : Array Value)[i]? := Blk.all hN
      have RD : ∀ i, W2.cell? ⟨D, i, none⟩ = (#[.int .i64 0, .int .i64 0, .int .i64 0, .int .i64 0] : Array Value)[i]? := Blk.all hDa
      have ZD : ∀ i, W2.frozen? ⟨D, i, none⟩ = false := Blk.frees hDa
      have e1 := HW.out.1
      unfold plaO at e1
      rw [e1, HW.out.2.1]
      clear e1
      go_region
      all_goals go_wp2_with fail
      have hD3 : Blk _ D (plaO p) := set4 hDa (.int .i64 p.b) (.int .i64 p.g) (.int .i64 p.l) (.int .i64 p.c)
      have hF3 := fr4 hFa (N := D) (fun i h => absurd h (Nat.not_lt.2 (Nat.le_of_eq HD.out))) (.int .i64 p.b) (.int .i64 p.g) (.int .i64 p.l) (.int .i64 p.c)
      exact bodyPost_ret (results_t5c rfl _ _ _ _ rfl (load_place hD3.drew)) rfl ⟨0, hr, hF3.drew, by rw [if_pos rfl, ← HW.out.2.2]; rfl⟩
    | ok toks =>
      rw [hsc] at hres ho2
      simp only at hres
      simp only [Res.toks, Res.code, Res.pl] at ho2 ⊢
      obtain ⟨hg, hlk⟩ := scanS_good hsc
      have hk := tkOk_of hsc
      have hpos := hg.pos
      have hQ0 := (Blk.new (w2.alloc (plaO zeroPl)) (pqO (.slice none 0 0) (.slice none 0 0) (.slice none 0 0) zeroPl)).alloc (psO (.slice a toks.length c) (.slice aN nm.length cN) (.slice none 0 0) (w2.heap.size + 1) ⟨0, 0, 0, zeroPl, []⟩)
      have hB0 := Blk.new ((w2.alloc (plaO zeroPl)).alloc (pqO (.slice none 0 0) (.slice none 0 0) (.slice none 0 0) zeroPl)) (psO (.slice a toks.length c) (.slice aN nm.length cN) (.slice none 0 0) (w2.heap.size + 1) ⟨0, 0, 0, zeroPl, []⟩)
      have hF0 := (((hf2.alloc (plaO zeroPl)).alloc (pqO (.slice none 0 0) (.slice none 0 0) (.slice none 0 0) zeroPl)).alloc (psO (.slice a toks.length c) (.slice aN nm.length cN) (.slice none 0 0) (w2.heap.size + 1) ⟨0, 0, 0, zeroPl, []⟩))
      have hfo := ((((Fr.refl No w2).alloc (plaO zeroPl)).alloc (pqO (.slice none 0 0) (.slice none 0 0) (.slice none 0 0) zeroPl)).alloc (psO (.slice a toks.length c) (.slice aN nm.length cN) (.slice none 0 0) (w2.heap.size + 1) ⟨0, 0, 0, zeroPl, []⟩))
      have ho3 := own_fr ho2 hfo (fun _ _ x => x)
      rw [alloc_size] at hQ0
      rw [alloc_size, alloc_size] at hB0
      have hP0 : PrM w1 _ (w2.heap.size + 1 + 1) (w2.heap.size + 1) (.slice a toks.length c) (.slice aN nm.length cN) (.slice none 0 0) (.slice none 0 0) (.slice none 0 0) zeroPl toks ⟨0, 0, 0, zeroPl, []⟩ :=
        ⟨hF0, by omega, by omega, by omega, hB0, ⟨.slice none 0 0, [], hQ0, World.ownsRow_nil _ _ _ _, rfl⟩, ho3, hpos, by omega, hg⟩
      have hsu := (exr_all hk hN1 (by omega) (8 * toks.length + 10) (8 * toks.length + 10) (Nat.le_refl _)).su _ _ 0 hP0 rfl rfl (by omega) (by unfold phi; simp only [List.length_nil]; omega) (by simp only [List.drop_zero]; omega)
      have HSU := Lib.hid hsu
      clear hsu hP0 hF0 hfo ho3 hQ0 hB0 ho2 RD ZD
      go_wp2_with fail
      refine HSU.out.mono ?_
      rintro e w5 ⟨s5, v5, rfl, hP5, hX5⟩
      clear HSU
      obtain ⟨b, hb⟩ : ∃ b, w2.heap.size + 1 + 1 = b := ⟨_, rfl⟩
      obtain ⟨q, hq⟩ : ∃ q, w2.heap.size + 1 = q := ⟨_, rfl⟩
      rw [hb, hq] at hP5
      rw [hb]
      have hD5 := hD1.fr hP5.fr (fun x => x)
      have hF5 := hF1.callNo hP5.fr
      obtain ⟨g, cL, hLv, hgl, hgb, hgq, ht5⟩ := hP5.tok
      simp only [Value.slice.injEq] at hLv
      obtain ⟨rfl, _, rfl⟩ := hLv
      obtain ⟨t0, _, _, _, _, _⟩ := ht5
      have hlt5 := hP5.lt
      have i1 : (0 : Int) ≤ (s5.i : Int) := by omega
      have i2 : (s5.i : Int) < (toks.length : Int) := by omega
      have R := Blk.all hP5.blk
      have Z := Blk.frees hP5.blk
      have hbl := hP5.blk.lt
      have hDl := hD5.lt
      have hDb : D ≠ b := by omega
      have RD : ∀ i, w5.cell? ⟨D, i, none⟩ = (#[.int .i64 0, .int .i64 0, .int .i64 0, .int .i64 0] : Array Value)[i]? := Blk.all hD5
      have ZD : ∀ i, w5.frozen? ⟨D, i, none⟩ = false := Blk.frees hD5
      simp only [List.drop_zero] at hX5
      cases hsu : sumS (8 * toks.length + 10) nm 0 toks with
      | error ep =>
        obtain ⟨c', p⟩ := ep
        rw [hsu] at hX5
        obtain ⟨x1, x2, x3, _⟩ := hX5
        have hX : Except.error (c', p) = res := by rw [← hres]; unfold exprT; rw [hsu]
        have hd0 : (s5.err == 0) = false := by rw [beq_eq_false_iff_ne, x1]; exact x2
        have hd1 : (s5.err != 0) = true := by rw [x1]; simpa using x2
        have HX := Lib.hid (And.intro x1 (And.intro x2 (And.intro x3 (And.intro hX hP5))))
        clear x1 x2 x3 hX hP5 hres hsu
        go_wp2_with fail
        go_quiet (fail)
        have hPn := HX.out.2.2.2.2.no ((Fr.refl No w5).drewN nq)
        clear R Z RD ZD hD5 hF5 t0 hDl hbl
        generalize w5.drewN nq = w6 at hPn ⊢
        have R := Blk.all hPn.blk
        have Z := Blk.frees hPn.blk
        have hbl := hPn.blk.lt
        have hD6 := hD1.fr hPn.fr (fun x => x)
        have hF6 := hF1.callNo hPn.fr
        have hDl := hD6.lt
        have RD : ∀ i, w6.cell? ⟨D, i, none⟩ = (#[.int .i64 0, .int .i64 0, .int .i64 0, .int .i64 0] : Array Value)[i]? := Blk.all hD6
        have ZD : ∀ i, w6.frozen? ⟨D, i, none⟩ = false := Blk.frees hD6
        go_wp2_with fail
        obtain ⟨p5, hp5⟩ : ∃ p5, s5.at_ = p5 := ⟨_, rfl⟩
        obtain ⟨c5, hc5⟩ : ∃ c5, s5.err = c5 := ⟨_, rfl⟩
        rw [hc5] at R
        rw [hp5] at R
        have HP := Lib.hid (And.intro hp5 (And.intro hc5 hPn))
        clear hp5 hc5 hPn
        go_region
        all_goals go_wp2_with fail
        have hD7 : Blk _ D (plaO p5) := set4 hD6 (.int .i64 p5.b) (.int .i64 p5.g) (.int .i64 p5.l) (.int .i64 p5.c)
        have hF7 := fr4 hF6 (N := D) (fun i h => absurd h (Nat.not_lt.2 (Nat.le_of_eq HD.out))) (.int .i64 p5.b) (.int .i64 p5.g) (.int .i64 p5.l) (.int .i64 p5.c)
        refine bodyPost_ret (results_t5c rfl _ _ _ _ rfl (load_place hD7.drew)) rfl ⟨0, hr, hF7.drew, ?_⟩
        rw [if_pos rfl, ← HX.out.2.2.2.1, ← HX.out.1, ← HX.out.2.2.1, HP.out.1, HP.out.2.1]
        rfl
      | ok x =>
        obtain ⟨a5, r1⟩ := x
        rw [hsu] at hX5
        obtain ⟨x1, x2, x3, ⟨k5, rfl, x4⟩, x5, x6⟩ := hX5
        have hd0 : (s5.err == 0) = true := by rw [x1]; rfl
        have hKe : (s5.here toks).kind = (hereT r1).kind := by unfold PS.here; rw [x2]
        have hPe : (s5.here toks).at_ = (hereT r1).at_ := by unfold PS.here; rw [x2]
        obtain ⟨K, hK⟩ : ∃ K, (hereT r1).kind = K := ⟨_, rfl⟩
        rw [hKe, hK] at t0
        have hX : (if K = 0 then Except.ok a5 else Except.error (80, (s5.here toks).at_)) = res := by rw [← hres]; unfold exprT; rw [hsu, hPe, ← hK]
        by_cases hk0 : K = 0
        · rw [if_pos hk0] at hX
          have hd1 : (s5.err != 0) = false := by rw [x1]; rfl
          subst hk0
          have HX := Lib.hid (And.intro hX (And.intro x4 hP5))
          clear x1 x2 x3 x4 x5 x6 hX hP5 hres hsu hKe hPe hK
          go_wp2_with fail
          go_quiet (fail)
          have hPn := HX.out.2.2.no ((Fr.refl No w5).drewN nq)
          clear R Z RD ZD hD5 hF5 t0 hDl hbl
          generalize w5.drewN nq = w6 at hPn ⊢
          have R := Blk.all hPn.blk
          have Z := Blk.frees hPn.blk
          have hbl := hPn.blk.lt
          have hD6 := hD1.fr hPn.fr (fun x => x)
          have hF6 := hF1.callNo hPn.fr
          have hDl := hD6.lt
          have RD : ∀ i, w6.cell? ⟨D, i, none⟩ = (#[.int .i64 0, .int .i64 0, .int .i64 0, .int .i64 0] : Array Value)[i]? := Blk.all hD6
          have ZD : ∀ i, w6.frozen? ⟨D, i, none⟩ = false := Blk.frees hD6
          go_wp2_with fail
          have hD7 : Blk _ D (plaO zeroPl) := set4 hD6 (.int .i64 0) (.int .i64 0) (.int .i64 0) (.int .i64 0)
          have hF7 := fr4 hF6 (N := D) (fun i h => absurd h (Nat.not_lt.2 (Nat.le_of_eq HD.out))) (.int .i64 0) (.int .i64 0) (.int .i64 0) (.int .i64 0)
          have hfk := fr4 (Fr.refl (· = D) w6) (N := D) (fun _ _ => rfl) (.int .i64 0) (.int .i64 0) (.int .i64 0) (.int .i64 0)
          obtain ⟨Pv, us, h1, h2, h3⟩ := hPn.pg
          refine bodyPost_ret (results_t5c rfl _ _ _ _ rfl (load_place hD7)) rfl ⟨0, hr, hF7, ?_⟩
          rw [if_pos rfl, ← HX.out.1]
          exact ⟨b, q, w1.heap.size, k5, _, _, _, _, Pv, _, s5, rfl, hPn.blk.fr hfk (fun e => hDb e.symm), h1.fr hfk (by omega), ⟨⟨us, own_fr h2 hfk (fun k hk e => by have := (h2.lt k hk).1; omega), XsAre.apart hfk (fun k hk _ e => by omega) _ _ h3⟩, h.fr hF7⟩, HX.out.2.1⟩
        · rw [if_neg hk0] at hX
          have hkd : (K != 0) = true := by simpa using hk0
          have HX := Lib.hid (And.intro x1 (And.intro hX hP5))
          clear x1 x2 x3 x4 x5 x6 hX hP5 hres hsu hKe hPe hK
          go_wp2_with fail
          go_quiet (fail)
          have hPn := HX.out.2.2.no ((Fr.refl No w5).drewN nq)
          clear R Z RD ZD hD5 hF5 t0 hDl hbl
          generalize w5.drewN nq = w6 at hPn ⊢
          go_wp2_with fail
          refine (fail_ref 80 hPn).mono ?_
          rintro e w7 ⟨rfl, hP7⟩
          have hfl : s5.fail toks 80 = { s5 with err := 80, at_ := (s5.here toks).at_ } := if_pos HX.out.1
          rw [hfl] at hP7
          clear hPn
          obtain ⟨p5, hp5⟩ : ∃ p5, (s5.here toks).at_ = p5 := ⟨_, rfl⟩
          rw [hp5] at hP7
          have HP := Lib.hid hp5
          clear hp5 hfl
          have R := Blk.all hP7.blk
          have Z := Blk.frees hP7.blk
          have hbl := hP7.blk.lt
          have hD6 := hD1.fr hP7.fr (fun x => x)
          have hF6 := hF1.callNo hP7.fr
          have hDl := hD6.lt
          have RD : ∀ i, w7.cell? ⟨D, i, none⟩ = (#[.int .i64 0, .int .i64 0, .int .i64 0, .int .i64 0] : Array Value)[i]? := Blk.all hD6
          have ZD : ∀ i, w7.frozen? ⟨D, i, none⟩ = false := Blk.frees hD6
          clear hP7
          go_wp2_with fail
          go_region
          all_goals go_wp2_with fail
          have hD7 : Blk _ D (plaO p5) := set4 hD6 (.int .i64 p5.b) (.int .i64 p5.g) (.int .i64 p5.l) (.int .i64 p5.c)
          have hF7 := fr4 hF6 (N := D) (fun i h => absurd h (Nat.not_lt.2 (Nat.le_of_eq HD.out))) (.int .i64 p5.b) (.int .i64 p5.g) (.int .i64 p5.l) (.int .i64 p5.c)
          refine bodyPost_ret (results_t5c rfl _ _ _ _ rfl (load_place hD7.drew)) rfl ⟨0, hr, hF7.drew, ?_⟩
          rw [if_pos rfl, ← HX.out.2.1, HP.out]
          rfl
  · go_wp2_with fail
    have hD4 : Blk _ D (plaO zeroPl) := set4 hD1 (.int .i64 0) (.int .i64 0) (.int .i64 0) (.int .i64 0)
    have hF4 := fr4 hF1 (N := D) (fun i h => absurd h (Nat.not_lt.2 (Nat.le_of_eq HD.out))) (.int .i64 0) (.int .i64 0) (.int .i64 0) (.int .i64 0)
    exact bodyPost_ret (results_t5c rfl _ _ _ _ rfl (load_place hD4)) rfl ⟨1, hr, hF4, by rw [if_neg (by decide)]; rfl⟩
theorem blk_ne {w : World} {b d : Nat} {cs cs' : Array Value} {t t' : TypeId} {f f' : Nat × Nat} (h : Blk w b (.cells cs t f)) (h' : Blk w d (.cells cs' t' f')) (ht : t ≠ t') : b ≠ d := by
  rintro rfl
  have h1 : w.heap[b]? = _ := h
  have h2 : w.heap[b]? = _ := h'
  rw [h1] at h2
  simp only [Option.some.injEq, Obj.cells.injEq] at h2
  exact ht h2.2.1
set_option maxRecDepth 100000 in
set_option maxHeartbeats 4000000 in
theorem rExpr_calls {w : World} {Nv : Value} {nm : List (List UInt8)} (s : ByteArray) (hs : s.size ≤ maxLen) (h : NmIn w Nv nm) (hss : ∀ x ∈ nm, x.length ≤ maxLen) (hl : nm.length ≤ maxLen) :
    Calls Tryz.prog 8 #[.string s, Nv] w fun e w' => ∃ r, NmsR nm r ∧ ExprOut w r (exprS nm s.data.toList) e w' := by
  obtain ⟨aN, cN, rfl, _, _⟩ := id h
  obtain ⟨res, hres⟩ : ∃ res, exprS nm s.data.toList = res := ⟨_, rfl⟩
  have hnz : ∀ c p, res = .error (c, p) → c ≠ 0 := fun c p h => expr_nz (hres.trans h)
  have hgd : ∀ a, res = .ok a → a.ok ∧ (wrS a).length ≤ 10000000 := fun a h => expr_gd (hres.trans h)
  have hbk : ∀ a, res = .ok a → ExOk nm a := fun a h => expr_bk (hres.trans h)
  have HR := Lib.hid (And.intro hres (And.intro hnz (And.intro hgd hbk)))
  rw [hres]
  clear hres hnz hgd hbk
  go_enter Tryz.func8, Tryz.ntmps8
  go_wp2_with fail
  have hD0 := Blk.new w (plaO zeroPl)
  have hF0 : Fr No w _ := (Fr.refl No w).alloc (plaO zeroPl)
  refine (Alone_calls s hs (h.fr hF0) hss hl).mono ?_
  rintro e w1 ⟨r, hr, hf1, hm1⟩
  rw [HR.out.1] at hm1
  have hD1 := hD0.fr hf1 (fun x => x)
  have hF1 := hF0.callNo hf1
  have hsz1 := hf1.size
  rw [alloc_size] at hsz1
  clear hD0 hF0 hf1
  obtain ⟨D, hDe⟩ : ∃ D, w.heap.size = D := ⟨_, rfl⟩
  rw [hDe] at hD1 hsz1
  rw [hDe]
  have HD := Lib.hid hDe
  clear hDe
  have hcs : (∃ c p, e = .returned (.tuple #[.pointer none, .int .i64 0, .int .i64 0, .bool false, .int .i64 c, .agg (plA p)]) ∧ c ≠ 0 ∧ exTx r res = [] ∧ exCd r res = c ∧ exPl r res = p) ∨ (r = 0 ∧ ∃ a, res = .ok a ∧ ∃ (b q B k : Nat) (Lv Mv Bv Tv Pv : Value) (pl : Pl) (s : PS), e = .returned (.tuple #[.pointer (some ⟨b, 0, none⟩), .int .i64 k, .int .i64 0, .bool false, .int .i64 0, .agg (plA zeroPl)]) ∧ Blk w1 b (psO Lv (.slice aN nm.length cN) Mv q s) ∧ Blk w1 q (pqO Bv Tv Pv pl) ∧ PaN w1 B Pv (.slice aN nm.length cN) s.parts nm ∧ RepX s.parts a k) := by
    by_cases hr0 : r = 0
    · subst hr0
      rw [if_pos rfl] at hm1
      cases hre : res with
      | error ep =>
        obtain ⟨c, p⟩ := ep
        rw [hre] at hm1
        exact Or.inl ⟨c, p, hm1, HR.out.2.1 c p hre, by simp [exTx], by simp [exCd], by simp [exPl]⟩
      | ok a =>
        rw [hre] at hm1
        exact Or.inr ⟨rfl, a, rfl, hm1⟩
    · rw [if_neg hr0] at hm1
      exact Or.inl ⟨1, zeroPl, hm1, by decide, by simp [exTx, hr0], by simp [exCd, hr0], by simp [exPl, hr0]⟩
  clear hm1
  rcases hcs with ⟨c, p, rfl, hc, x1, x2, x3⟩ | ⟨rfl, a, hre, b, q, B, k, Lv, Mv, Bv, Tv, Pv, pl, sP, rfl, hbB, hbQ, hPa, hRp⟩
  · have HX := Lib.hid (And.intro x1 (And.intro x2 x3))
    clear x1 x2 x3
    have hc1 : (c != 0) = true := by simpa using hc
    have hc0 := Lib.hid hc
    clear hc
    have hN := Blk.new w1 (plaO p)
    have hDa := hD1.alloc (plaO p)
    have hFa := hF1.alloc (plaO p)
    obtain ⟨W2, hW2⟩ : ∃ W2, w1.alloc (plaO p) = W2 := ⟨_, rfl⟩
    obtain ⟨N, hNe⟩ : ∃ N, w1.heap.size = N := ⟨_, rfl⟩
    rw [hW2] at hN hDa hFa
    rw [hNe] at hN hsz1
    have HW := Lib.hid (And.intro hW2 hNe)
    clear hW2 hNe
    unfold plA
    go_wp2_with fail
    have RN : ∀ i, W2.cell? ⟨N, i, none⟩ = (#[.int .i64 p.b, .int .i64 p.g, .int .i64 p.l, .int .i64 p.c] : Array Value)[i]? := Blk.all hN
    have RD : ∀ i, W2.cell? ⟨D, i, none⟩ = (#[.int .i64 0, .int .i64 0, .int .i64 0, .int .i64 0] : Array Value)[i]? := Blk.all hDa
    have ZD : ∀ i, W2.frozen? ⟨D, i, none⟩ = false := Blk.frees hDa
    have e1 := HW.out.1
    unfold plaO at e1
    rw [e1, HW.out.2]
    clear e1
    go_region
    all_goals go_wp2_with fail
    have hD3 : Blk _ D (plaO p) := set4 hDa (.int .i64 p.b) (.int .i64 p.g) (.int .i64 p.l) (.int .i64 p.c)
    have hF3 := fr4 hFa (N := D) (fun i h => absurd h (Nat.not_lt.2 (Nat.le_of_eq HD.out))) (.int .i64 p.b) (.int .i64 p.g) (.int .i64 p.l) (.int .i64 p.c)
    exact bodyPost_ret (results_ttc rfl _ _ _ _ rfl (load_place hD3.drew)) rfl ⟨r, hr, hF3.drew, by rw [HX.out.1, HX.out.2.1, HX.out.2.2]; rfl⟩
  · obtain ⟨hok, hlw⟩ := HR.out.2.2.1 a hre
    have hbo := HR.out.2.2.2 a hre
    have hN := (Blk.new w1 (plaO zeroPl)).drew
    have hDa := (hD1.alloc (plaO zeroPl)).drew
    have hFa := (hF1.alloc (plaO zeroPl)).drew
    have hba := (hbB.alloc (plaO zeroPl)).drew
    have hqa := (hbQ.alloc (plaO zeroPl)).drew
    have hPa2 := hPa.fr ((Fr.refl No w1).alloc (plaO zeroPl)).drew
    have hbl := hba.lt
    have hql := hqa.lt
    obtain ⟨W2, hW2⟩ : ∃ W2, w1.alloc (plaO zeroPl) = W2 := ⟨_, rfl⟩
    obtain ⟨N, hNe⟩ : ∃ N, w1.heap.size = N := ⟨_, rfl⟩
    rw [hW2] at hN hDa hFa hba hqa hPa2 hbl hql
    rw [hNe] at hN hsz1
    have HW := Lib.hid (And.intro hW2 hNe)
    clear hW2 hNe
    unfold plA
    go_wp2_with fail
    have e1 := HW.out.1
    unfold plaO at e1
    rw [e1, HW.out.2]
    clear e1
    have RNd : ∀ i, W2.drew.cell? ⟨N, i, none⟩ = (#[.int .i64 0, .int .i64 0, .int .i64 0, .int .i64 0] : Array Value)[i]? := Blk.all hN
    have Rb : W2.drew.cell? ⟨b, 5, none⟩ = some (.pointer (some ⟨q, 0, none⟩)) := Blk.all hba 5
    have Rq : W2.drew.cell? ⟨q, 2, none⟩ = some Pv := Blk.all hqa 2
    have hNl := hN.lt
    have hbD : b ≠ D := blk_ne hbB hD1 (by decide)
    have hqD : q ≠ D := blk_ne hbQ hD1 (by decide)
    have hND : N ≠ D := by omega
    have hw := Written_ref hPa2 hbo hRp (by omega)
    have HWr := Lib.hid hw
    clear hw
    go_region_held3 (fun w' => (∀ i, w'.cell? ⟨N, i, none⟩ = (#[.int .i64 0, .int .i64 0, .int .i64 0, .int .i64 0] : Array Value)[i]?) ∧ w'.cell? ⟨b, 5, none⟩ = some (.pointer (some ⟨q, 0, none⟩)) ∧ w'.cell? ⟨q, 2, none⟩ = some Pv) (first | (with_reducible exact ⟨RNd, Rb, Rq⟩) | (with_reducible exact ⟨RN3, Rb3, Rq3⟩) | exact ⟨RN4, Rb4, Rq4⟩) ((go_at_call 27; refine (HWr.out).mono ?_; rintro e w3 ⟨rfl, hf3⟩; have hfk := fr4 (Fr.refl (· = D) w3) (N := D) (fun _ _ => rfl) (.int .i64 0) (.int .i64 0) (.int .i64 0) (.int .i64 0); have RN4 := Blk.all ((hN.fr hf3 (fun x => x)).fr hfk hND); have Rb4 := Blk.all ((hba.fr hf3 (fun x => x)).fr hfk hbD) 5; have Rq4 := Blk.all ((hqa.fr hf3 (fun x => x)).fr hfk hqD) 2; have RN3 : ∀ i, w3.cell? ⟨N, i, none⟩ = (#[.int .i64 0, .int .i64 0, .int .i64 0, .int .i64 0] : Array Value)[i]? := Blk.all (hN.fr hf3 (fun x => x)); have Rb3 : w3.cell? ⟨b, 5, none⟩ = some (.pointer (some ⟨q, 0, none⟩)) := Blk.all (hba.fr hf3 (fun x => x)) 5; have Rq3 : w3.cell? ⟨q, 2, none⟩ = some Pv := Blk.all (hqa.fr hf3 (fun x => x)) 2; have hD3 := hDa.fr hf3 (fun x => x); have hF3 := hFa.callNo hf3; have hDl3 := hD3.lt; have RD : ∀ i, w3.cell? ⟨D, i, none⟩ = (#[.int .i64 0, .int .i64 0, .int .i64 0, .int .i64 0] : Array Value)[i]? := Blk.all hD3; have ZD : ∀ i, w3.frozen? ⟨D, i, none⟩ = false := Blk.frees hD3))
    all_goals go_wp2_with fail
    have hD4 : Blk _ D (plaO zeroPl) := set4 hD3 (.int .i64 0) (.int .i64 0) (.int .i64 0) (.int .i64 0)
    have hF4 := fr4 hF3 (N := D) (fun i h => absurd h (Nat.not_lt.2 (Nat.le_of_eq HD.out))) (.int .i64 0) (.int .i64 0) (.int .i64 0) (.int .i64 0)
    exact bodyPost_ret (results_ttc rfl _ _ _ _ rfl (load_place hD4)) rfl ⟨0, hr, hF4, by unfold exTx exCd exPl; rw [if_pos rfl, if_pos rfl, if_pos rfl, hre]; rfl⟩
end Go.Proofs.YtlklijpjacmgpaaGreatDoor
