/- read with Parse's closure; Parse. -/
import Derived.Test.YtlklijpjacmgpaaGreatDoorLP
import Derived.Test.YtlklijpjacmgpaaGreatDoorLQ
import Derived.Test.YtlklijpjacmgpaaGreatDoorGg
namespace Go.Proofs.YtlklijpjacmgpaaGreatDoor
open Go.RowKit Go.Maps
set_option linter.unusedVariables false
set_option linter.unusedSimpArgs false
attribute [local go_sem ↓] Go.wp_at_zero Go.wp_at_succ

theorem scan_good : ∀ (n : Nat) (brk : Bool) (pre cs : List Nat) (l : List Tok), (∀ d ∈ cs, okc d = true) → scan brk n pre cs = .ok l → Good l
  | 0, brk, pre, cs, l, hok, h => by simp [scan] at h
  | n + 1, brk, pre, cs, l, hok, h => by
    unfold scan at h
    split at h
    · split at h
      · cases h
      · cases h; exact Good.last _
    · rename_i c r hs
      obtain ⟨mid, hmid⟩ := skipC_suffix cs false
      rw [hs] at hmid
      have hokr : ∀ d ∈ c :: r, okc d = true := fun d hd => hok d (by rw [hmid]; exact List.mem_append_right _ hd)
      split at h
      · cases h
      · rename_i k x m ht
        have hx := tk_text ht
        have hkd := tk_kind ht
        cases hR : scan brk n (pre ++ skipped cs ++ (c :: r).take m) ((c :: r).drop m) with
        | bad e p => rw [hR] at h; simp [Res.cons] at h
        | ok l' =>
          rw [hR] at h
          simp only [Res.cons, Res.ok.injEq] at h
          subst h
          have hg := scan_good n brk _ _ l' (fun d hd => hokr d (List.mem_of_mem_drop hd)) hR
          rcases hkd with ⟨rfl, hxx, _⟩ | ⟨rfl, v, hv, rfl⟩ | ⟨rfl, _⟩
          · exact Good.cons (by simp) (Or.inl rfl) (fun h => by simp at h) ⟨hx, fun _ => ⟨_, hxx, fun d hd => hokr d (List.mem_of_mem_take hd)⟩⟩ hg
          · exact Good.cons (by simp) (Or.inr (Or.inl rfl)) (fun _ => ⟨v, hv, rfl⟩) ⟨hx, fun h => by simp at h⟩ hg
          · exact Good.cons (by simp) (Or.inr (Or.inr rfl)) (fun h => by simp at h) ⟨hx, fun h => by simp at h⟩ hg
theorem scanS_good {l : List UInt8} {toks : List Tok} (h : scanS l = .ok toks) : Good toks ∧ toks.length ≤ 4097 := by
  have hl := scan_len l
  rw [h] at hl
  refine ⟨?_, hl⟩
  unfold scanS at h
  split at h
  · cases h
  · exact scan_good _ _ _ _ _ (txt_of l).ok h
/-- what Parse answers -/
noncomputable def parseS (s : List UInt8) : Except Er Pg := match scanS s with
  | .bad n p => .error (n, p)
  | .ok toks => progS (8 * toks.length + 10) toks
theorem progS_eq (n : Nat) (r : List Tok) : progS n r = match progS0 n r with
    | .error e => .error e
    | .ok (g, r3) => if (hereT r3).kind = 0 then .ok g else .error (80, (hereT r3).at_) := by
  unfold progS progS0
  cases mustS vars_ r with
  | error e => rfl
  | ok r1 =>
    simp only
    cases declsS n [] r1 with
    | error e => rfl
    | ok x =>
      obtain ⟨bs, r2⟩ := x
      simp only
      cases rowS n (bs.map Bg.name) [] 0 r2 with
      | error e => rfl
      | ok y => obtain ⟨l, mk, r3⟩ := y; rfl
def RpOut (w : World) (P : Nat) (res : Except Er Pg) (e : Ending) (w' : World) : Prop :=
  Fr (· = P) w w' ∧ match res with
    | .error (c, p) => e = .returned (.tuple #[.int .i64 c, .agg (plA p)])
    | .ok g => e = .returned (.tuple #[.int .i64 0, .agg (plA zeroPl)]) ∧ PgIs w' w.heap.size P g
theorem load_errno {w : World} {g : Nat} {c : Int} (hg : Blk w g (eO c)) : (loadVar 24 ⟨g, 0, none⟩).run Tryz.prog w = .ok (.int .i64 c) w := by
  have h := Blk.cell (show Blk w g (.cells #[.int .i64 c] 24 (0, 0)) from hg) 0 (.int .i64 c) rfl
  simp [loadVar, go_sem, h]
theorem load_place {w : World} {g : Nat} {p : Pl} (hg : Blk w g (plaO p)) : (loadVar 26 ⟨g, 0, none⟩).run Tryz.prog w = .ok (.agg (plA p)) w :=
  run_loadVar_row w g _ _ (plA p) _ _ hg Tryz.underlying26 rfl (by kernel_rfl)
theorem results_cc {fn : Func} {p q : Tmp} {t1 t2 : TypeId} (h : fn.results = #[.cell p t1, .cell q t2]) (tmps : Array Value) (w : World) (g1 g2 : Nat) (v1 v2 : Value)
    (hp : tmps.getD p undef = .pointer (some ⟨g1, 0, none⟩)) (hq : tmps.getD q undef = .pointer (some ⟨g2, 0, none⟩)) (L1 : (loadVar t1 ⟨g1, 0, none⟩).run Tryz.prog w = .ok v1 w) (L2 : (loadVar t2 ⟨g2, 0, none⟩).run Tryz.prog w = .ok v2 w) :
    (results fn tmps).run Tryz.prog w = .ok (.tuple #[v1, v2]) w := by
  have hp' : tmps[p]?.getD undef = .pointer (some ⟨g1, 0, none⟩) := by simpa using hp
  have hq' : tmps[q]?.getD undef = .pointer (some ⟨g2, 0, none⟩) := by simpa using hq
  simp only [results, h]
  simp [hp', hq', asAddr, L1, L2, Sem.run_bind, Result.andThen]
theorem PgIs.keep {S : Nat → Prop} {w w' : World} {B P : Nat} {g : Pg} (h : PgIs w B P g) (f : Fr S w w') (hP : ¬ S P) (hS : ∀ k, B ≤ k → ¬ S k) : PgIs w' B P g := by
  obtain ⟨a, c, vs, a2, n2, c2, us, h1, h2, h3, h4, h5⟩ := h
  exact ⟨a, c, vs, a2, n2, c2, us, h1.fr f hP, own_fr h2 f (fun k hk => hS k (h2.lt k hk).1), BgsAre.apart f (fun k hk _ e => absurd e (hS k hk)) _ _ h3, own_fr h4 f (fun k hk => hS k (h4.lt k hk).1), SmsAre.keep f hS _ _ h5⟩
theorem PgIs.fr {w w' : World} {B P : Nat} {g : Pg} (h : PgIs w B P g) (f : Fr No w w') : PgIs w' B P g := h.keep f (fun x => x) (fun _ _ x => x)
theorem PgIs.mono {w : World} {B B' P : Nat} {g : Pg} (h : PgIs w B P g) (hb : B' ≤ B) : PgIs w B' P g := by
  obtain ⟨a, c, vs, a2, n2, c2, us, h1, h2, h3, h4, h5⟩ := h
  exact ⟨a, c, vs, a2, n2, c2, us, h1, own_mono h2 hb, BgsAre.mono hb _ _ h3, own_mono h4 hb, SmsAre.mono hb _ _ h5⟩
set_option maxRecDepth 100000 in
set_option maxHeartbeats 4000000 in
theorem readP_calls {w : World} {P PV : Nat} {p0 : Pl} (s : ByteArray) (hs : s.size ≤ maxLen) (hT : Tb w) (hP : Blk w P (pgO p0 (.slice none 0 0) (.slice none 0 0))) (hPV : Blk w PV (.cells #[.pointer (some ⟨P, 0, none⟩)] 35 (0, 0))) (hne : P ≠ PV) :
    Calls Tryz.prog 28 #[.string s, .slice none 0 0, .func (.func 29) #[] #[.pointer (some ⟨PV, 0, none⟩)]] w (RpOut w P (parseS s.data.toList)) := by
  have hmf : ∀ (fn : Fn) (first cap : Array Value) (w : World), (Instr.makeFunc fn first cap).run Tryz.prog w = .ok (.func fn first cap) w := fun _ _ _ _ => rfl
  have hmm := @run_makeMap Tryz.prog
  obtain ⟨res, hres⟩ : ∃ res, parseS s.data.toList = res := ⟨_, rfl⟩
  rw [hres]
  unfold parseS at hres
  go_enter_defers Tryz.func28, Tryz.ntmps28
  go_wp2_with fail
  have hE0 := (Blk.new w (eO 0)).alloc (plaO zeroPl)
  have hA0 := Blk.new (w.alloc (eO 0)) (plaO zeroPl)
  have hF0 : Fr (· = P) w ((w.alloc (eO 0)).alloc (plaO zeroPl)) := ((Fr.refl _ w).alloc _).alloc _
  rw [alloc_size] at hA0
  have hT0 := hT.no (((Fr.refl No w).alloc (eO 0)).alloc (plaO zeroPl))
  have hP0 := (hP.alloc (eO 0)).alloc (plaO zeroPl)
  have hV0 := (hPV.alloc (eO 0)).alloc (plaO zeroPl)
  have hszE : ((w.alloc (eO 0)).alloc (plaO zeroPl)).heap.size = w.heap.size + 2 := by rw [alloc_size, alloc_size]
  refine (Scan_any s ((w.alloc (eO 0)).alloc (plaO zeroPl)) hT0 hs).mono ?_
  rintro e w1 ⟨a, c, rfl, ho1, hf1⟩
  have hE1 := hE0.fr hf1 (fun x => x)
  have hA1 := hA0.fr hf1 (fun x => x)
  have hP1 := hP0.fr hf1 (fun x => x)
  have hV1 := hV0.fr hf1 (fun x => x)
  have hF1 := hF0.callNo hf1
  have hsz1 := hf1.size
  rw [hszE] at hsz1 ho1
  have hPl : P < w.heap.size := hP.lt
  have hVl : PV < w.heap.size := hPV.lt
  clear hE0 hA0 hF0 hT0 hP0 hV0 hf1 hszE
  obtain ⟨E, hE⟩ : ∃ E, w.heap.size = E := ⟨_, rfl⟩
  rw [hE] at hE1 hA1 hsz1 ho1 hPl hVl ⊢
  have HE := Lib.hid hE
  clear hE
  have RE : ∀ i, w1.cell? ⟨E, i, none⟩ = (#[.int .i64 0] : Array Value)[i]? := Blk.all hE1
  have ZE : ∀ i, w1.frozen? ⟨E, i, none⟩ = false := Blk.frees hE1
  have RA : ∀ i, w1.cell? ⟨E + 1, i, none⟩ = (#[.int .i64 0, .int .i64 0, .int .i64 0, .int .i64 0] : Array Value)[i]? := Blk.all hA1
  have ZA : ∀ i, w1.frozen? ⟨E + 1, i, none⟩ = false := Blk.frees hA1
  unfold plA
  cases hsc : scanS s.data.toList with
  | bad n p =>
    rw [hsc] at hres ho1
    simp only at hres
    simp only [Res.toks, Res.code, Res.pl, List.length_nil] at ho1 ⊢
    have hn := scanS_bad_ne hsc
    have hn1 : (n != 0) = true := by simpa using hn
    have HX := Lib.hid (And.intro hres hn)
    clear hres hn hsc
    have hfe := (Fr.refl (fun k => k = E ∨ k = E + 1) w1).setCell (a := ⟨E, 0, none⟩) (.int .i64 n) (fun _ => Or.inl rfl)
    have hfa := fr4 hfe (N := E + 1) (fun _ _ => Or.inr rfl) (.int .i64 p.b) (.int .i64 p.g) (.int .i64 p.l) (.int .i64 p.c)
    have hE2 : Blk _ E (eO n) := (((hE1.setOff 0 (.int .i64 n)).set_ne ⟨E + 1, 0, none⟩ (.int .i64 p.b) (by simp)).set_ne ⟨E + 1, 1, none⟩ (.int .i64 p.g) (by simp)).set_ne ⟨E + 1, 2, none⟩ (.int .i64 p.l) (by simp) |>.set_ne ⟨E + 1, 3, none⟩ (.int .i64 p.c) (by simp)
    have hA2 := set4 (hA1.set_ne ⟨E, 0, none⟩ (.int .i64 n) (by simp)) (.int .i64 p.b) (.int .i64 p.g) (.int .i64 p.l) (.int .i64 p.c)
    obtain ⟨W2, hW2⟩ : ∃ W2, ((((w1.setCell ⟨E, 0, none⟩ (.int .i64 n)).setCell ⟨E + 1, 0, none⟩ (.int .i64 p.b)).setCell ⟨E + 1, 1, none⟩ (.int .i64 p.g)).setCell ⟨E + 1, 2, none⟩ (.int .i64 p.l)).setCell ⟨E + 1, 3, none⟩ (.int .i64 p.c) = W2 := ⟨_, rfl⟩
    rw [hW2] at hfa hE2 hA2
    have HW := Lib.hid hW2
    clear hW2
    have hF2 : Fr (· = P) w W2 := hF1.call hfa (fun k hk e => by have := HE.out; omega)
    clear hfe hfa hE1 hA1 hF1 hP1 hV1
    go_wp2_with fail
    rw [HW.out]
    clear RE ZE RA ZA
    have RE : ∀ i, W2.cell? ⟨E, i, none⟩ = (#[.int .i64 n] : Array Value)[i]? := Blk.all hE2
    have ZE : ∀ i, W2.frozen? ⟨E, i, none⟩ = false := Blk.frees hE2
    have RA : ∀ i, W2.cell? ⟨E + 1, i, none⟩ = (#[.int .i64 p.b, .int .i64 p.g, .int .i64 p.l, .int .i64 p.c] : Array Value)[i]? := Blk.all hA2
    have ZA : ∀ i, W2.frozen? ⟨E + 1, i, none⟩ = false := Blk.frees hA2
    go_region
    all_goals go_wp2_with fail
    have hfe := (Fr.refl (fun k => k = E ∨ k = E + 1) W2).setCell (a := ⟨E, 0, none⟩) (.int .i64 n) (fun _ => Or.inl rfl)
    have hfa := fr4 hfe (N := E + 1) (fun _ _ => Or.inr rfl) (.int .i64 p.b) (.int .i64 p.g) (.int .i64 p.l) (.int .i64 p.c)
    have hE3 : Blk _ E (eO n) := (((hE2.setOff 0 (.int .i64 n)).set_ne ⟨E + 1, 0, none⟩ (.int .i64 p.b) (by simp)).set_ne ⟨E + 1, 1, none⟩ (.int .i64 p.g) (by simp)).set_ne ⟨E + 1, 2, none⟩ (.int .i64 p.l) (by simp) |>.set_ne ⟨E + 1, 3, none⟩ (.int .i64 p.c) (by simp)
    have hA3 := set4 (hA2.set_ne ⟨E, 0, none⟩ (.int .i64 n) (by simp)) (.int .i64 p.b) (.int .i64 p.g) (.int .i64 p.l) (.int .i64 p.c)
    have hF3 : Fr (· = P) w _ := (hF2.call hfa (fun k hk e => by have := HE.out; omega)).drew
    refine ⟨_, results_cc rfl _ _ E (E + 1) _ _ rfl rfl (load_errno hE3.drew) (load_place hA3.drew), ?_⟩
    rw [← HX.out.1]
    exact ⟨hF3, rfl⟩
  | ok toks =>
    rw [hsc] at hres ho1
    simp only at hres
    simp only [Res.toks, Res.code, Res.pl] at ho1 ⊢
    obtain ⟨hg, hl⟩ := scanS_good hsc
    have HX := Lib.hid hres
    clear hres hsc
    have hpos := hg.pos
    obtain ⟨W3, hW3⟩ : ∃ W3, ((((((w1.setCell ⟨E, 0, none⟩ (.int .i64 0)).setCell ⟨E + 1, 0, none⟩ (.int .i64 zeroPl.b)).setCell ⟨E + 1, 1, none⟩ (.int .i64 zeroPl.g)).setCell ⟨E + 1, 2, none⟩ (.int .i64 zeroPl.l)).setCell ⟨E + 1, 3, none⟩ (.int .i64 zeroPl.c)).alloc (.map #[] 0)).alloc (rdC (.slice a toks.length c) 0 (.slice none 0 0) 0 (.map (some w1.heap.size))) = W3 := ⟨_, rfl⟩
    have hfe := (Fr.refl (fun k => k = E ∨ k = E + 1) w1).setCell (a := ⟨E, 0, none⟩) (.int .i64 0) (fun _ => Or.inl rfl)
    have hfa := fr4 hfe (N := E + 1) (fun _ _ => Or.inr rfl) (.int .i64 zeroPl.b) (.int .i64 zeroPl.g) (.int .i64 zeroPl.l) (.int .i64 zeroPl.c)
    have hE2 : Blk _ E (eO 0) := (((hE1.setOff 0 (.int .i64 0)).set_ne ⟨E + 1, 0, none⟩ (.int .i64 zeroPl.b) (by simp)).set_ne ⟨E + 1, 1, none⟩ (.int .i64 zeroPl.g) (by simp)).set_ne ⟨E + 1, 2, none⟩ (.int .i64 zeroPl.l) (by simp) |>.set_ne ⟨E + 1, 3, none⟩ (.int .i64 zeroPl.c) (by simp)
    have hA2 := set4 (hA1.set_ne ⟨E, 0, none⟩ (.int .i64 0) (by simp)) (.int .i64 zeroPl.b) (.int .i64 zeroPl.g) (.int .i64 zeroPl.l) (.int .i64 zeroPl.c)
    have hszW : ((((w1.setCell ⟨E, 0, none⟩ (.int .i64 0)).setCell ⟨E + 1, 0, none⟩ (.int .i64 zeroPl.b)).setCell ⟨E + 1, 1, none⟩ (.int .i64 zeroPl.g)).setCell ⟨E + 1, 2, none⟩ (.int .i64 zeroPl.l) |>.setCell ⟨E + 1, 3, none⟩ (.int .i64 zeroPl.c)).heap.size = w1.heap.size := by simp
    obtain ⟨W2, hW2⟩ : ∃ W2, ((((w1.setCell ⟨E, 0, none⟩ (.int .i64 0)).setCell ⟨E + 1, 0, none⟩ (.int .i64 zeroPl.b)).setCell ⟨E + 1, 1, none⟩ (.int .i64 zeroPl.g)).setCell ⟨E + 1, 2, none⟩ (.int .i64 zeroPl.l)).setCell ⟨E + 1, 3, none⟩ (.int .i64 zeroPl.c) = W2 := ⟨_, rfl⟩
    rw [hW2] at hW3 hfa hE2 hA2 hszW
    obtain ⟨m, hm⟩ : ∃ m, w1.heap.size = m := ⟨_, rfl⟩
    rw [hm] at hszW hW3 hsz1
    have hM0 : MkAt (W2.alloc (.map #[] 0)) m [] := by
      have h := World.ownsMap_made (H := Unit) W2 Tryz.prog 9 (plainElem Tryz.prog 3)
      rw [hszW] at h
      exact ⟨_, h, fun x => by simp [DataW.atKey]⟩
    have hR0 := Blk.new (W2.alloc (.map #[] 0)) (rdC (.slice a toks.length c) 0 (.slice none 0 0) 0 (.map (some m)))
    rw [alloc_size, hszW, hW3] at hR0
    have hf3 : Fr (fun k => k = E ∨ k = E + 1) w1 W3 := by rw [← hW3]; exact (hfa.alloc _).alloc _
    have hE3 : Blk W3 E (eO 0) := by rw [← hW3]; exact (hE2.alloc _).alloc _
    have hA3 : Blk W3 (E + 1) (plaO zeroPl) := by rw [← hW3]; exact (hA2.alloc _).alloc _
    have hM3 : MkAt W3 m [] := by rw [← hW3]; exact hM0.keep ((Fr.refl No _).alloc _) (fun x => x)
    have hP3 := hP1.fr hf3 (by omega)
    have hV3 := hV1.fr hf3 (by omega)
    have hF3 : Fr (· = P) w W3 := hF1.call hf3 (fun k hk e => by have := HE.out; omega)
    have ho3 := own_fr ho1 hf3 (fun k hk e => by have := (ho1.lt k hk).1; omega)
    have hRd : Rdr W3 (m + 1) (.slice a toks.length c) (.slice none 0 0) (.map (some m)) 0 toks toks := by
      refine ⟨0, toks[0], ⟨hg, List.getElem?_eq_getElem hpos, by rw [List.drop_zero]⟩, hR0, ?_⟩
      rcases own_cases ho3 with ⟨_, h2, _⟩ | ⟨g, cap, h1, hB, hgl, hcap⟩
      · omega
      · rw [h1] at ho3
        have hgm := (ho1.lt g (by rw [h1]; rfl)).2
        refine ⟨g, cap, h1, by omega, hgl, fun i x hx k hk => ?_⟩
        obtain ⟨v, hv⟩ : ∃ v, (tokC x)[k]? = some v := ⟨(tokC x)[k]'(by simp [tokC]; omega), List.getElem?_eq_getElem _⟩
        rw [hv]
        exact own_cell ho3 (by rw [toksV_get toks i x k hx hk, hv])
    have hW3l := hR0.lt
    clear hfe hfa hE2 hA2 hM0 hR0 hf3 hP1 hV1 hF1 ho3 hE1 hA1
    have HW := Lib.hid (And.intro hW2 hW3)
    have HM := Lib.hid hm
    clear hW2 hW3 hszW
    have hcall := parse1_calls (n := 8 * toks.length + 10) (by omega) hRd hM3 (by omega) hP3 hV3 ⟨by omega, by omega, by omega, by omega, hne⟩ (Nat.le_refl _)
    have hcall2 : Calls Tryz.prog 29 #[.pointer (some ⟨m + 1, 0, none⟩), .pointer (some ⟨PV, 0, none⟩)] W3 (fun e w4 => P1Out W3 (m + 1) m P (.slice a toks.length c) toks (progS0 (8 * toks.length + 10) toks) e w4) := hcall
    rw [← HW.out.2, ← HW.out.1] at hcall2
    have HC := Lib.hid hcall2
    clear hcall hcall2
    go_wp2_with fail
    refine HC.out.mono ?_
    rw [HW.out.1, HW.out.2]
    rintro e w4 ⟨hf4, hm4⟩
    have hE4 := hE3.fr hf4 (by unfold P1S; omega)
    have hA4 := hA3.fr hf4 (by unfold P1S; omega)
    have hF4 : Fr (· = P) w w4 := hF3.call hf4 (fun k hk e => by have := HE.out; unfold P1S at e; omega)
    clear hE3 hA3 hF3 hP3 hV3 hM3 hRd hf4
    cases hpg : progS0 (8 * toks.length + 10) toks with
    | error ep =>
      rw [hpg] at hm4
      obtain ⟨c', q⟩ := ep
      simp only [Threw] at hm4
      have hX : Except.error (c', q) = res := by rw [← HX.out, progS_eq, hpg]
      have HY := Lib.hid hX
      clear hX HX hpg
      subst hm4
      go_wp2_with fail
      refine leaves_cons (f := 63) (args := #[.pointer (some ⟨E, 0, none⟩), .pointer (some ⟨E + 1, 0, none⟩)]) (by simp) (by simp [go_sem]) ?_
      refine (catch_panicking E (E + 1) 0 _ zeroPl _ [] _ hE4 hA4 (by omega)).mono ?_
      rintro e u' w9 ⟨rfl, rfl, hE9, hA9, hf9⟩
      have hF9 : Fr (· = P) w w9 := hF4.call hf9 (fun k hk e => by have := HE.out; omega)
      refine ⟨_, results_cc rfl _ w9 E (E + 1) _ _ rfl rfl (load_errno hE9) (load_place hA9), ?_⟩
      rw [← HY.out]
      exact ⟨hF9, rfl⟩
    | ok x =>
      rw [hpg] at hm4
      obtain ⟨g, r3⟩ := x
      obtain ⟨nv, rfl, hR4, hPg⟩ := hm4
      obtain ⟨K, hK⟩ : ∃ K, (hereT r3).kind = K := ⟨_, rfl⟩
      have hX : (if K = 0 then Except.ok g else Except.error (80, (hereT r3).at_)) = res := by rw [← HX.out, progS_eq, hpg, ← hK]
      clear HX hpg
      have hfd := fld_kind
      go_wp2_with fail
      refine (here_rdr hR4).mono ?_
      rintro e w5 ⟨rfl, hR5, hf5⟩
      have hE5 := hE4.fr hf5 (fun x => x)
      have hA5 := hA4.fr hf5 (fun x => x)
      have hF5 := hF4.callNo hf5
      have hPg5 := hPg.fr hf5
      clear hE4 hA4 hF4 hPg hf5
      simp only [tokC]
      rw [hK]
      by_cases hk : K = 0
      · rw [if_pos hk] at hX
        have HY := Lib.hid hX
        clear hX
        subst hk
        go_wp2_with fail
        refine (need_true (m + 1) _ _).mono ?_
        rintro e w6 ⟨rfl, rfl⟩
        have RE5 : ∀ i, w6.cell? ⟨E, i, none⟩ = (#[.int .i64 0] : Array Value)[i]? := Blk.all hE5
        have ZE5 : ∀ i, w6.frozen? ⟨E, i, none⟩ = false := Blk.frees hE5
        have RA5 : ∀ i, w6.cell? ⟨E + 1, i, none⟩ = (#[.int .i64 0, .int .i64 0, .int .i64 0, .int .i64 0] : Array Value)[i]? := Blk.all hA5
        have ZA5 : ∀ i, w6.frozen? ⟨E + 1, i, none⟩ = false := Blk.frees hA5
        go_wp2_with fail
        have hfe7 := (Fr.refl (fun k => k = E ∨ k = E + 1) w6).setCell (a := ⟨E, 0, none⟩) (.int .i64 0) (fun _ => Or.inl rfl)
        have hfa7 := fr4 hfe7 (N := E + 1) (fun _ _ => Or.inr rfl) (.int .i64 0) (.int .i64 0) (.int .i64 0) (.int .i64 0)
        have hE7 : Blk _ E (eO 0) := (((hE5.setOff 0 (.int .i64 0)).set_ne ⟨E + 1, 0, none⟩ (.int .i64 0) (by simp)).set_ne ⟨E + 1, 1, none⟩ (.int .i64 0) (by simp)).set_ne ⟨E + 1, 2, none⟩ (.int .i64 0) (by simp) |>.set_ne ⟨E + 1, 3, none⟩ (.int .i64 0) (by simp)
        have hA7 : Blk _ (E + 1) (plaO zeroPl) := set4 (hA5.set_ne ⟨E, 0, none⟩ (.int .i64 0) (by simp)) (.int .i64 0) (.int .i64 0) (.int .i64 0) (.int .i64 0)
        have hPg7 := hPg5.keep hfa7 (by omega) (fun k hk e => by omega)
        have hF7 : Fr (· = P) w _ := hF5.call hfa7 (fun k hk e => by have := HE.out; omega)
        refine leaves_cons (f := 63) (args := #[.pointer (some ⟨E, 0, none⟩), .pointer (some ⟨E + 1, 0, none⟩)]) (by simp) (by simp [go_sem]) ?_
        refine (catch_idle E (E + 1) _).mono ?_
        rintro e u' w9 ⟨rfl, rfl, rfl⟩
        refine ⟨_, results_cc rfl _ _ E (E + 1) _ _ rfl rfl (load_errno hE7) (load_place hA7), ?_⟩
        rw [← HY.out]
        exact ⟨hF7, rfl, hPg7.mono (by have := HE.out; omega)⟩
      · rw [if_neg hk] at hX
        have hb : (K == 0) = false := by simpa using hk
        have HY := Lib.hid hX
        clear hX
        go_wp2_with fail
        refine (need_rdr hR5 80).mono ?_
        rintro e w6 ⟨ht, hf6⟩
        simp only [Threw] at ht
        subst ht
        have hE6 := hE5.fr hf6 (fun x => x)
        have hA6 := hA5.fr hf6 (fun x => x)
        have hF6 := hF5.callNo hf6
        go_wp2_with fail
        refine leaves_cons (f := 63) (args := #[.pointer (some ⟨E, 0, none⟩), .pointer (some ⟨E + 1, 0, none⟩)]) (by simp) (by simp [go_sem]) ?_
        refine (catch_panicking E (E + 1) 0 _ zeroPl _ [] _ hE6 hA6 (by omega)).mono ?_
        rintro e u' w9 ⟨rfl, rfl, hE9, hA9, hf9⟩
        have hF9 : Fr (· = P) w w9 := hF6.call hf9 (fun k hk e => by have := HE.out; omega)
        refine ⟨_, results_cc rfl _ w9 E (E + 1) _ _ rfl rfl (load_errno hE9) (load_place hA9), ?_⟩
        rw [← HY.out]
        exact ⟨hF9, rfl⟩
end Go.Proofs.YtlklijpjacmgpaaGreatDoor
