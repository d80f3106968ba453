/- The reference's Written: an expression as it is written. -/
import Derived.Test.YtlklijpjacmgpaaGreatDoorQH
import Derived.Test.YtlklijpjacmgpaaGreatDoorOG
import Derived.Deep.RegionWith
namespace Go.Proofs.YtlklijpjacmgpaaGreatDoor
open Go.RowKit
set_option linter.unusedVariables false
set_option linter.unusedSimpArgs false
set_option exponentiation.threshold 5000
attribute [local go_sem ↓] Go.wp_at_zero Go.wp_at_succ

theorem varS_get {nm : List (List UInt8)} {x : List UInt8} {v : Nat} (h : varS nm x = some v) : nm[v]? = some x := by
  unfold varS at h
  rw [List.findIdx?_eq_some_iff_getElem] at h
  obtain ⟨hl, he, _⟩ := h
  rw [List.getElem?_eq_getElem hl]
  simp only [beq_iff_eq] at he
  rw [he]
theorem ret_i {a b : Int} (h : a = b) : Ending.returned (.int .i64 a) = .returned (.int .i64 b) := by rw [h]
def levI (op : Int) : Int := if op = 3 ∨ op = 4 then 1 else if op = 5 ∨ op = 6 ∨ op = 7 then 2 else if op = 2 then 3 else 4
def lvl : Nd → Int
  | .num _ => 4
  | .name _ _ => 4
  | .minus _ => 3
  | .two op _ _ => if sumB op then 1 else 2
set_option maxHeartbeats 1000000 in
theorem level_calls (op : Int) (w : World) : Calls Tryz.prog 61 #[.int .i64 op] w fun e w' => e = .returned (.int .i64 (levI op)) ∧ w' = w := by
  obtain ⟨L, hL⟩ : ∃ L, levI op = L := ⟨_, rfl⟩
  rw [hL]
  have H := Lib.hid hL
  clear hL
  go_enter Tryz.func61, Tryz.ntmps61
  go_wp2_with fail
  all_goals (go_ret; refine ⟨ret_i ?_, rfl⟩; rw [← H.out]; unfold levI; simp_all)
theorem RepX.lev {ps : List XP} {nm : List (List UInt8)} : ∀ {a : Nd} {k : Nat}, ExOk nm a → RepX ps a k → ∃ x, ps[k]? = some x ∧ levI x.op = lvl a
  | .num n, k, _, ⟨x, h1, h2, _⟩ => ⟨x, h1, by rw [h2]; rfl⟩
  | .name v y, k, _, ⟨x, h1, h2, _⟩ => ⟨x, h1, by rw [h2]; rfl⟩
  | .minus a, k, _, ⟨x, h1, h2, _⟩ => ⟨x, h1, by rw [h2]; rfl⟩
  | .two op l r, k, h, ⟨x, h1, h2, _⟩ => ⟨x, h1, by rw [h2]; rcases h.1 with rfl | rfl | rfl | rfl | rfl <;> rfl⟩
theorem XsAre.at_ {w : World} {B : Nat} : ∀ {l : List XP} {vs : List Value} {k : Nat} {x : XP}, XsAre w B l vs → l[k]? = some x → ∃ a c, (∀ j, j < 6 → vs[k * 6 + j]? = (xpV x a c)[j]?) ∧ w.ownsRow B 3 1 (.slice a (dig 10000 x.num).length c) (dig 10000 x.num).length (i64s (dig 10000 x.num))
  | [], vs, k, x, h, hx => by simp at hx
  | y :: r, vs, 0, x, ⟨a, c, us, h1, h2, h3⟩, hx => by
    simp only [List.getElem?_cons_zero, Option.some.injEq] at hx
    subst hx
    refine ⟨a, c, fun j hj => ?_, h2⟩
    rw [h1, Nat.zero_mul, Nat.zero_add]
    exact List.getElem?_append_left (by simpa using hj)
  | y :: r, vs, k + 1, x, ⟨a, c, us, h1, h2, h3⟩, hx => by
    obtain ⟨a', c', h4, h5⟩ := XsAre.at_ (k := k) h3 (by simpa using hx)
    refine ⟨a', c', fun j hj => ?_, h5⟩
    rw [← h4 j hj, h1, List.getElem?_append_right (by simp; omega)]
    congr 1
    simp
    omega
/-- the parts and the names -/
structure PaN (w : World) (B : Nat) (Pv Nv : Value) (ps : List XP) (nm : List (List UInt8)) : Prop where
  pr : ∃ us, w.ownsRow B 125 6 Pv ps.length us ∧ XsAre w B ps us
  na : NmIn w Nv nm
theorem PaN.fr {w w' : World} {B : Nat} {Pv Nv : Value} {ps : List XP} {nm : List (List UInt8)} (h : PaN w B Pv Nv ps nm) (f : Fr No w w') : PaN w' B Pv Nv ps nm := by
  obtain ⟨us, h1, h2⟩ := h.pr
  exact ⟨⟨us, own_fr h1 f (fun _ _ x => x), XsAre.apart f (fun _ _ _ e => e.elim) _ _ h2⟩, h.na.fr f⟩
theorem PaN.at_ {w : World} {B : Nat} {Pv Nv : Value} {ps : List XP} {nm : List (List UInt8)} (h : PaN w B Pv Nv ps nm) {k : Nat} {x : XP} (hx : ps[k]? = some x) : ∃ g cap a c, Pv = .slice (some ⟨g, 0, none⟩) ps.length cap ∧ k < ps.length ∧ g < w.heap.size ∧
    w.cell? ⟨g, k * 6, none⟩ = some (.int .i64 x.op) ∧ w.cell? ⟨g, k * 6 + 1, none⟩ = some (.int .i64 x.v) ∧ w.cell? ⟨g, k * 6 + 2, none⟩ = some (.int .i64 x.a) ∧ w.cell? ⟨g, k * 6 + 3, none⟩ = some (.int .i64 x.b) ∧ w.cell? ⟨g, k * 6 + 4, none⟩ = some (.bool false) ∧ w.cell? ⟨g, k * 6 + 5, none⟩ = some (.slice a (dig 10000 x.num).length c) ∧
    w.ownsRow B 3 1 (.slice a (dig 10000 x.num).length c) (dig 10000 x.num).length (i64s (dig 10000 x.num)) := by
  obtain ⟨us, h1, h2⟩ := h.pr
  have hk := (List.getElem?_eq_some_iff.1 hx).1
  obtain ⟨a, c, h3, h4⟩ := XsAre.at_ h2 hx
  rcases own_cases h1 with ⟨_, h9, _⟩ | ⟨g, cap, e1, _, hgl, hcap⟩
  · omega
  · subst e1
    exact ⟨g, cap, a, c, rfl, hk, hgl, own_cell h1 (by have := h3 0 (by omega); simpa using this), own_cell h1 (by rw [h3 1 (by omega)]; rfl), own_cell h1 (by rw [h3 2 (by omega)]; rfl), own_cell h1 (by rw [h3 3 (by omega)]; rfl), own_cell h1 (by rw [h3 4 (by omega)]; rfl), own_cell h1 (by rw [h3 5 (by omega)]; rfl), h4⟩
/-- what Written and inner answer -/
structure WtR (w0 : World) (Pv Nv : Value) (ps : List XP) (a : Nd) (k : Nat) : Prop where
  wt : ∀ w, Fr No w0 w → Calls Tryz.prog 27 #[Pv, .int .i64 k, Nv] w fun e w' => e = .returned (.string ⟨(wrS a).toArray⟩) ∧ Fr No w w'
set_option maxRecDepth 100000 in
set_option maxHeartbeats 4000000 in
theorem inner_ref {w0 : World} {B : Nat} {Pv Nv : Value} {ps : List XP} {nm : List (List UInt8)} (hP : PaN w0 B Pv Nv ps nm) {a : Nd} {k : Nat} (hok : ExOk nm a) (hr : RepX ps a k) (hsz : (wrS a).length ≤ 100000000) (ih : WtR w0 Pv Nv ps a k) (least : Int) (w : World) (hf : Fr No w0 w) :
    Calls Tryz.prog 60 #[Pv, .int .i64 k, Nv, .int .i64 least] w fun e w' => e = .returned (.string ⟨(brS (decide (lvl a < least)) (wrS a)).toArray⟩) ∧ Fr No w w' := by
  obtain ⟨x, hx, hlv⟩ := hr.lev hok
  go_enter Tryz.func60, Tryz.ntmps60
  go_wp2_with fail
  refine (ih.wt w hf).mono ?_
  rintro e w1 ⟨rfl, hf1⟩
  obtain ⟨g, cap, a6, c6, rfl, hk, hg, q0, _, _, _, _, _, _⟩ := ((hP.fr hf).fr hf1).at_ hx
  have hz : (⟨(wrS a).toArray⟩ : ByteArray).size = (wrS a).length := by rw [Lib.size_eq]
  obtain ⟨S, hS⟩ : ∃ S, (⟨(wrS a).toArray⟩ : ByteArray) = S := ⟨_, rfl⟩
  rw [hS] at hz
  have i2 : ((k : Nat) : Int) < ((ps.length : Nat) : Int) := by omega
  have H := Lib.hid (And.intro hS (And.intro hf1 hlv))
  rw [hS]
  clear hS hx hr hok hP ih hlv
  go_wp2_with fail
  refine (level_calls _ _).mono ?_
  rintro e w2 ⟨rfl, rfl⟩
  rw [H.out.2.2]
  cases hb : decide (lvl a < least) with
  | true =>
    go_wp2_with fail
    go_ret
    refine ⟨ret_str ?_, H.out.2.1⟩
    rw [← H.out.1, hb]
    apply ByteArray.ext
    simp [brS]
  | false =>
    go_wp2_with fail
    go_ret
    exact ⟨ret_str (by rw [← H.out.1, hb]; rfl), H.out.2.1⟩

set_option maxRecDepth 100000 in
set_option maxHeartbeats 8000000 in
theorem wt_step {w0 : World} {B : Nat} {Pv Nv : Value} {ps : List XP} {nm : List (List UInt8)} (hP : PaN w0 B Pv Nv ps nm) {a : Nd} {k : Nat} (hok : ExOk nm a) (hr : RepX ps a k) (hsz : (wrS a).length ≤ 100000000) (ih : ∀ (a' : Nd) (k' : Nat), a'.sz < a.sz → ExOk nm a' → RepX ps a' k' → (wrS a').length ≤ 100000000 → WtR w0 Pv Nv ps a' k') : WtR w0 Pv Nv ps a k := by
  refine ⟨fun w hf => ?_⟩
  have hPw := hP.fr hf
  cases a with
  | num n =>
    obtain ⟨x, hx, hop, hnum⟩ := hr
    subst hnum
    have hdl : (dig 10000 x.num).length ≤ 1000 := (dig_len_le (by omega)).2 (Nat.lt_of_lt_of_le hok (by decide))
    obtain ⟨g, cap, a6, c6, rfl, hk, hg, q0, q1, q2, q3, q4, q5, ho⟩ := hPw.at_ hx
    rw [hop] at q0
    have i2 : ((k : Nat) : Int) < ((ps.length : Nat) : Int) := by omega
    have H := Lib.hid (And.intro hf ho)
    clear hP hPw hx hf ho ih
    go_enter Tryz.func27, Tryz.ntmps27
    go_wp2_with fail
    refine (rText_calls hdl (own_fr H.out.2 ((Fr.refl No w).alloc _) (fun _ _ x => x))).mono ?_
    rintro e w1 ⟨rfl, hf1⟩
    go_wp2_with fail
    go_ret
    exact ⟨rfl, ((Fr.refl No w).alloc _).callNo hf1⟩
  | name v y =>
    obtain ⟨x, hx, hop, hv⟩ := hr
    obtain ⟨g, cap, a6, c6, rfl, hk, hg, q0, q1, q2, q3, q4, q5, ho⟩ := hPw.at_ hx
    obtain ⟨gn, on, capn, rfl, hvn, hgn, n0⟩ := hPw.na.cell (varS_get hok.2.2)
    rw [hop] at q0
    rw [hv] at q1
    have i2 : ((k : Nat) : Int) < ((ps.length : Nat) : Int) := by omega
    have i3 : ((v : Nat) : Int) < ((nm.length : Nat) : Int) := by omega
    have H := Lib.hid hf
    clear hP hPw hx hf ho ih
    go_enter Tryz.func27, Tryz.ntmps27
    go_wp2_with fail
    go_ret
    exact ⟨rfl, (Fr.refl No w).alloc _⟩
  | minus a =>
    obtain ⟨x, hx, hop, hra⟩ := hr
    obtain ⟨g, cap, a6, c6, rfl, hk, hg, q0, q1, q2, q3, q4, q5, ho⟩ := hPw.at_ hx
    rw [hop] at q0
    have i2 : ((k : Nat) : Int) < ((ps.length : Nat) : Int) := by omega
    have hsa : (wrS a).length ≤ 100000000 := by
      have : (wrS (.minus a)).length = (brS (!singleB a) (wrS a)).length + 1 := rfl
      have h2 : (wrS a).length ≤ (brS (!singleB a) (wrS a)).length := by unfold brS; split <;> (try simp) <;> omega
      omega
    have hb : decide (lvl a < 3) = !singleB a := by
      cases a with
      | two op l r => show decide ((if sumB op then (1 : Int) else 2) < 3) = true; cases sumB op <;> rfl
      | _ => rfl
    have hoka : ExOk nm a := hok
    have HI := Lib.hid (inner_ref hP hoka hra hsa (ih a x.a (by show a.sz < a.sz + 1; omega) hoka hra hsa) 3)
    have H := Lib.hid hf
    have hzz : (brS (decide (lvl a < 3)) (wrS a)).length ≤ 1000000000 := by unfold brS; split <;> (try simp) <;> omega
    clear hP hPw hx hf ho ih
    go_enter Tryz.func27, Tryz.ntmps27
    go_wp2_with fail
    refine (HI.out _ (H.out.alloc _)).mono ?_
    rintro e w1 ⟨rfl, hf1⟩
    obtain ⟨S, hS⟩ : ∃ S, (⟨(brS (decide (lvl a < 3)) (wrS a)).toArray⟩ : ByteArray) = S := ⟨_, rfl⟩
    obtain ⟨M, hz, hM⟩ : ∃ M, S.size = M ∧ M ≤ 1000000000 := ⟨S.size, rfl, by rw [← hS, Lib.size_eq]; exact hzz⟩
    have HS := Lib.hid (And.intro hS (((Fr.refl No w).alloc _).callNo hf1))
    rw [hS]
    clear hS hf1
    go_wp2_with fail
    go_ret
    refine ⟨ret_str ?_, HS.out.2⟩
    rw [← HS.out.1, hb]
    apply ByteArray.ext
    simp [wrS]
  | two op l r =>
    obtain ⟨x, hx, hop, hrl, hrr⟩ := hr
    obtain ⟨g, cap, a6, c6, rfl, hk, hg, q0, q1, q2, q3, q4, q5, ho⟩ := hPw.at_ hx
    rw [hop] at q0
    have i2 : ((k : Nat) : Int) < ((ps.length : Nat) : Int) := by omega
    obtain ⟨kl, hkl⟩ : ∃ kl, lvl (.two op l r) = kl := ⟨_, rfl⟩
    have hbl : brS (decide (lvl l < kl)) (wrS l) = brS (!sumB op && addsB l) (wrS l) := by
      congr 1
      rw [← hkl]
      show decide (lvl l < (if sumB op then 1 else 2)) = _
      cases l with
      | two op2 l2 r2 => show decide ((if sumB op2 then (1 : Int) else 2) < (if sumB op then 1 else 2)) = (!sumB op && sumB op2); cases sumB op2 <;> cases sumB op <;> rfl
      | _ => cases sumB op <;> rfl
    have hbr : brS (decide (lvl r < kl + 1)) (wrS r) = brS (sumB op && addsB r || !sumB op && !singleB r) (wrS r) := by
      congr 1
      rw [← hkl]
      show decide (lvl r < (if sumB op then 1 else 2) + 1) = _
      cases r with
      | two op2 l2 r2 => show decide ((if sumB op2 then (1 : Int) else 2) < (if sumB op then 1 else 2) + 1) = (sumB op && sumB op2 || !sumB op && true); cases sumB op2 <;> cases sumB op <;> rfl
      | _ => cases sumB op <;> rfl
    have hsl : (wrS l).length ≤ 100000000 ∧ (wrS r).length ≤ 100000000 := by
      have h1 : wrS (.two op l r) = brS (!sumB op && addsB l) (wrS l) ++ [32, UInt8.ofNat op, 32] ++ brS (sumB op && addsB r || !sumB op && !singleB r) (wrS r) := rfl
      rw [h1, List.length_append, List.length_append] at hsz
      have h2 : ∀ (b : Bool) (l : List UInt8), l.length ≤ (brS b l).length := by intro b l; unfold brS; split <;> simp <;> omega
      have h3 := h2 (!sumB op && addsB l) (wrS l)
      have h4 := h2 (sumB op && addsB r || !sumB op && !singleB r) (wrS r)
      omega
    have hokl := hok.2.1
    have hokr := hok.2.2
    have hlv : levI (opR op) = kl := by rw [← hkl]; rcases hok.1 with rfl | rfl | rfl | rfl | rfl <;> rfl
    have hor : 3 ≤ opR op ∧ opR op ≤ 7 ∧ kl ≤ 2 ∧ 1 ≤ kl := by rw [← hlv]; rcases hok.1 with rfl | rfl | rfl | rfl | rfl <;> decide
    have HL := Lib.hid (inner_ref hP hokl hrl hsl.1 (ih l x.a (by show l.sz < l.sz + r.sz + 1; omega) hokl hrl hsl.1) kl)
    have HR := Lib.hid (inner_ref hP hokr hrr hsl.2 (ih r x.b (by show r.sz < l.sz + r.sz + 1; omega) hokr hrr hsl.2) (kl + 1))
    have hzl : (brS (decide (lvl l < kl)) (wrS l)).length ≤ 1000000000 := by unfold brS; split <;> (try simp) <;> omega
    have hzr : (brS (decide (lvl r < kl + 1)) (wrS r)).length ≤ 1000000000 := by unfold brS; split <;> (try simp) <;> omega
    have H := Lib.hid (And.intro hf (And.intro hlv (And.intro hbl hbr)))
    have HO := Lib.hid hok.1
    clear hP hPw hx hf ho ih hkl hbl hbr hlv hok hokl hokr
    obtain ⟨T, hT⟩ : ∃ T, (⟨(wrS (.two op l r)).toArray⟩ : ByteArray) = T := ⟨_, rfl⟩
    rw [hT]
    have HTT := Lib.hid hT
    clear hT
    rcases HO.out with rfl | rfl | rfl | rfl | rfl
    all_goals
      simp only [opR] at q0
      go_enter Tryz.func27, Tryz.ntmps27
      go_upto_region 10 with (fail)
      generalize hw2 : (w.alloc _).alloc _ = w2
      obtain ⟨f, hlv2, hN⟩ : ∃ f : Int, levI f = kl ∧ Blk w2 w.heap.size (.cells #[.int .i64 f, .int .i64 x.v, .int .i64 x.a, .int .i64 x.b, .bool false, .slice a6 (dig 10000 x.num).length c6] 125 (0, 0)) := ⟨_, H.out.2.1, by rw [← hw2]; exact (Blk.new w _).alloc _⟩
      have hf2 : Fr No w0 w2 ∧ Fr No w w2 := by rw [← hw2]; exact ⟨(H.out.1.alloc _).alloc _, ((Fr.refl No w).alloc _).alloc _⟩
      have hgN : g < w.heap.size := hg
      have hNl := hN.lt
      obtain ⟨N, hNN⟩ : ∃ N, w.heap.size = N := ⟨_, rfl⟩
      rw [hNN] at hN hNl ⊢
      have R := Blk.all hN
      have Z := Blk.frees hN
      have HF2 := Lib.hid (And.intro hf2 hN)
      clear hw2 hf2 hN hNN
      go_wp2_with fail
      refine (level_calls _ _).mono ?_
      rintro e w3 ⟨rfl, rfl⟩
      rw [hlv2]
      have HB := Lib.hid (And.intro H.out.2.2.1 H.out.2.2.2)
      obtain ⟨SL, hSL⟩ : ∃ SL, (⟨(brS (decide (lvl l < kl)) (wrS l)).toArray⟩ : ByteArray) = SL := ⟨_, rfl⟩
      obtain ⟨SR, hSR⟩ : ∃ SR, (⟨(brS (decide (lvl r < kl + 1)) (wrS r)).toArray⟩ : ByteArray) = SR := ⟨_, rfl⟩
      obtain ⟨ML, hzL, hML⟩ : ∃ M, SL.size = M ∧ M ≤ 1000000000 := ⟨SL.size, rfl, by rw [← hSL, Lib.size_eq]; exact hzl⟩
      obtain ⟨MR, hzR, hMR⟩ : ∃ M, SR.size = M ∧ M ≤ 1000000000 := ⟨SR.size, rfl, by rw [← hSR, Lib.size_eq]; exact hzr⟩
      have HL2 : Hid (∀ w', Fr No w3 w' → Calls Tryz.prog 60 #[.slice (some ⟨g, 0, none⟩) ps.length cap, .int .i64 x.a, Nv, .int .i64 kl] w' fun e w'' => e = .returned (.string SL) ∧ Fr No w3 w'') := Lib.hid (by rw [← hSL]; exact fun w' hf => (HL.out w' (HF2.out.1.1.callNo hf)).mono (fun _ _ ⟨h1, h2⟩ => ⟨h1, hf.callNo h2⟩))
      have HR2 : Hid (∀ w', Fr No w3 w' → Calls Tryz.prog 60 #[.slice (some ⟨g, 0, none⟩) ps.length cap, .int .i64 x.b, Nv, .int .i64 (kl + 1)] w' fun e w'' => e = .returned (.string SR) ∧ Fr No w3 w'') := Lib.hid (by rw [← hSR]; exact fun w' hf => (HR.out w' (HF2.out.1.1.callNo hf)).mono (fun _ _ ⟨h1, h2⟩ => ⟨h1, hf.callNo h2⟩))
      have HS := Lib.hid (And.intro hSL hSR)
      have hd2 : Fr No w3 w3.drew := (Fr.refl No w3).drew
      have hN3 := HF2.out.2
      have HNF := Lib.hid (fun w' (hf : Fr No w3 w') => Blk.all (hN3.fr hf (fun x => x)))
      clear HL HR hSL hSR hzl hzr hlv2 hN3
      go_wp2_with fail
      have hNd : ∀ i, w3.drew.cell? ⟨N, i, none⟩ = (#[.int .i64 f, .int .i64 x.v, .int .i64 x.a, .int .i64 x.b, .bool false, .slice a6 (dig 10000 x.num).length c6] : Array Value)[i]? := HNF.out _ hd2
      have s1 : IntKind.i64.wrap (kl + 1) = kl + 1 := by rw [IntKind.wrap_i64]; omega
      have hq1 : ¬ 9223372036854775807 < ML + 3 := by omega
      have hq2 : ¬ 9223372036854775807 < ML + 3 + MR := by omega
      go_region_held3 (fun w' => ∀ i, w'.cell? ⟨N, i, none⟩ = (#[.int .i64 f, .int .i64 x.v, .int .i64 x.a, .int .i64 x.b, .bool false, .slice a6 (dig 10000 x.num).length c6] : Array Value)[i]?) (with_reducible (first | exact hNd | exact hNx | exact hNy)) (first | (go_at_call 60; with_reducible refine (HL2.out _ hd2).mono ?_; rintro e w4 ⟨rfl, hfx⟩; have hNx := HNF.out w4 hfx) | (go_at_call 60; with_reducible refine (HR2.out _ hfx).mono ?_; rintro e w5 ⟨rfl, hfy⟩; have hNy := HNF.out w5 hfy))
      all_goals go_wp2_with fail
      all_goals go_ret
      all_goals (refine ⟨ret_str ?_, HF2.out.1.2.callNo hfy⟩; rw [← HTT.out, ← HS.out.1, ← HS.out.2, HB.out.1, HB.out.2]; apply ByteArray.ext; simp [wrS])
/-- an expression is written as the program writes it -/
theorem wt_all {w0 : World} {B : Nat} {Pv Nv : Value} {ps : List XP} {nm : List (List UInt8)} (hP : PaN w0 B Pv Nv ps nm) : ∀ (n : Nat) (a : Nd) (k : Nat), a.sz ≤ n → ExOk nm a → RepX ps a k → (wrS a).length ≤ 100000000 → WtR w0 Pv Nv ps a k
  | 0, a, k, hn, _, _, _ => by cases a <;> simp [Nd.sz] at hn
  | n + 1, a, k, hn, hok, hr, hs => wt_step hP hok hr hs fun a' k' h1 h2 h3 h4 => wt_all hP n a' k' (by omega) h2 h3 h4
theorem Written_ref {w0 : World} {B : Nat} {Pv Nv : Value} {ps : List XP} {nm : List (List UInt8)} (hP : PaN w0 B Pv Nv ps nm) {a : Nd} {k : Nat} (hok : ExOk nm a) (hr : RepX ps a k) (hs : (wrS a).length ≤ 100000000) :
    Calls Tryz.prog 27 #[Pv, .int .i64 k, Nv] w0 fun e w' => e = .returned (.string ⟨(wrS a).toArray⟩) ∧ Fr No w0 w' :=
  (wt_all hP _ a k (Nat.le_refl _) hok hr hs).wt w0 (Fr.refl No w0)
end Go.Proofs.YtlklijpjacmgpaaGreatDoor
