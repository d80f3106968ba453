/- (*Program).Lines; sameLines of rows that are the same but for places. -/
import Derived.Test.YtjmjdmmojgmcdaaDoorNM
namespace Go.Proofs.YtjmjdmmojgmcdaaDoor
open Go.RowKit
set_option linter.unusedVariables false
set_option linter.unusedSimpArgs false
attribute [local go_sem ↓] Go.wp_at_zero Go.wp_at_succ

theorem own_line {w : World} {B N : Nat} (hN : w.heap.size = N) (hB : B ≤ N) (x : Ln) : LnOwn (w.alloc (.cells (lnC x).toArray 90 (0, 0))) B (.slice (some ⟨N, 0, none⟩) 1 1) [x] := by
  subst hN
  exact ⟨rfl, Or.inr ⟨w.heap.size, 1, (lnC x).toArray, rfl, hB, Blk.new w _, Nat.le_refl _, by unfold maxLen; omega, rfl, rfl⟩⟩
set_option maxRecDepth 100000 in
set_option maxHeartbeats 4000000 in
theorem Lines_calls {w : World} {B P : Nat} {g : Pg} (h : PgIs w B P g) (hmag : ∀ x ∈ g.begins, (dig L32 x.mag).length ≤ 32) (hok : g.body.okS) (hsz : g.body.sz * 2 ≤ 100000) (hl : (pgS g).length ≤ 100000000) (hn : g.begins.length ≤ 100000) :
    Calls Tryd.prog 16 #[.pointer (some ⟨P, 0, none⟩)] w fun e w' => ∃ v, e = .returned v ∧ LnOwn w' w.heap.size v (lnS g) ∧ Fr No w w' := by
  have hPl : P < w.heap.size := by
    obtain ⟨_, _, _, _, _, _, _, hP, _⟩ := h
    exact hP.lt
  have hlen : (pgS g).length = (dcS g.begins).length + 2 + (prSms [] g.body).length := by unfold pgS; simp only [List.length_append, List.length_cons, List.length_nil]
  have hd := fun (W : World) (f : Fr No w W) => declared_calls (h.fr f) hmag (by omega) hn
  have hbd : LnB (lnSms 0 g.body) := fun x hx => by have := lnSms_text 0 [] g.body x hx; omega
  have HP := fun (W : World) (f : Fr No w W) => h.fr f
  obtain ⟨a, c, vs, a2, n2, c2, us, hP, ho, hbs, ho2, hs2⟩ := h
  have hP2 := fun (W : World) (f : Fr No w W) => Blk.all (hP.fr f (fun x => x))
  have hrow := fun (W : World) (f : Fr No w W) => And.intro (own_fr ho2 f (fun _ _ x => x)) (SmsAre.keep f (fun _ _ x => x) _ _ hs2)
  unfold lnS
  generalize hD : dcS g.begins = D at *
  generalize hp : g.at_ = p at *
  have RP := hP2 w (Fr.refl _ _)
  have RP2 := hP2 w.drew (Fr.refl No w).drew
  have HH := Lib.hid (And.intro hd (And.intro hok (And.intro hbd (And.intro hrow hP2))))
  clear hd hok hbd HP hP ho hbs ho2 hs2 hrow hmag hlen hD hp hP2
  go_enter Tryd.func16, Tryd.ntmps16
  go_upto_region 1 with (fail)
  go_cut [3] (fun s3 wx => LnOwn wx w.heap.size s3 [⟨1, 0, D, p⟩] ∧ Fr No w wx)
  case first =>
    go_region_with ((refine (HH.out.1 _ (by first | exact Fr.refl _ _ | exact (Fr.refl No w).drew)).mono ?_; rintro e w' ⟨rfl, hf⟩; have hf9 : Fr No w w' := (by first | exact hf | exact ((Fr.refl No w).drew).callNo hf); have RP3 := HH.out.2.2.2.2 w' hf9))
    all_goals go_wp2_with fail
    all_goals go_meet
    all_goals exact ⟨own_line rfl hf9.size ⟨1, 0, D, p⟩, hf9.alloc _⟩
  case rest =>
    obtain ⟨h1, hf1⟩ := hcut
    obtain ⟨a3, c3, rfl⟩ := own_form h1
    have RP3 := HH.out.2.2.2.2 _ hf1
    clear RP RP2
    go_wp2_with fail
    refine (ln_all g.body.sz g.body a2 n2 c2 us 0 B w.heap.size _ _ _ (Nat.le_refl _) HH.out.2.1 (HH.out.2.2.2.1 _ hf1).1 (HH.out.2.2.2.1 _ hf1).2 h1 HH.out.2.2.1 (by simp only [List.length_cons, List.length_nil]; omega) (by omega) hf1.size).mono ?_
    rintro e w3 ⟨v3, rfl, o3, f3, _⟩
    obtain ⟨a4, c4, rfl⟩ := own_form o3
    go_wp2_with fail
    go_ret
    exact ⟨_, rfl, o3, hf1.call f3 (fun j hj e => by have := (h1.lt j e).1; omega)⟩
theorem ba_bne (T : ByteArray) : (T != T) = false := by
  first
  | (cases T; simp [bne, BEq.beq]; done)
  | (cases T with | mk d => show (!(d == d)) = false; simp)
  | (unfold bne; rw [show (T == T) = true from by cases T with | mk d => exact decide_eq_true rfl]; rfl)
theorem lns_cell {l : List Ln} {i : Nat} {x : Ln} (h : l[i]? = some x) : (lnsC l)[i * 7]? = some (.int .i64 x.kind) ∧ (lnsC l)[i * 7 + 1]? = some (.int .i64 x.depth) ∧ (lnsC l)[i * 7 + 2]? = some (.string ⟨x.text.toArray⟩) := by
  induction l generalizing i with
  | nil => simp at h
  | cons y r ih =>
    cases i with
    | zero =>
      simp only [List.getElem?_cons_zero, Option.some.injEq] at h
      subst h
      exact ⟨rfl, rfl, rfl⟩
    | succ i =>
      have h1 := ih (by simpa using h)
      have e : ∀ k, (lnsC (y :: r))[(i + 1) * 7 + k]? = (lnsC r)[i * 7 + k]? := by
        intro k
        show (lnC y ++ lnsC r)[(i + 1) * 7 + k]? = _
        have hl : (lnC y).length = 7 := rfl
        rw [List.getElem?_append_right (by omega)]
        congr 1
        omega
      have e0 := e 0
      simp only [Nat.add_zero] at e0
      rw [e0, e 1, e 2]
      exact h1
theorem lnNo_get {l m : List Ln} (h : lnNo l = lnNo m) {i : Nat} {x : Ln} (hx : l[i]? = some x) : ∃ y, m[i]? = some y ∧ y.kind = x.kind ∧ y.depth = x.depth ∧ y.text = x.text := by
  have h1 := congrArg (fun z : List Ln => z[i]?) h
  simp only [lnNo, List.getElem?_map, hx, Option.map_some] at h1
  cases hm : m[i]? with
  | none => rw [hm] at h1; cases h1
  | some y =>
    rw [hm] at h1
    simp only [Option.map_some, Option.some.injEq, Ln.no, Ln.mk.injEq, and_true] at h1
    exact ⟨y, rfl, h1.1.symm, h1.2.1.symm, h1.2.2.symm⟩
set_option maxRecDepth 100000 in
set_option maxHeartbeats 4000000 in
theorem sameLines_calls {w : World} {B1 B2 : Nat} {v1 v2 : Value} {l m : List Ln} (h1 : LnOwn w B1 v1 l) (h2 : LnOwn w B2 v2 m) (hl : l.length ≤ 100000) (he : lnNo l = lnNo m) :
    Calls Tryd.prog 15 #[v1, v2, .bool false] w fun e w' => e = .returned (.bool true) ∧ Fr No w w' := by
  have hlen : m.length = l.length := by have := congrArg List.length he; simp only [lnNo, List.length_map] at this; omega
  obtain ⟨a1, c1, rfl⟩ := own_form h1
  obtain ⟨a2, c2, rfl⟩ := own_form h2
  have h2' : w.ownsRow B2 90 7 (.slice a2 l.length c2) l.length (lnsC m) := by
    have h := h2
    unfold LnOwn at h
    rwa [hlen] at h
  rw [hlen]
  clear h2
  have HE := Lib.hid he
  clear he
  go_enter Tryd.func15, Tryd.ntmps15
  go_wp2_with fail
  go_loopg [7] l.length (fun gk x7 wr => ∃ i : Nat, gk = l.length - i ∧ i ≤ l.length ∧ x7 = .int .i64 i ∧ Fr No w wr)
  case atStart => exact ⟨0, rfl, Nat.zero_le _, rfl, Fr.refl _ _⟩
  case round =>
    obtain ⟨i, hgk, hi, rfl, hf⟩ := hrel
    have HG := Lib.hid hgk
    clear hgk
    by_cases hlt : i < l.length
    · obtain ⟨x, hx⟩ : ∃ x, l[i]? = some x := ⟨l[i], List.getElem?_eq_getElem hlt⟩
      obtain ⟨y, hy, q1, q2, q3⟩ := lnNo_get HE.out hx
      have ho1 : wr.ownsRow B1 90 7 _ l.length (lnsC l) := own_fr h1 hf (fun _ _ x => x)
      have ho2 : wr.ownsRow B2 90 7 _ l.length (lnsC m) := own_fr h2' hf (fun _ _ x => x)
      obtain ⟨r0, r1, r2⟩ := lns_cell hx
      obtain ⟨t0, t1, t2⟩ := lns_cell hy
      rw [q1] at t0
      rw [q2] at t1
      rw [q3] at t2
      rcases own_cases ho1 with ⟨_, h9, _⟩ | ⟨g1, cap1, e1, _, hgl1, hcap1⟩
      · omega
      rcases own_cases ho2 with ⟨_, h9, _⟩ | ⟨g2, cap2, e2, _, hgl2, hcap2⟩
      · omega
      simp only [Value.slice.injEq] at e1 e2
      obtain ⟨rfl, _, rfl⟩ := e1
      obtain ⟨rfl, _, rfl⟩ := e2
      have d0 := own_cell ho1 r0
      have d1 := own_cell ho1 r1
      have d2 := own_cell ho1 r2
      have u0 := own_cell ho2 t0
      have u1 := own_cell ho2 t1
      have u2 := own_cell ho2 t2
      have i1 : (0 : Int) ≤ (i : Int) := by omega
      have i2 : (i : Int) < (l.length : Int) := by omega
      generalize x.kind = K at *
      generalize x.depth = D at *
      generalize (⟨x.text.toArray⟩ : ByteArray) = T at *
      have hk0 : (K != K) = false := by simp
      have hd0 : (((D : Nat) : Int) != (D : Int)) = false := by simp
      have ht0 : (T != T) = false := ba_bne T
      clear r0 r1 r2 t0 t1 t2 hx hy q1 q2 q3
      go_upto_region 6 with (fail)
      go_quiet (fail)
      go_wp2_with fail
      go_roundg (l.length - (i + 1))
      case measure => rw [HG.out]; omega
      case rel => exact ⟨i + 1, rfl, by omega, by go_num, hf.drewN _⟩
    · obtain rfl : i = l.length := by omega
      have i2 : ¬ ((l.length : Int) < (l.length : Int)) := by omega
      go_wp2_with fail
      go_ret
      exact ⟨rfl, hf⟩
end Go.Proofs.YtjmjdmmojgmcdaaDoor
