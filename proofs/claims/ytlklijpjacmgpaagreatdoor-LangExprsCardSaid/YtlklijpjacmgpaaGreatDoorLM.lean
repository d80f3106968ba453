/- row and block, given statement. -/
import Derived.Test.YtlklijpjacmgpaaGreatDoorLK
import Derived.Test.YtlklijpjacmgpaaGreatDoorLL
import Derived.Maps.AppendAt
namespace Go.Proofs.YtlklijpjacmgpaaGreatDoor
open Go.RowKit
set_option linter.unusedVariables false
set_option linter.unusedSimpArgs false
attribute [local go_sem ↓] Go.wp_at_zero Go.wp_at_succ

def S2 (b m : Nat) : Nat → Prop := fun k => k = b ∨ k = m
/-- .. and a row that is being filled -/
def S3 (b m : Nat) (v : Value) : Nat → Prop := fun k => S2 b m k ∨ v.ownBlock = some k
/-- what a reader of statements is handed -/
structure StIn (w : World) (b m : Nat) (lv nv : Value) (o : Nat) (toks r : List Tok) (nm mk : List (List UInt8)) : Prop where
  rd : Rdr w b lv nv (.map (some m)) o toks r
  na : NmAt w b nv nm
  ma : MkAt w m mk
  mb : m < b
  l1 : toks.length ≤ 5000
  l2 : nm.length ≤ 1000
  l3 : o ≤ 16
  l4 : mk.length + r.length ≤ 10000
theorem StIn.bl {w : World} {b m : Nat} {lv nv : Value} {o : Nat} {toks r : List Tok} {nm mk : List (List UInt8)} (h : StIn w b m lv nv o toks r nm mk) : b < w.heap.size := by
  obtain ⟨_, _, _, hb, _⟩ := h.rd
  exact hb.lt
theorem NmAt.map {w w' : World} {b m : Nat} {nv : Value} {nm mk : List (List UInt8)} (h : NmAt w b nv nm) (hM : MkAt w m mk) (f : Fr (S2 b m) w w') : NmAt w' b nv nm := by
  obtain ⟨a, c, rfl, hc⟩ := h
  refine ⟨a, c, rfl, fun i x hx => ?_⟩
  obtain ⟨g, off, rfl, h1, h2⟩ := hc i x hx
  refine ⟨g, off, rfl, ?_, h2⟩
  have hlt : g < w.heap.size := by
    rcases Nat.lt_or_ge g w.heap.size with hh | hh
    · exact hh
    · simp [World.cell?, hh] at h1
  have hgm : g ≠ m := by
    intro e
    subst e
    rw [hM.none] at h1
    cases h1
  rw [← h1]
  exact World.cell?_of_block (f.block g hlt (by unfold S2; omega))
theorem StIn.next {w w' : World} {b m : Nat} {lv nv : Value} {o : Nat} {toks r r1 : List Tok} {nm mk mk1 : List (List UInt8)} (h : StIn w b m lv nv o toks r nm mk) (f : Fr (S2 b m) w w') (hR : Rdr w' b lv nv (.map (some m)) o toks r1) (hM : MkAt w' m mk1) (hl : mk1.length + r1.length ≤ mk.length + r.length) : StIn w' b m lv nv o toks r1 nm mk1 :=
  ⟨hR, h.na.map h.ma f, hM, h.mb, h.l1, h.l2, h.l3, by have := h.l4; omega⟩
theorem StIn.no {w w' : World} {b m : Nat} {lv nv : Value} {o : Nat} {toks r : List Tok} {nm mk : List (List UInt8)} (h : StIn w b m lv nv o toks r nm mk) (f : Fr No w w') : StIn w' b m lv nv o toks r nm mk :=
  h.next (Fr.ofNo f) (h.rd.no f) (h.ma.keep f (fun x => x)) (Nat.le_refl _)
/-- only the reader has changed -/
theorem StIn.rdr {w w' : World} {b m : Nat} {lv nv : Value} {o : Nat} {toks r r1 : List Tok} {nm mk : List (List UInt8)} (h : StIn w b m lv nv o toks r nm mk) (f : Fr (· = b) w w') (hR : Rdr w' b lv nv (.map (some m)) o toks r1) (hl : r1.length ≤ r.length) : StIn w' b m lv nv o toks r1 nm mk :=
  h.next ((Fr.refl _ w).call f (fun k _ e => Or.inl e)) hR (h.ma.keep f (by have := h.mb; omega)) (by omega)
theorem Fr.up {b m : Nat} {w w' : World} (f : Fr (· = b) w w') : Fr (S2 b m) w w' := (Fr.refl _ w).call f (fun k _ e => Or.inl e)
theorem Fr.s2 {b m : Nat} {w w' w'' : World} (f : Fr (S2 b m) w w') (g : Fr (S2 b m) w' w'') : Fr (S2 b m) w w'' := f.call g (fun _ _ x => x)
theorem s2_far {b m : Nat} (hm : m < b) : ∀ k, b + 1 ≤ k → ¬ S2 b m k := by intro k hk; unfold S2; omega

theorem Rdr.farS {S : Nat → Prop} {w w5 w6 : World} {b : Nat} {lv nv mv nv' mv' : Value} {o o' : Nat} {toks r r' : List Tok} (h : Rdr w b lv nv mv o toks r) (hR : Rdr w5 b lv nv' mv' o' toks r') (f : Fr S w5 w6) (hS : ∀ k, S k → w.heap.size ≤ k) : Rdr w6 b lv nv' mv' o' toks r' := by
  obtain ⟨_, _, _, hb0, g0, c0, e0, _, hg0, _⟩ := h
  obtain ⟨i, x, a, hb, g, c, e1, hgb, hgl, hc⟩ := hR
  rw [e1] at e0
  simp only [Value.slice.injEq, Option.some.injEq, Addr.mk.injEq, and_true, true_and] at e0
  have hbl := hb0.lt
  refine ⟨i, x, a, hb.fr f (fun e => by have := hS _ e; omega), g, c, e1, hgb, Nat.lt_of_lt_of_le hgl f.size, fun i x hx k hk => ?_⟩
  rw [← hc i x hx k hk]
  exact World.cell?_of_block (f.block g hgl (fun e => by have := hS _ e; have := e0.1; omega))
/-- statements that are read -/
def RowOut (w : World) (b m : Nat) (lv nv : Value) (o : Nat) (toks : List Tok) (res : RS Sms) (e : Ending) (w' : World) : Prop :=
  Fr (S2 b m) w w' ∧ match res with
    | .error (c, p) => Threw c p e
    | .ok (l, mk1, r1) => ∃ a n c vs, e = .returned (.slice a n c) ∧ w'.ownsRow w.heap.size 141 1 (.slice a n c) n vs ∧ SmsAre w' w.heap.size l vs ∧ Rdr w' b lv nv (.map (some m)) o toks r1 ∧ MkAt w' m mk1
/-- a statement that is read, or none -/
def StOut (w : World) (b m : Nat) (lv nv : Value) (o : Nat) (toks : List Tok) (res : RS (Option Sm)) (e : Ending) (w' : World) : Prop :=
  Fr (S2 b m) w w' ∧ match res with
    | .error (c, p) => Threw c p e
    | .ok (none, mk1, r1) => e = .returned (.tuple #[.nilIface, .bool false]) ∧ Rdr w' b lv nv (.map (some m)) o toks r1 ∧ MkAt w' m mk1
    | .ok (some s, mk1, r1) => ∃ v, e = .returned (.tuple #[v, .bool true]) ∧ SmIs w' w.heap.size s v ∧ Rdr w' b lv nv (.map (some m)) o toks r1 ∧ MkAt w' m mk1
structure StC (n : Nat) : Prop where
  row : ∀ (w : World) (b m : Nat) (lv nv : Value) (o : Nat) (toks r : List Tok) (nm mk : List (List UInt8)), StIn w b m lv nv o toks r nm mk → 8 * r.length + 4 ≤ n →
    Calls Tryz.prog 34 #[.pointer (some ⟨b, 0, none⟩)] w (RowOut w b m lv nv o toks (rowS n nm mk o r))
  st : ∀ (w : World) (b m : Nat) (lv nv : Value) (o : Nat) (toks r : List Tok) (nm mk : List (List UInt8)), StIn w b m lv nv o toks r nm mk → 8 * r.length + 3 ≤ n →
    Calls Tryz.prog 71 #[.pointer (some ⟨b, 0, none⟩)] w (StOut w b m lv nv o toks (stmtS n nm mk o r))
  bl : ∀ (w : World) (b m : Nat) (lv nv : Value) (o : Nat) (toks r : List Tok) (nm mk : List (List UInt8)), StIn w b m lv nv o toks r nm mk → 8 * r.length + 2 ≤ n →
    Calls Tryz.prog 111 #[.pointer (some ⟨b, 0, none⟩)] w (RowOut w b m lv nv o toks (blockS n nm mk o r))

def Sms.app : Sms → Sms → Sms
  | .nil, l => l
  | .cons s r, l => .cons s (r.app l)
theorem Sms.app_nil : ∀ (l : Sms), l.app .nil = l
  | .nil => rfl
  | .cons s r => by simp only [Sms.app, Sms.app_nil r]
theorem Sms.app_snoc : ∀ (a : Sms) (s : Sm) (l : Sms), (a.snoc s).app l = a.app (.cons s l)
  | .nil, s, l => rfl
  | .cons x r, s, l => by simp only [Sms.snoc, Sms.app, Sms.app_snoc r s l]
theorem SmsAre.snoc {w : World} {B : Nat} {s : Sm} {v : Value} (hs : SmIs w B s v) : ∀ (l : Sms) (vs : List Value), SmsAre w B l vs → SmsAre w B (l.snoc s) (vs ++ [v])
  | .nil, vs, h => by
    simp only [SmsAre] at h
    subst h
    simp only [Sms.snoc, SmsAre]
    exact ⟨v, [], rfl, hs, rfl⟩
  | .cons x r, vs, h => by
    simp only [SmsAre] at h
    obtain ⟨u, us, rfl, h1, h2⟩ := h
    simp only [Sms.snoc, SmsAre, List.cons_append]
    exact ⟨u, us ++ [v], rfl, h1, SmsAre.snoc hs r us h2⟩
/-- statements ahead of what a row is read as -/
def preR (acc : Sms) : RS Sms → RS Sms
  | .error e => .error e
  | .ok (l, mk, r) => .ok (acc.app l, mk, r)
theorem SmIs.form {w : World} {B : Nat} {s : Sm} {v : Value} (h : SmIs w B s v) : ∃ t x, v = .iface t (.agg x) := by
  cases s with
  | set p k x e =>
    cases e with
    | none => simp only [SmIs] at h; exact ⟨_, _, h⟩
    | some n => simp only [SmIs] at h; obtain ⟨y, _, h⟩ := h; exact ⟨_, _, h⟩
  | skip p => simp only [SmIs] at h; exact ⟨_, _, h⟩
  | stop p => simp only [SmIs] at h; exact ⟨_, _, h⟩
  | mark p x => simp only [SmIs] at h; exact ⟨_, _, h⟩
  | choose p b => simp only [SmIs] at h; obtain ⟨_, _, _, _, _, _, h⟩ := h; exact ⟨_, _, h⟩
  | loop p b => simp only [SmIs] at h; obtain ⟨_, _, _, _, _, _, h⟩ := h; exact ⟨_, _, h⟩
  | iff p l r eq t e => simp only [SmIs] at h; obtain ⟨_, _, _, _, _, _, _, _, _, _, _, _, h⟩ := h; exact ⟨_, _, h⟩
  | whil p l r eq b => simp only [SmIs] at h; obtain ⟨_, _, _, _, _, _, _, _, _, _, h⟩ := h; exact ⟨_, _, h⟩
theorem info_stmt : (Tryz.prog.info? 141).map (fun i => (i.zero, i.size, i.bytes)) = some (some .nilIface, 1, 16) := by kernel_rfl

set_option maxRecDepth 100000 in
set_option maxHeartbeats 4000000 in
theorem block_step {n : Nat} (ih : StC n) (w : World) (b m : Nat) (lv nv : Value) (o : Nat) (toks r : List Tok) (nm mk : List (List UInt8)) (h : StIn w b m lv nv o toks r nm mk) (hm : 8 * r.length + 2 ≤ n + 1) :
    Calls Tryz.prog 111 #[.pointer (some ⟨b, 0, none⟩)] w (RowOut w b m lv nv o toks (blockS (n + 1) nm mk o r)) := by
  have hg := h.rd.good
  obtain ⟨res, hres⟩ : ∃ res, blockS (n + 1) nm mk o r = res := ⟨_, rfl⟩
  rw [hres]
  simp only [blockS] at hres
  have hl1 := h.l1
  have hl3 := h.l3
  go_enter Tryz.func111, Tryz.ntmps111
  go_wp2_with fail
  refine (into_rdr (by omega) [123] h.rd).mono ?_
  rintro e w1 ⟨hf1, hm1⟩
  cases hi : intoS [123] o r with
  | error ep =>
    rw [hi] at hm1 hres
    obtain ⟨c, p⟩ := ep
    simp only [Threw] at hm1
    subst hm1 hres
    go_wp2_with fail
    exact ⟨rfl, hf1.up, rfl⟩
  | ok r1 =>
    rw [hi] at hm1 hres
    obtain ⟨rfl, hR1⟩ := hm1
    simp only at hres
    have q1 := into_len hg hi
    have ho : o < 16 := by
      unfold intoS at hi
      split at hi
      · cases hi
      · split at hi
        · cases hi
        · omega
    have h1 : StIn w1 b m lv nv (o + 1) toks r1 nm mk := ⟨hR1, h.na.map h.ma hf1.up, h.ma.keep hf1 (by have := h.mb; omega), h.mb, h.l1, h.l2, by omega, by have := h.l4; omega⟩
    go_wp2_with fail
    refine (ih.row w1 b m lv nv (o + 1) toks r1 nm mk h1 (by omega)).mono ?_
    rintro e w2 ⟨hf2, hm2⟩
    have hf3 := hf1.up.s2 hf2
    cases hr : rowS n nm mk (o + 1) r1 with
    | error ep =>
      rw [hr] at hm2 hres
      obtain ⟨c, p⟩ := ep
      simp only [Threw] at hm2
      subst hm2 hres
      go_wp2_with fail
      exact ⟨rfl, hf3, rfl⟩
    | ok x =>
      rw [hr] at hm2 hres
      obtain ⟨l, mk1, r2⟩ := x
      obtain ⟨a, k, c, vs, rfl, ho2, hs2, hR2, hM2⟩ := hm2
      simp only at hres
      go_wp2_with fail
      refine (out_rdr (by omega) (by omega) [125] hR2).mono ?_
      rintro e w3 ⟨hf4, hm4⟩
      have hf5 := hf3.s2 hf4.up
      cases hx : isT [125] r2 with
      | true =>
        have e : mustS [125] r2 = .ok (passT r2) := by unfold mustS; rw [if_pos hx]
        rw [e] at hres hm4
        obtain ⟨rfl, hR3⟩ := hm4
        subst hres
        go_wp2_with fail
        go_ret
        have hbw := hR1.bl
        exact ⟨hf5, a, k, c, vs, rfl, own_mono (own_fr ho2 hf4 (fun j hj => by have := (ho2.lt j hj).1; omega)) hf1.size, SmsAre.mono hf1.size _ _ (SmsAre.keep hf4 (fun k hk => by omega) _ _ hs2), hR3, hM2.keep hf4 (by have := h.mb; omega)⟩
      | false =>
        have e : mustS [125] r2 = .error (80, (hereT r2).at_) := by unfold mustS; rw [if_neg (by simp [hx])]
        rw [e] at hres hm4
        simp only [Threw] at hm4
        subst hm4 hres
        go_wp2_with fail
        exact ⟨rfl, hf5, rfl⟩

set_option maxRecDepth 100000 in
set_option maxHeartbeats 4000000 in
theorem row_step {n : Nat} (ih : ∀ k, k ≤ n → StC k) (w : World) (b m : Nat) (lv nv : Value) (o : Nat) (toks r : List Tok) (nm mk : List (List UInt8)) (h : StIn w b m lv nv o toks r nm mk) (hm : 8 * r.length + 4 ≤ n + 1) :
    Calls Tryz.prog 34 #[.pointer (some ⟨b, 0, none⟩)] w (RowOut w b m lv nv o toks (rowS (n + 1) nm mk o r)) := by
  obtain ⟨i0, hi, hz0, hz1, hz2⟩ := info_parts info_stmt
  have hbw : b + 1 ≤ w.heap.size := h.bl
  obtain ⟨res, hres⟩ : ∃ res, rowS (n + 1) nm mk o r = res := ⟨_, rfl⟩
  rw [hres]
  go_enter Tryz.func34, Tryz.ntmps34
  go_wp2_with fail
  go_loopg [3] r.length (fun gk x3 wr => ∃ (k : Nat) (acc : Sms) (r1 : List Tok) (mk1 : List (List UInt8)) (a : Option Addr) (c : Nat) (vs : List Value), gk = r1.length ∧ x3 = .slice a vs.length c ∧ preR acc (rowS k nm mk1 o r1) = res ∧ k ≤ n + 1 ∧ 8 * r1.length + 4 ≤ k ∧ r1.length ≤ r.length ∧ vs.length + r1.length ≤ r.length ∧ wr.ownsRow w.heap.size 141 1 (.slice a vs.length c) vs.length vs ∧ (∀ w', Fr (S3 b m (.slice a vs.length c)) wr w' → SmsAre w' w.heap.size acc vs) ∧ StIn wr b m lv nv o toks r1 nm mk1 ∧ Fr (S2 b m) w wr)
  case atStart =>
    refine ⟨n + 1, .nil, r, mk, none, 0, [], rfl, rfl, ?_, Nat.le_refl _, hm, Nat.le_refl _, by simp, World.ownsRow_nil _ _ _ _, fun _ _ => by simp only [SmsAre], h, Fr.refl _ _⟩
    rw [← hres]
    cases rowS (n + 1) nm mk o r with
    | error e => rfl
    | ok x => obtain ⟨l, mk1, r1⟩ := x; rfl
  case round =>
    have hrl : r.length ≤ 10000 := by have := h.l4; omega
    have H := Lib.hid h
    clear hres h hm
    obtain ⟨k, acc, r1, mk1, a, c, vs, hgk, rfl, hres, hkn, hkm, hrr, hvr, ho1, hs1, h1, hf1⟩ := hrel
    have hg := h1.rd.good
    obtain ⟨k, rfl⟩ : ∃ k', k = k' + 1 := ⟨k - 1, by omega⟩
    simp only [rowS] at hres
    have HG := Lib.hid hgk
    clear hgk
    have hmb := h1.mb
    go_wp2_with fail
    refine (here_rdr h1.rd).mono ?_
    rintro e w2 ⟨rfl, hR2, hf2⟩
    have h2 := h1.no hf2
    have hf3 := hf1.callNo hf2
    have ho2 := own_fr ho1 hf2 (fun _ _ x => x)
    have hs2 := fun w' (f : Fr (S3 b m (.slice a vs.length c)) w2 w') => hs1 w' ((Fr.ofNo hf2).call f (fun _ _ x => x))
    clear h1 hf1 hR2 ho1 hs1 hf2
    simp only [tokC]
    obtain ⟨K, hK⟩ : ∃ K, (hereT r1).kind = K := ⟨_, rfl⟩
    rw [hK] at hres ⊢
    have hfk := fld_kind
    by_cases hk1 : K = 1
    · rw [if_neg (by simp [hk1])] at hres
      subst hk1
      go_wp2_with fail
      refine ((ih k (by omega)).st w2 b m lv nv o toks r1 nm mk1 h2 (by omega)).mono ?_
      rintro e w3 ⟨hf4, hm4⟩
      have hf5 := hf3.s2 hf4
      have ho3 := own_fr ho2 hf4 (fun j hj => s2_far hmb j (Nat.le_trans hbw (ho2.lt j hj).1))
      have hs3 := fun w' (f : Fr (S3 b m (.slice a vs.length c)) w3 w') => hs2 w' (((Fr.refl _ w2).call hf4 (fun _ _ e => Or.inl e)).call f (fun _ _ x => x))
      have hol := ho2.lt
      have hsz2 := hf3.size
      have h2b := h2.bl
      have h2m := h2.ma.lt
      clear ho2 hs2 hf3
      cases hst : stmtS k nm mk1 o r1 with
      | error ep =>
        rw [hst] at hm4 hres
        obtain ⟨c, p⟩ := ep
        simp only [Threw] at hm4
        subst hm4 hres
        go_wp2_with fail
        exact ⟨rfl, hf5, rfl⟩
      | ok x =>
        rw [hst] at hm4 hres
        obtain ⟨os, mk2, r2⟩ := x
        cases os with
        | none =>
          obtain ⟨rfl, hR4, hM4⟩ := hm4
          simp only [preR, Sms.app_nil] at hres
          subst hres
          go_wp2_with fail
          go_ret
          exact ⟨hf5, a, _, c, vs, rfl, ho3, hs3 _ (Fr.refl _ _), hR4, hM4⟩
        | some s =>
          obtain ⟨v, rfl, hsv, hR4, hM4⟩ := hm4
          obtain ⟨ty, vc, rfl⟩ := hsv.form
          have q1 := (st_len nm k).st hg hst
          have h3 := h2.next hf4 hR4 hM4 q1.2.2
          have hbl := h3.bl
          simp only at hres
          clear h2 hf4
          go_wp2_with ((at_builtin; go_loud (refine wpList_append_own_at _ rfl _ _ 76 rfl w.heap.size 141 i0 .nilIface 1 16 Tryz.underlying76 hi hz0 hz1 hz2 rfl (by decide) _ _ _ rfl (ho3.alloc _) ⟨w3.heap.size, 0, none⟩ 1 1 [.iface ty (.agg vc)] rfl rfl ?c1 ?c2 ?c3 ?c4 ?c5 ?_; (case c1 => exact new_one _ _ _); (case c2 => exact one_cell rfl); (case c3 => (unfold maxLen; omega)); (case c4 => omega); (case c5 => (have := hf5.size; simp; omega)); intro v6 w6 hown6 hgr6 _ hat6)))
          obtain ⟨a6, c6, rfl⟩ := own_form hown6
          have hb2 := h2b
          have hsv2 : ∀ w', Fr (S3 b m (.slice a vs.length c)) w3 w' → SmIs w' w.heap.size s (.iface ty (.agg vc)) := fun w' f => SmIs.mono hsz2 _ _ (SmIs.keep f (fun j hj e => by
            rcases e with e | e
            · unfold S2 at e; omega
            · have := (hol j e).2; omega) _ _ hsv)
          have f36 : Fr (S3 b m (.slice a vs.length c)) w3 w6 := ((Fr.refl _ w3).alloc _).grown hgr6 (fun j hj _ => Or.inr hj)
          have hlift : ∀ w', Fr (S3 b m (.slice a6 (vs.length + 1) c6)) w6 w' → Fr (S3 b m (.slice a vs.length c)) w3 w' := fun w' f => f36.call f (fun j hj e => by
            rcases e with e | e
            · exact Or.inl e
            · rcases hat6 with h6 | h6
              · exact Or.inr (h6 ▸ e)
              · rw [h6] at e
                simp at e
                omega)
          have hfr6 : Fr (S2 b m) w w6 := (hf5.alloc _).grown hgr6 (fun j hj hlt => by have := (ho3.lt j hj).1; omega)
          have hfn6 : Fr (fun j => (Value.slice a vs.length c).ownBlock = some j) w3 w6 := ((Fr.refl _ w3).alloc _).grown hgr6 (fun j hj _ => hj)
          go_roundg r2.length
          case measure => rw [HG.out]; omega
          case rel =>
            refine ⟨k, acc.snoc s, r2, mk2, a6, c6, vs ++ [.iface ty (.agg vc)], rfl, by rw [List.length_append]; rfl, ?_, by omega, by omega, by omega, by rw [List.length_append]; simp; omega, by rw [List.length_append]; exact hown6, fun w' f => ?_, ?_, hfr6⟩
            · rw [← hres]
              cases rowS k nm mk2 o r2 with
              | error e => rfl
              | ok x => obtain ⟨l, mk3, r3⟩ := x; simp only [preR, Sms.app_snoc]
            · rw [List.length_append] at f
              exact SmsAre.snoc (hsv2 w' (hlift w' f)) _ _ (hs3 w' (hlift w' f))
            · exact ⟨H.out.rd.farS hR4 hfn6 (fun j hj => (ho3.lt j hj).1), H.out.na.map H.out.ma hfr6, hM4.keep hfn6 (fun e => by have := (ho3.lt m e).1; omega), hmb, h3.l1, h3.l2, h3.l3, h3.l4⟩
    · rw [if_pos hk1] at hres
      simp only [preR, Sms.app_nil] at hres
      have b1 : (K == 1) = false := by simpa using hk1
      subst hres
      go_wp2_with fail
      go_ret
      exact ⟨hf3, a, _, c, vs, rfl, ho2, hs2 _ (Fr.refl _ _), h2.rd, h2.ma⟩
end Go.Proofs.YtlklijpjacmgpaaGreatDoor
