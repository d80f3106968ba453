/- Parse's own closure. -/
import Derived.Test.YtlklijpjacmgpaaGreatDoorLO
namespace Go.Proofs.YtlklijpjacmgpaaGreatDoor
open Go.RowKit
set_option linter.unusedVariables false
set_option linter.unusedSimpArgs false
attribute [local go_sem ↓] Go.wp_at_zero Go.wp_at_succ

/-- a program in memory -/
def pgO (p : Pl) (bg bd : Value) : Obj := .cells #[.int .i64 p.b, .int .i64 p.g, .int .i64 p.l, .int .i64 p.c, bg, bd] 78 (0, 0)
def BgsAre (w : World) (B : Nat) : List Bg → List Value → Prop
  | [], vs => vs = []
  | g :: r, vs => ∃ a c us, vs = [strV g.name, .bool g.any, .bool g.neg, .slice a (dig L32 g.mag).length c] ++ us ∧ w.ownsRow B 57 1 (.slice a (dig L32 g.mag).length c) (dig L32 g.mag).length (u32s (dig L32 g.mag)) ∧ BgsAre w B r us
theorem own_apart {S : Nat → Prop} {w w' : World} {B : Nat} {v : Value} {n : Nat} {xs : List Value} (h : w.ownsRow B 57 1 v n xs) (f : Fr S w w') (hS : ∀ k, B ≤ k → k < w.heap.size → S k → ∃ cs t fz, Blk w k (.cells cs t fz) ∧ t ≠ 57) : w'.ownsRow B 57 1 v n xs :=
  own_fr h f (fun k hk e => by
    obtain ⟨cs, t, fz, hb, ht⟩ := hS k (h.lt k hk).1 (h.lt k hk).2 e
    exact own_ne h hb ht hk)
theorem BgsAre.apart {S : Nat → Prop} {w w' : World} {B : Nat} (f : Fr S w w') (hS : ∀ k, B ≤ k → k < w.heap.size → S k → ∃ cs t fz, Blk w k (.cells cs t fz) ∧ t ≠ 57) : ∀ (l : List Bg) (vs : List Value), BgsAre w B l vs → BgsAre w' B l vs
  | [], vs, h => h
  | g :: r, vs, ⟨a, c, us, h1, h2, h3⟩ => ⟨a, c, us, h1, own_apart h2 f hS, BgsAre.apart f hS r us h3⟩
theorem BgsAre.mono {w : World} {B B' : Nat} (hb : B' ≤ B) : ∀ (l : List Bg) (vs : List Value), BgsAre w B l vs → BgsAre w B' l vs
  | [], vs, h => h
  | g :: r, vs, ⟨a, c, us, h1, h2, h3⟩ => ⟨a, c, us, h1, own_mono h2 hb, BgsAre.mono hb r us h3⟩
theorem BgsAre.snoc {w : World} {B : Nat} {g : Bg} {a : Option Addr} {c : Nat} (ho : w.ownsRow B 57 1 (.slice a (dig L32 g.mag).length c) (dig L32 g.mag).length (u32s (dig L32 g.mag))) : ∀ (l : List Bg) (vs : List Value), BgsAre w B l vs → BgsAre w B (l ++ [g]) (vs ++ [strV g.name, .bool g.any, .bool g.neg, .slice a (dig L32 g.mag).length c])
  | [], vs, h => by
    simp only [BgsAre] at h
    subst h
    exact ⟨a, c, [], rfl, ho, rfl⟩
  | x :: r, vs, ⟨a', c', us, h1, h2, h3⟩ => ⟨a', c', us ++ [strV g.name, .bool g.any, .bool g.neg, .slice a (dig L32 g.mag).length c], by rw [h1, List.append_assoc], h2, BgsAre.snoc ho r us h3⟩
theorem dc_apart {w : World} {b B : Nat} {nv : Value} {nm : List (List UInt8)} (hb : b < B) (hn : NmOwn w B nv nm) : ∀ k, B ≤ k → k < w.heap.size → DcS b nv k → ∃ cs t fz, Blk w k (.cells cs t fz) ∧ t ≠ 57 := by
  intro k hk _ e
  rcases e with e | e
  · omega
  · obtain ⟨cur, hc⟩ := own_obj hn e
    exact ⟨_, _, _, hc, by decide⟩
theorem own_apart_row {w : World} {B : Nat} {e : TypeId} {size : Nat} {v : Value} {n : Nat} {xs : List Value} (h : w.ownsRow B e size v n xs) (he : e ≠ 57) {k : Nat} (hk : v.ownBlock = some k) : ∃ cs t fz, Blk w k (.cells cs t fz) ∧ t ≠ 57 := by
  obtain ⟨cur, hc⟩ := own_obj h hk
  exact ⟨_, _, _, hc, he⟩
theorem decl_len {nm : List (List UInt8)} {r r1 : List Tok} {g : Bg} (hg : Good r) (h : declareS nm r = .ok (g, r1)) : Good r1 ∧ r1.length < r.length ∧ nm.length < 8 ∧ g.name = (hereT r).text := by
  unfold declareS at h
  split at h
  · cases h
  rename_i hn
  have hk : (hereT r).kind = 1 := by
    simp only [nameS, Bool.not_eq_false, Bool.and_eq_true, decide_eq_true_eq] at hn
    exact hn.1
  have hl := hg.pass_lt (by omega)
  have g1 := hg.pass
  have g2 := g1.pass
  have l2 := g1.pass_le
  have g3 := g2.pass
  have l3 := g2.pass_le
  have g4 := g3.pass
  have l4 := g3.pass_le
  split at h
  · cases h
  split at h
  · cases h
  split at h
  · cases h
  split at h
  · split at h
    · split at h
      · cases h; exact ⟨g4, by omega, by omega, rfl⟩
      · cases h
    · split at h
      · cases h; exact ⟨g3, by omega, by omega, rfl⟩
      · cases h
  · cases h; exact ⟨g1, by omega, by omega, rfl⟩
theorem declsS_step (k : Nat) (bs : List Bg) (r1 : List Tok) (h59 : isT [59] r1 = false) : declsS (k + 1) bs r1 = match (if bs = [] then Except.ok r1 else mustS [44] r1) with
    | .error e => .error e
    | .ok r2 => match declareS (bs.map Bg.name) r2 with
      | .error e => .error e
      | .ok (b, r3) => declsS k (bs ++ [b]) r3 := by
  simp only [declsS]
  rw [if_neg (by simp [h59])]
  by_cases hb : bs = []
  · subst hb
    simp only [if_true, List.map_nil, List.nil_append]
    cases declareS [] r1 with
    | error e => rfl
    | ok x => rfl
  · rw [if_neg hb, if_neg hb]
    cases mustS [44] r1 with
    | error e => rfl
    | ok x =>
      simp only
      cases declareS (bs.map Bg.name) x with
      | error e => rfl
      | ok y => rfl
theorem bg_one (s : List UInt8) (x y : Bool) (a : Option Addr) (n c : Nat) : ∀ u ∈ [strV s, .bool x, .bool y, .slice a n c], u.oneCell' = true := by
  intro u hu
  simp only [List.mem_cons, List.not_mem_nil, or_false] at hu
  rcases hu with rfl | rfl | rfl | rfl <;> rfl
theorem info_bg : (Tryz.prog.info? 56).map (fun i => (i.zero, i.size, i.bytes)) = some (some (.agg #[.string ⟨#[]⟩, .bool false, .bool false, .slice none 0 0]), 4, 56) := by kernel_rfl
/-- a program without its end -/
noncomputable def progS0 (n : Nat) (r : List Tok) : Except Er (Pg × List Tok) :=
  match mustS vars_ r with
  | .error e => .error e
  | .ok r1 =>
    match declsS n [] r1 with
    | .error e => .error e
    | .ok (bs, r2) =>
      match rowS n (bs.map Bg.name) [] 0 r2 with
      | .error e => .error e
      | .ok (l, _, r3) => .ok (⟨(hereT r).at_, bs, l⟩, r3)
/-- a program that was read -/
def PgIs (w : World) (B P : Nat) (g : Pg) : Prop := ∃ a c vs a2 n2 c2 us, Blk w P (pgO g.at_ (.slice a g.begins.length c) (.slice a2 n2 c2)) ∧ w.ownsRow B 56 4 (.slice a g.begins.length c) g.begins.length vs ∧ BgsAre w B g.begins vs ∧ w.ownsRow B 141 1 (.slice a2 n2 c2) n2 us ∧ SmsAre w B g.body us
def P1S (b m P : Nat) : Nat → Prop := fun k => k = b ∨ k = m ∨ k = P
def P1Out (w : World) (b m P : Nat) (lv : Value) (toks : List Tok) (res : Except Er (Pg × List Tok)) (e : Ending) (w' : World) : Prop :=
  Fr (P1S b m P) w w' ∧ match res with
    | .error (c, p) => Threw c p e
    | .ok (g, r1) => ∃ nv, e = .returned (.tuple #[]) ∧ Rdr w' b lv nv (.map (some m)) 0 toks r1 ∧ PgIs w' w.heap.size P g

theorem set6p {w : World} {P : Nat} {p0 : Pl} {bg bd : Value} (h : Blk w P (pgO p0 bg bd)) (p : Pl) : Blk ((((w.setCell ⟨P, 0, none⟩ (.int .i64 p.b)).setCell ⟨P, 1, none⟩ (.int .i64 p.g)).setCell ⟨P, 2, none⟩ (.int .i64 p.l)).setCell ⟨P, 3, none⟩ (.int .i64 p.c)) P (pgO p bg bd) := by
  have h1 : Blk _ P (.cells #[.int .i64 p.b, .int .i64 p0.g, .int .i64 p0.l, .int .i64 p0.c, bg, bd] 78 (0, 0)) := h.setOff 0 (.int .i64 p.b)
  have h2 : Blk _ P (.cells #[.int .i64 p.b, .int .i64 p.g, .int .i64 p0.l, .int .i64 p0.c, bg, bd] 78 (0, 0)) := h1.setOff 1 (.int .i64 p.g)
  have h3 : Blk _ P (.cells #[.int .i64 p.b, .int .i64 p.g, .int .i64 p.l, .int .i64 p0.c, bg, bd] 78 (0, 0)) := h2.setOff 2 (.int .i64 p.l)
  have h4 : Blk _ P (pgO p bg bd) := h3.setOff 3 (.int .i64 p.c)
  exact h4
theorem Rdr.notP {w : World} {b P : Nat} {lv nv mv : Value} {o : Nat} {toks r : List Tok} {p : Pl} {bg bd : Value} (h : Rdr w b lv nv mv o toks r) (hP : Blk w P (pgO p bg bd)) {g : Nat} {a c : Nat} (e : lv = .slice (some ⟨g, 0, none⟩) a c) : g ≠ P := by
  obtain ⟨i, x, ha, hb, g', c', e1, hgb, hgl, hc⟩ := h
  rw [e] at e1
  simp only [Value.slice.injEq, Option.some.injEq, Addr.mk.injEq, and_true] at e1
  obtain ⟨rfl, _⟩ := e1
  intro hgP
  subst hgP
  have hpos := ha.g.pos
  have h1 := hc 0 toks[0] (List.getElem?_eq_getElem hpos) 1 (by omega)
  have h2 := Blk.all hP 1
  rw [show 0 * 6 + 1 = 1 from rfl, h2] at h1
  simp [tokC] at h1
theorem Rdr.farP {w w' : World} {b P : Nat} {lv nv mv : Value} {o : Nat} {toks r : List Tok} {p : Pl} {bg bd : Value} (h : Rdr w b lv nv mv o toks r) (hP : Blk w P (pgO p bg bd)) (hPb : P ≠ b) (f : Fr (· = P) w w') : Rdr w' b lv nv mv o toks r := by
  have hne := fun (g a c : Nat) (e : lv = .slice (some ⟨g, 0, none⟩) a c) => h.notP hP e
  obtain ⟨i, x, ha, hb, g, c, e1, hgb, hgl, hc⟩ := h
  refine ⟨i, x, ha, hb.fr f (fun e => hPb e.symm), g, c, e1, hgb, Nat.lt_of_lt_of_le hgl f.size, fun i x hx k hk => ?_⟩
  rw [← hc i x hx k hk]
  exact World.cell?_of_block (f.block g hgl (hne g _ _ e1))
def P2S (b P : Nat) : Nat → Prop := fun k => k = b ∨ k = P
theorem Fr.p2b {b P : Nat} {w w' w'' : World} (f : Fr (P2S b P) w w') (g : Fr (· = b) w' w'') : Fr (P2S b P) w w'' := f.call g (fun _ _ e => Or.inl e)
theorem Fr.p2P {b P : Nat} {w w' w'' : World} (f : Fr (P2S b P) w w') (g : Fr (· = P) w' w'') : Fr (P2S b P) w w'' := f.call g (fun _ _ e => Or.inr e)
theorem Fr.p1 {b m P : Nat} {w w' : World} (f : Fr (P2S b P) w w') : Fr (P1S b m P) w w' := f.mono (fun k _ e => by rcases e with e | e; exact Or.inl e; exact Or.inr (Or.inr e))
set_option maxRecDepth 100000 in
set_option maxHeartbeats 4000000 in
theorem parse1_calls {w : World} {b m P PV n : Nat} {lv : Value} {p0 : Pl} {toks : List Tok} (hl : toks.length ≤ 5000) (h : Rdr w b lv (.slice none 0 0) (.map (some m)) 0 toks toks) (hm : MkAt w m []) (hmb : m < b) (hP : Blk w P (pgO p0 (.slice none 0 0) (.slice none 0 0))) (hPV : Blk w PV (.cells #[.pointer (some ⟨P, 0, none⟩)] 35 (0, 0))) (hne : P ≠ b ∧ PV ≠ b ∧ P ≠ m ∧ PV ≠ m ∧ P ≠ PV) (hn : 8 * toks.length + 10 ≤ n) :
    Calls Tryz.prog 29 #[.pointer (some ⟨b, 0, none⟩), .pointer (some ⟨PV, 0, none⟩)] w (P1Out w b m P lv toks (progS0 n toks)) := by
  have hg := h.good
  have hbl := h.bl
  obtain ⟨n1, n2, n3, n4, n5⟩ := hne
  obtain ⟨res, hres⟩ : ∃ res, progS0 n toks = res := ⟨_, rfl⟩
  rw [hres]
  unfold progS0 at hres
  obtain ⟨p, hp⟩ : ∃ p, (hereT toks).at_ = p := ⟨_, rfl⟩
  rw [hp] at hres
  have hfa := fld_at
  have hVd : ∀ i, w.drew.cell? ⟨PV, i, none⟩ = (#[.pointer (some ⟨P, 0, none⟩)] : Array Value)[i]? := Blk.all hPV.drew
  have hRd := h.no ((Fr.refl No w).drew)
  have hPd := hP.drew
  have hPVd := hPV.drew
  go_enter Tryz.func29, Tryz.ntmps29
  go_wp2_with fail
  go_cut [] (fun wx => Blk wx P (pgO p (.slice none 0 0) (.slice none 0 0)) ∧ Blk wx PV (.cells #[.pointer (some ⟨P, 0, none⟩)] 35 (0, 0)) ∧ Rdr wx b lv (.slice none 0 0) (.map (some m)) 0 toks toks ∧ MkAt wx m [] ∧ Fr (P2S b P) w wx)
  case first =>
    go_region_held3 (fun w' => ∀ i, w'.cell? ⟨PV, i, none⟩ = (#[.pointer (some ⟨P, 0, none⟩)] : Array Value)[i]?) (with_reducible (first | exact hVd | exact hV1 | exact all_far (all_far (all_far (all_far hV1 n5.symm) n5.symm) n5.symm) n5.symm)) ((go_at_call 30; refine (here_rdr hRd).mono ?_; rintro e w1 ⟨rfl, hR1, hf1⟩; simp only [tokC]; rw [hp]; have hV1 : ∀ i, w1.cell? ⟨PV, i, none⟩ = (#[.pointer (some ⟨P, 0, none⟩)] : Array Value)[i]? := Blk.all (hPVd.fr hf1 (fun x => x)); have hP1 := hPd.fr hf1 (fun x => x); have hC1 := Blk.all hP1; have hZ1 := Blk.frees hP1))
    all_goals go_wp2_with fail
    all_goals go_meet
    all_goals have hfk := fr4 (Fr.refl (· = P) w1) (fun _ _ => rfl) (.int .i64 p.b) (.int .i64 p.g) (.int .i64 p.l) (.int .i64 p.c)
    all_goals exact ⟨set6p hP1 p, (hPVd.fr hf1 (fun x => x)).fr hfk n5.symm, (hR1.farP hP1 n1 hfk), (hm.keep ((Fr.refl No w).drew.callNo hf1) (fun x => x)).keep hfk n3.symm, ((Fr.refl _ w).drew.callNo hf1).p2P hfk⟩
  case rest =>
    obtain ⟨hP1, hV1, hR1, hM1, hF1⟩ := hcut
    clear hVd hRd hPd hPVd hfa
    go_wp2_with fail
    cases hmv : isT vars_ toks with
    | false =>
      have e : mustS vars_ toks = .error (80, (hereT toks).at_) := by unfold mustS; rw [if_neg (by simp [hmv])]
      rw [e] at hres
      subst hres
      refine (must_no (by omega) vars_ hR1 hmv).mono ?_
      rintro e w2 ⟨ht, hf2⟩
      simp only [Threw] at ht
      subst ht
      go_wp2_with fail
      exact ⟨rfl, (hF1.p2b hf2).p1, rfl⟩
    | true =>
      have e : mustS vars_ toks = .ok (passT toks) := by unfold mustS; rw [if_pos hmv]
      rw [e] at hres
      simp only at hres
      have hlt := isT_lt hg hmv
      refine (must_yes (by omega) vars_ hR1 hmv).mono ?_
      rintro e w2 ⟨rfl, hR2, hf2⟩
      have hg2 := hg.pass
      generalize hrp : passT toks = r1 at *
      go_wp2_with fail
      refine (is_rdr (by omega) [59] hR2).mono ?_
      rintro e w3 ⟨rfl, hR3, hf3⟩
      have hP3 := (hP1.fr hf2 n1).fr hf3 n1
      have hV3 := (hV1.fr hf2 n2).fr hf3 n2
      have hM3 := (hM1.keep hf2 (by omega)).keep hf3 (by omega)
      have hF3 := (hF1.p2b hf2).p2b hf3
      have hl1 : r1.length < toks.length := hlt
      clear hP1 hV1 hR1 hM1 hF1 hR2 hf2 hf3
      obtain ⟨dres, hds⟩ : ∃ dres, declsS n [] r1 = dres := ⟨_, rfl⟩
      rw [hds] at hres
      have HR := Lib.hid hres
      clear hres
      obtain ⟨sc, hsc⟩ : ∃ sc, isT [59] r1 = sc := ⟨_, rfl⟩
      rw [hsc]
      have HSC := Lib.hid hsc
      clear hsc
      obtain ⟨ib, hib, hz0, hz1, hz2⟩ := info_parts info_bg
      go_wp2_with fail
      go_loopg [3] r1.length (fun gk x3 wr => ∃ (k : Nat) (bs : List Bg) (r1 : List Tok) (nx : Bool) (nv : Value) (a : Option Addr) (c : Nat) (vs : List Value), gk = r1.length ∧ x3 = .bool nx ∧ (!isT [59] r1) = nx ∧ declsS k bs r1 = dres ∧ k ≤ n ∧ r1.length < k ∧ r1.length < toks.length ∧ bs.length ≤ 8 ∧ Good r1 ∧ Blk wr P (pgO p (.slice a bs.length c) (.slice none 0 0)) ∧ Blk wr PV (.cells #[.pointer (some ⟨P, 0, none⟩)] 35 (0, 0)) ∧ Rdr wr b lv nv (.map (some m)) 0 toks (if isT [59] r1 then passT r1 else r1) ∧ NmOwn wr w.heap.size nv (bs.map Bg.name) ∧ wr.ownsRow w.heap.size 56 4 (.slice a bs.length c) bs.length vs ∧ BgsAre wr w.heap.size bs vs ∧ MkAt wr m [] ∧ Fr (P2S b P) w wr)
      case atStart =>
        exact ⟨n, [], r1, !sc, _, none, 0, [], rfl, rfl, by rw [HSC.out], hds, Nat.le_refl _, by omega, hl1, by simp, hg2, hP3, hV3, hR3, World.ownsRow_nil _ _ _ _, World.ownsRow_nil _ _ _ _, rfl, hM3, hF3⟩
      case round =>
        clear hP3 hV3 hM3 hF3 hR3 hds hl1 hg2 hrp hlt hmv
        obtain ⟨k, bs, r1, nx, nv, a, c, vs, hgk, rfl, hnx, hds, hkn, hkl, hl1, hb8, hg1, hP3, hV3, hR3, hN3, hO3, hB3, hM3, hF3⟩ := hrel
        have HG := Lib.hid hgk
        clear hgk
        obtain ⟨k, rfl⟩ : ∃ k', k = k' + 1 := ⟨k - 1, by omega⟩
        have hPw : P < w.heap.size := hP.lt
        have hszF := hF3.size
        cases h59 : isT [59] r1 with
        | true =>
          rw [h59] at hnx hR3
          simp only [declsS] at hds
          rw [if_pos h59] at hds
          simp only [Bool.not_true, if_true] at hnx hR3
          subst hnx hds
          have hg5 := hg1.pass
          have hl5 := hg1.pass_le
          generalize hrp : passT r1 = r5 at *
          have hres := HR.out
          simp only at hres
          have hS : StIn wr b m lv nv 0 toks r5 (bs.map Bg.name) [] := ⟨hR3, hN3.at_ hbl, hM3, hmb, by omega, by rw [List.length_map]; omega, by omega, by simp; omega⟩
          have hml : m < w.heap.size := hm.lt
          have hSd := hS.no ((Fr.refl No wr).drew)
          have hFd := hF3.drew
          have hVd : ∀ i, wr.drew.cell? ⟨PV, i, none⟩ = (#[.pointer (some ⟨P, 0, none⟩)] : Array Value)[i]? := Blk.all hV3.drew
          go_wp2_with fail
          cases hrw : rowS n (bs.map Bg.name) [] 0 r5 with
          | error ep =>
            rw [hrw] at hres
            obtain ⟨c', q⟩ := ep
            simp only at hres
            have HX := Lib.hid hres
            clear hres
            go_region_dies
            all_goals refine (row_rdr hSd (n := n) (by omega)).mono ?_
            all_goals rintro e w5 ⟨hf5, hm5⟩
            all_goals rw [hrw] at hm5
            all_goals simp only [Threw] at hm5
            all_goals subst hm5
            all_goals have hres := HX.out
            all_goals subst hres
            all_goals go_wp2_with fail
            all_goals exact ⟨rfl, (hFd.p1 (m := m)).call hf5 (fun k _ e => by rcases e with e | e; exact Or.inl e; exact Or.inr (Or.inl e)), rfl⟩
          | ok x =>
            rw [hrw] at hres
            obtain ⟨l, mk1, r6⟩ := x
            simp only at hres
            have HX := Lib.hid hres
            clear hres
            have hPS : ¬ S2 b m P := by unfold S2; omega
            have hVS : ¬ S2 b m PV := by unfold S2; omega
            go_region_held3 (fun w' => ∀ i, w'.cell? ⟨PV, i, none⟩ = (#[.pointer (some ⟨P, 0, none⟩)] : Array Value)[i]?) (with_reducible (first | exact hVd | exact hV5 | exact all_far hV5 n5.symm)) ((go_at_call 34; refine (row_rdr hSd (n := n) (by omega)).mono ?_; rintro e w5 ⟨hf5, hm5⟩; rw [hrw] at hm5; obtain ⟨a5, k5, c5, vs5, rfl, ho5, hs5, hR5, hM5⟩ := hm5; have hV5 : ∀ i, w5.cell? ⟨PV, i, none⟩ = (#[.pointer (some ⟨P, 0, none⟩)] : Array Value)[i]? := Blk.all (hV3.drew.fr hf5 hVS); have hP5 := hP3.drew.fr hf5 hPS; have hC5 := Blk.all hP5; have hZ5 := Blk.frees hP5))
            all_goals go_wp2_with fail
            all_goals go_end0
            all_goals have hres := HX.out
            all_goals subst hres
            all_goals have hfk := (Fr.refl (· = P) w5).setCell (a := ⟨P, 5, none⟩) (.slice a5 k5 c5) (fun _ => rfl)
            all_goals have hP6 : Blk (w5.setCell ⟨P, 5, none⟩ (.slice a5 k5 c5)) P (pgO p (.slice a bs.length c) (.slice a5 k5 c5)) := hP5.setOff 5 (.slice a5 k5 c5)
            all_goals have hd0 : Fr (S2 b m) wr w5 := ((Fr.refl _ wr).drew).call hf5 (fun _ _ e => e)
            all_goals have hszd : wr.drew.heap.size = wr.heap.size := rfl
            all_goals exact ⟨((hFd.p1 (m := m)).call hf5 (fun k _ e => by rcases e with e | e; exact Or.inl e; exact Or.inr (Or.inl e))).call hfk (fun k _ e => Or.inr (Or.inr e)), nv, rfl, hR5.farP hP5 n1 hfk, a, c, vs, a5, k5, c5, vs5, hP6, own_fr (own_fr hO3 hd0 (fun k hk e => by have := (hO3.lt k hk).1; unfold S2 at e; omega)) hfk (fun k hk e => by have := (hO3.lt k hk).1; omega), BgsAre.apart hfk (fun k hk _ e => by omega) _ _ (BgsAre.apart hd0 (fun k hk _ e => by unfold S2 at e; omega) _ _ hB3), own_mono (own_fr ho5 hfk (fun k hk e => by have := (ho5.lt k hk).1; omega)) (by omega), SmsAre.mono (by omega) _ _ (SmsAre.keep hfk (fun k hk e => by omega) _ _ hs5)⟩
        | false =>
          rw [h59] at hnx hR3
          rw [declsS_step _ _ _ h59] at hds
          simp only [Bool.not_false, Bool.false_eq_true, if_false] at hnx hR3
          subst hnx
          -- BODY
          have hnl : (bs.map Bg.name).length ≤ 8 := by rw [List.length_map]; exact hb8
          go_upto_block 1 with (fail)
          have RP3 := Blk.all hP3
          have RV3 := Blk.all hV3
          by_cases hbs : bs = []
          · rw [if_pos hbs] at hds
            simp only at hds
            have hd1 : decide (0 < bs.length) = false := by rw [hbs]; rfl
            have hd2 : decide ((0 : Int) < (bs.length : Int)) = false := by rw [hbs]; rfl
            have HBS := Lib.hid hbs
            clear hbs
            obtain ⟨r2, hr2⟩ : ∃ r2, r1 = r2 := ⟨_, rfl⟩
            rw [hr2] at hds hR3
            have hg2 : Good r2 := by rw [← hr2]; exact hg1
            have hl12 : r2.length ≤ r1.length := by rw [hr2]; exact Nat.le_refl _
            clear hr2
            cases hdc : declareS (bs.map Bg.name) r2 with
            | error ep =>
              rw [hdc] at hds
              obtain ⟨c', q⟩ := ep
              simp only at hds
              subst hds
              have hres := HR.out
              simp only at hres
              have HX := Lib.hid hres
              clear hres
              go_wp2_with fail
              obtain ⟨w2, rfl⟩ : ∃ w2, w2 = wr := ⟨_, rfl⟩
              have hR2 := hR3
              have hP2 := hP3
              have hV2 := hV3
              have hN2 := hN3
              have hO2 := hO3
              have hB2 := hB3
              have hM2 := hM3
              have hF2 := hF3

              have hnvP : nv.ownBlock ≠ some P := fun e => by have := (World.ownsRow.lt hN2 _ e).1; omega
              have hnvV : nv.ownBlock ≠ some PV := fun e => by have := (World.ownsRow.lt hN2 _ e).1; have := hPV.lt; omega
              have hRd2 := hR2.no ((Fr.refl No w2).drew)
              have hNd2 : NmOwn w2.drew w.heap.size nv (bs.map Bg.name) := own_fr hN2 ((Fr.refl No w2).drew) (fun _ _ x => x)
              have hszd : w2.drew.heap.size = w2.heap.size := rfl
              have hsz2 := hF2.size
              have hRVd : ∀ i, w2.drew.cell? ⟨PV, i, none⟩ = (#[.pointer (some ⟨P, 0, none⟩)] : Array Value)[i]? := Blk.all hV2.drew
              have hRPd : ∀ i, w2.drew.cell? ⟨P, i, none⟩ = (#[.int .i64 p.b, .int .i64 p.g, .int .i64 p.l, .int .i64 p.c, .slice a bs.length c, .slice none 0 0] : Array Value)[i]? := Blk.all hP2.drew

              go_region_dies
              all_goals refine (declare_rdr (by omega) hnl h hRd2 hNd2 (by omega)).mono ?_
              all_goals rintro e w5 ⟨hf5, hm5⟩
              all_goals rw [hdc] at hm5
              all_goals simp only [Threw] at hm5
              all_goals subst hm5
              all_goals have hres := HX.out
              all_goals subst hres
              all_goals go_wp2_with fail
              all_goals exact ⟨rfl, (hF2.drew.p1 (m := m)).call hf5 (fun k hk e => by rcases e with e | e; exact Or.inl e; exact absurd (World.ownsRow.lt hN2 k e).1 (Nat.not_le.2 hk)), rfl⟩
            | ok x =>
              rw [hdc] at hds
              obtain ⟨g, r3⟩ := x
              simp only at hds
              have HDS := Lib.hid hds
              clear hds
              have hdl := decl_len hg2 hdc
              rw [List.length_map] at hdl
              obtain ⟨hdg, hdl1, hdl2, hdx⟩ := hdl
              clear hdx
              have hol := hO3.lt
              have hoP : (Value.slice a bs.length c).ownBlock ≠ some P := fun e => by have := (hol P e).1; omega
              have hoV : (Value.slice a bs.length c).ownBlock ≠ some PV := fun e => by have := (hol PV e).1; have := hPV.lt; omega
              have hPVl : PV < w.heap.size := hPV.lt
              go_cut [] (fun wx => ∃ (nv : Value) (a : Option Addr) (c : Nat) (vs : List Value), Blk wx P (pgO p (.slice a (bs.length + 1) c) (.slice none 0 0)) ∧ Blk wx PV (.cells #[.pointer (some ⟨P, 0, none⟩)] 35 (0, 0)) ∧ Rdr wx b lv nv (.map (some m)) 0 toks r3 ∧ NmOwn wx w.heap.size nv ((bs ++ [g]).map Bg.name) ∧ wx.ownsRow w.heap.size 56 4 (.slice a (bs.length + 1) c) (bs.length + 1) vs ∧ BgsAre wx w.heap.size (bs ++ [g]) vs ∧ MkAt wx m [] ∧ Fr (P2S b P) w wx)
              case first =>
                go_wp2_with fail
                obtain ⟨w2, rfl⟩ : ∃ w2, w2 = wr := ⟨_, rfl⟩
                have hR2 := hR3
                have hP2 := hP3
                have hV2 := hV3
                have hN2 := hN3
                have hO2 := hO3
                have hB2 := hB3
                have hM2 := hM3
                have hF2 := hF3

                have hnvP : nv.ownBlock ≠ some P := fun e => by have := (World.ownsRow.lt hN2 _ e).1; omega
                have hnvV : nv.ownBlock ≠ some PV := fun e => by have := (World.ownsRow.lt hN2 _ e).1; have := hPV.lt; omega
                have hRd2 := hR2.no ((Fr.refl No w2).drew)
                have hNd2 : NmOwn w2.drew w.heap.size nv (bs.map Bg.name) := own_fr hN2 ((Fr.refl No w2).drew) (fun _ _ x => x)
                have hszd : w2.drew.heap.size = w2.heap.size := rfl
                have hsz2 := hF2.size
                have hRVd : ∀ i, w2.drew.cell? ⟨PV, i, none⟩ = (#[.pointer (some ⟨P, 0, none⟩)] : Array Value)[i]? := Blk.all hV2.drew
                have hRPd : ∀ i, w2.drew.cell? ⟨P, i, none⟩ = (#[.int .i64 p.b, .int .i64 p.g, .int .i64 p.l, .int .i64 p.c, .slice a bs.length c, .slice none 0 0] : Array Value)[i]? := Blk.all hP2.drew

                have hPS : ¬ DcS b nv P := (fun e => by rcases e with e | e; exact n1 e; exact hnvP e)
                have hVS : ¬ DcS b nv PV := (fun e => by rcases e with e | e; exact n2 e; exact hnvV e)
                have hMS : ¬ DcS b nv m := (fun e => by rcases e with e | e; omega; have := (World.ownsRow.lt hN2 _ e).1; have := hm.lt; omega)
                have hOS : ∀ k, (Value.slice a bs.length c).ownBlock = some k → ¬ DcS b nv k := (fun k hk e => by
                  rcases e with e | e
                  · have := (hol k hk).1; omega
                  · obtain ⟨cur, hc⟩ := own_obj hN2 e
                    exact own_ne hO2 hc (by decide) hk)
                go_region_law (first | (refine step_append_lies _ (by rfl) _ _ _ (by rfl) w.heap.size 56 ib _ 4 56 Tryz.underlying43 hib hz0 hz1 hz2 rfl (by omega) (.slice a bs.length c) bs.length vs (by rfl) (ho56.alloc _) ⟨w6.heap.size, 0, none⟩ 1 1 [strV g.name, .bool g.any, .bool g.neg, .slice a6 (dig L32 g.mag).length c6] (by rfl) (by rfl) (World.news_of_block (cs := #[strV g.name, .bool g.any, .bool g.neg, .slice a6 (dig L32 g.mag).length c6]) (t := 56) (fr := (0, 0)) (heap_alloc_new w6 _)) (bg_one _ _ _ _ _ _) (by omega) (by unfold maxLen; omega) (by omega) (by have := hf6.size; simp at this; simp; omega) (w6.heap.size + 1) (by simp) ?_; intro gg cap w7 hown7 hgr7 hat7 hlt7; have hRP7 : ∀ i, w7.cell? ⟨P, i, none⟩ = (#[.int .i64 p.b, .int .i64 p.g, .int .i64 p.l, .int .i64 p.c, .slice a bs.length c, .slice none 0 0] : Array Value)[i]? := (fun i => (hgr7.cell_far ⟨P, i, none⟩ (by simp; omega) (Ne.symm hoP)).trans (all_al hRP6 hPl6 i)); have hRV7 : ∀ i, w7.cell? ⟨PV, i, none⟩ = (#[.pointer (some ⟨P, 0, none⟩)] : Array Value)[i]? := (fun i => (hgr7.cell_far ⟨PV, i, none⟩ (by simp; omega) (Ne.symm hoV)).trans (all_al hRV6 hVl6 i)); have hZP7 : ∀ i, w7.frozen? ⟨P, i, none⟩ = false := (fun i => (hgr7.frozen_far ⟨P, i, none⟩ (by simp; omega) (Ne.symm hoP)).trans (Blk.frees (Blk.alloc (Blk.fr hP2.drew hf6 hPS) _) i))) | (go_simp; go_at_call 33; refine (declare_rdr (by omega) hnl h hRd2 hNd2 (by omega)).mono ?_; rintro e w6 ⟨hf6, hm6⟩; rw [hdc] at hm6; obtain ⟨v6, nv6, rfl, ⟨a6, c6, rfl, hou6⟩, hR6, hN6⟩ := hm6; have hRP6 : ∀ i, w6.cell? ⟨P, i, none⟩ = (#[.int .i64 p.b, .int .i64 p.g, .int .i64 p.l, .int .i64 p.c, .slice a bs.length c, .slice none 0 0] : Array Value)[i]? := Blk.all (hP2.drew.fr hf6 hPS); have hRV6 : ∀ i, w6.cell? ⟨PV, i, none⟩ = (#[.pointer (some ⟨P, 0, none⟩)] : Array Value)[i]? := Blk.all (hV2.drew.fr hf6 hVS); have hPl6 := (hP2.drew.fr hf6 hPS).lt; have hVl6 := (hV2.drew.fr hf6 hVS).lt; have ho56 := own_fr (own_fr hO2 ((Fr.refl No w2).drew) (fun _ _ x => x)) hf6 hOS))
                all_goals go_wp2_with fail
                all_goals go_meet
                all_goals have f67 : Fr (fun j => (Value.slice a bs.length c).ownBlock = some j) w6 w7 := (((Fr.refl _ w6).alloc _).grown hgr7 (fun j hj _ => hj))
                all_goals have hP7 := (hP2.drew.fr hf6 hPS).fr f67 hoP
                all_goals have hV7 := (hV2.drew.fr hf6 hVS).fr f67 hoV
                all_goals have hfk := (Fr.refl (· = P) w7).setCell (a := ⟨P, 4, none⟩) (.slice (some ⟨gg, 0, none⟩) (bs.length + 1) cap) (fun _ => rfl)
                all_goals have hP8 : Blk (w7.setCell ⟨P, 4, none⟩ (.slice (some ⟨gg, 0, none⟩) (bs.length + 1) cap)) P (pgO p (.slice (some ⟨gg, 0, none⟩) (bs.length + 1) cap) (.slice none 0 0)) := hP7.setOff 4 (.slice (some ⟨gg, 0, none⟩) (bs.length + 1) cap)
                all_goals have hfd : Fr (DcS b nv) w2 w6 := ((Fr.refl _ w2).drew).call hf6 (fun _ _ e => e)
                all_goals have hml := hm.lt
                all_goals have hsz6 := hf6.size
                all_goals have hB8 := BgsAre.apart hfk (fun k hk _ e => by omega) _ _ (BgsAre.apart f67 (fun k _ _ e => own_apart_row ho56 (by decide) e) _ _ (BgsAre.apart hfd (dc_apart hbl hN2) _ _ hB2))
                all_goals have hou8 := own_apart (own_apart (own_mono hou6 (show w.heap.size ≤ _ by omega)) f67 (fun k _ _ e => own_apart_row ho56 (by decide) e)) hfk (fun k hk _ e => by omega)
                all_goals have hN8 : NmOwn (w7.setCell ⟨P, 4, none⟩ (.slice (some ⟨gg, 0, none⟩) (bs.length + 1) cap)) w.heap.size nv6 ((bs ++ [g]).map Bg.name) := (by
                  rw [List.map_append]
                  exact own_fr (own_fr hN6 f67 (fun k hk e => by
                    obtain ⟨cur, hc⟩ := own_obj ho56 e
                    exact own_ne hN6 hc (by decide) hk)) hfk (fun k hk e => by have := (World.ownsRow.lt hN6 k hk).1; omega))
                all_goals exact ⟨nv6, _, cap, _, hP8, hV7.set_ne ⟨P, 4, none⟩ _ n5.symm, (Rdr.farS h hR6 f67 (fun k e => (hol k e).1)).farP hP7 n1 hfk, hN8, own_fr hown7 hfk (fun k hk e => by have := (hown7.lt k hk).1; omega), BgsAre.snoc hou8 _ _ hB8, (((hM2.keep hfd hMS).keep f67 (fun e => by have := (hol m e).1; omega))).keep hfk n3.symm, ((hF2.call hfd (fun k hk e => by rcases e with e | e; exact Or.inl e; exact absurd (World.ownsRow.lt hN2 k e).1 (Nat.not_le.2 hk))).call f67 (fun k hk e => absurd (hol k e).1 (Nat.not_le.2 hk))).p2P hfk⟩
              case rest =>
                obtain ⟨nv', a', c', vs', hP8, hV8, hR8, hN8, hO8, hB8, hM8, hF8⟩ := hcut
                go_wp2_with fail
                refine (is_rdr (by omega) [59] hR8).mono ?_
                rintro e w9 ⟨rfl, hR9, hf9⟩
                obtain ⟨sc', hsc'⟩ : ∃ sc', isT [59] r3 = sc' := ⟨_, rfl⟩
                rw [hsc']
                have HSC' := Lib.hid hsc'
                clear hsc'
                have hlb : (bs ++ [g]).length = bs.length + 1 := by simp
                go_wp2_with fail
                go_roundg r3.length
                case measure => rw [HG.out]; omega
                case rel =>
                  refine ⟨k, bs ++ [g], r3, !sc', nv', a', c', vs', rfl, rfl, by rw [HSC'.out], HDS.out, by omega, by omega, by omega, by rw [hlb]; omega, hdg, ?_, hV8.fr hf9 n2, hR9, own_fr hN8 hf9 (fun k hk e => by have := (World.ownsRow.lt hN8 k hk).1; omega), ?_, BgsAre.apart hf9 (fun k hk _ e => by omega) _ _ hB8, hM8.keep hf9 (by omega), hF8.p2b hf9⟩
                  · rw [hlb]; exact hP8.fr hf9 n1
                  · rw [hlb]; exact own_fr hO8 hf9 (fun k hk e => by have := (hO8.lt k hk).1; omega)

          · rw [if_neg hbs] at hds
            have hbp : 0 < bs.length := by cases bs with | nil => exact absurd rfl hbs | cons x l => simp
            have hd1 : decide (0 < bs.length) = true := by simpa using hbp
            have hd2 : decide ((0 : Int) < (bs.length : Int)) = true := by simp; omega
            have HBS := Lib.hid hbs
            clear hbs
            cases hmc : isT [44] r1 with
            | false =>
              have e : mustS [44] r1 = .error (80, (hereT r1).at_) := by unfold mustS; rw [if_neg (by simp [hmc])]
              rw [e] at hds
              simp only at hds
              subst hds
              have hres := HR.out
              simp only at hres
              subst hres
              go_wp2_with fail
              refine (must_no (by omega) [44] hR3 hmc).mono ?_
              rintro e w2 ⟨ht, hf2⟩
              simp only [Threw] at ht
              subst ht
              go_wp2_with fail
              exact ⟨rfl, (hF3.p2b hf2).p1, rfl⟩
            | true =>
              have e : mustS [44] r1 = .ok (passT r1) := by unfold mustS; rw [if_pos hmc]
              rw [e] at hds
              simp only at hds
              obtain ⟨r2, hrq⟩ : ∃ r2, passT r1 = r2 := ⟨_, rfl⟩
              rw [hrq] at hds
              have hg2 : Good r2 := by rw [← hrq]; exact hg1.pass
              have hl12 : r2.length ≤ r1.length := by rw [← hrq]; exact hg1.pass_le
              cases hdc : declareS (bs.map Bg.name) r2 with
              | error ep =>
                rw [hdc] at hds
                obtain ⟨c', q⟩ := ep
                simp only at hds
                subst hds
                have hres := HR.out
                simp only at hres
                have HX := Lib.hid hres
                clear hres
                go_wp2_with fail
                refine (must_yes (by omega) [44] hR3 hmc).mono ?_
                rintro e w2 ⟨rfl, hR2, hf2⟩
                rw [hrq] at hR2
                have hP2 := hP3.fr hf2 n1
                have hV2 := hV3.fr hf2 n2
                have hN2 : NmOwn w2 w.heap.size nv (bs.map Bg.name) := own_fr hN3 hf2 (fun k hk e => by have := (World.ownsRow.lt hN3 k hk).1; omega)
                have hO2 := own_fr hO3 hf2 (fun k hk e => by have := (hO3.lt k hk).1; omega)
                have hB2 := BgsAre.apart hf2 (fun k hk _ e => by omega) _ _ hB3
                have hM2 := hM3.keep hf2 (by omega)
                have hF2 := hF3.p2b hf2

                have hnvP : nv.ownBlock ≠ some P := fun e => by have := (World.ownsRow.lt hN2 _ e).1; omega
                have hnvV : nv.ownBlock ≠ some PV := fun e => by have := (World.ownsRow.lt hN2 _ e).1; have := hPV.lt; omega
                have hRd2 := hR2.no ((Fr.refl No w2).drew)
                have hNd2 : NmOwn w2.drew w.heap.size nv (bs.map Bg.name) := own_fr hN2 ((Fr.refl No w2).drew) (fun _ _ x => x)
                have hszd : w2.drew.heap.size = w2.heap.size := rfl
                have hsz2 := hF2.size
                have hRVd : ∀ i, w2.drew.cell? ⟨PV, i, none⟩ = (#[.pointer (some ⟨P, 0, none⟩)] : Array Value)[i]? := Blk.all hV2.drew
                have hRPd : ∀ i, w2.drew.cell? ⟨P, i, none⟩ = (#[.int .i64 p.b, .int .i64 p.g, .int .i64 p.l, .int .i64 p.c, .slice a bs.length c, .slice none 0 0] : Array Value)[i]? := Blk.all hP2.drew
                go_wp2_with fail

                go_region_dies
                all_goals refine (declare_rdr (by omega) hnl h hRd2 hNd2 (by omega)).mono ?_
                all_goals rintro e w5 ⟨hf5, hm5⟩
                all_goals rw [hdc] at hm5
                all_goals simp only [Threw] at hm5
                all_goals subst hm5
                all_goals have hres := HX.out
                all_goals subst hres
                all_goals go_wp2_with fail
                all_goals exact ⟨rfl, (hF2.drew.p1 (m := m)).call hf5 (fun k hk e => by rcases e with e | e; exact Or.inl e; exact absurd (World.ownsRow.lt hN2 k e).1 (Nat.not_le.2 hk)), rfl⟩
              | ok x =>
                rw [hdc] at hds
                obtain ⟨g, r3⟩ := x
                simp only at hds
                have HDS := Lib.hid hds
                clear hds
                have hdl := decl_len hg2 hdc
                rw [List.length_map] at hdl
                obtain ⟨hdg, hdl1, hdl2, hdx⟩ := hdl
                clear hdx
                have hol := hO3.lt
                have hoP : (Value.slice a bs.length c).ownBlock ≠ some P := fun e => by have := (hol P e).1; omega
                have hoV : (Value.slice a bs.length c).ownBlock ≠ some PV := fun e => by have := (hol PV e).1; have := hPV.lt; omega
                have hPVl : PV < w.heap.size := hPV.lt
                go_cut [] (fun wx => ∃ (nv : Value) (a : Option Addr) (c : Nat) (vs : List Value), Blk wx P (pgO p (.slice a (bs.length + 1) c) (.slice none 0 0)) ∧ Blk wx PV (.cells #[.pointer (some ⟨P, 0, none⟩)] 35 (0, 0)) ∧ Rdr wx b lv nv (.map (some m)) 0 toks r3 ∧ NmOwn wx w.heap.size nv ((bs ++ [g]).map Bg.name) ∧ wx.ownsRow w.heap.size 56 4 (.slice a (bs.length + 1) c) (bs.length + 1) vs ∧ BgsAre wx w.heap.size (bs ++ [g]) vs ∧ MkAt wx m [] ∧ Fr (P2S b P) w wx)
                case first =>
                  go_wp2_with fail
                  refine (must_yes (by omega) [44] hR3 hmc).mono ?_
                  rintro e w2 ⟨rfl, hR2, hf2⟩
                  rw [hrq] at hR2
                  have hP2 := hP3.fr hf2 n1
                  have hV2 := hV3.fr hf2 n2
                  have hN2 : NmOwn w2 w.heap.size nv (bs.map Bg.name) := own_fr hN3 hf2 (fun k hk e => by have := (World.ownsRow.lt hN3 k hk).1; omega)
                  have hO2 := own_fr hO3 hf2 (fun k hk e => by have := (hO3.lt k hk).1; omega)
                  have hB2 := BgsAre.apart hf2 (fun k hk _ e => by omega) _ _ hB3
                  have hM2 := hM3.keep hf2 (by omega)
                  have hF2 := hF3.p2b hf2

                  have hnvP : nv.ownBlock ≠ some P := fun e => by have := (World.ownsRow.lt hN2 _ e).1; omega
                  have hnvV : nv.ownBlock ≠ some PV := fun e => by have := (World.ownsRow.lt hN2 _ e).1; have := hPV.lt; omega
                  have hRd2 := hR2.no ((Fr.refl No w2).drew)
                  have hNd2 : NmOwn w2.drew w.heap.size nv (bs.map Bg.name) := own_fr hN2 ((Fr.refl No w2).drew) (fun _ _ x => x)
                  have hszd : w2.drew.heap.size = w2.heap.size := rfl
                  have hsz2 := hF2.size
                  have hRVd : ∀ i, w2.drew.cell? ⟨PV, i, none⟩ = (#[.pointer (some ⟨P, 0, none⟩)] : Array Value)[i]? := Blk.all hV2.drew
                  have hRPd : ∀ i, w2.drew.cell? ⟨P, i, none⟩ = (#[.int .i64 p.b, .int .i64 p.g, .int .i64 p.l, .int .i64 p.c, .slice a bs.length c, .slice none 0 0] : Array Value)[i]? := Blk.all hP2.drew
                  go_wp2_with fail

                  have hPS : ¬ DcS b nv P := (fun e => by rcases e with e | e; exact n1 e; exact hnvP e)
                  have hVS : ¬ DcS b nv PV := (fun e => by rcases e with e | e; exact n2 e; exact hnvV e)
                  have hMS : ¬ DcS b nv m := (fun e => by rcases e with e | e; omega; have := (World.ownsRow.lt hN2 _ e).1; have := hm.lt; omega)
                  have hOS : ∀ k, (Value.slice a bs.length c).ownBlock = some k → ¬ DcS b nv k := (fun k hk e => by
                    rcases e with e | e
                    · have := (hol k hk).1; omega
                    · obtain ⟨cur, hc⟩ := own_obj hN2 e
                      exact own_ne hO2 hc (by decide) hk)
                  go_region_law (first | (refine step_append_lies _ (by rfl) _ _ _ (by rfl) w.heap.size 56 ib _ 4 56 Tryz.underlying43 hib hz0 hz1 hz2 rfl (by omega) (.slice a bs.length c) bs.length vs (by rfl) (ho56.alloc _) ⟨w6.heap.size, 0, none⟩ 1 1 [strV g.name, .bool g.any, .bool g.neg, .slice a6 (dig L32 g.mag).length c6] (by rfl) (by rfl) (World.news_of_block (cs := #[strV g.name, .bool g.any, .bool g.neg, .slice a6 (dig L32 g.mag).length c6]) (t := 56) (fr := (0, 0)) (heap_alloc_new w6 _)) (bg_one _ _ _ _ _ _) (by omega) (by unfold maxLen; omega) (by omega) (by have := hf6.size; simp at this; simp; omega) (w6.heap.size + 1) (by simp) ?_; intro gg cap w7 hown7 hgr7 hat7 hlt7; have hRP7 : ∀ i, w7.cell? ⟨P, i, none⟩ = (#[.int .i64 p.b, .int .i64 p.g, .int .i64 p.l, .int .i64 p.c, .slice a bs.length c, .slice none 0 0] : Array Value)[i]? := (fun i => (hgr7.cell_far ⟨P, i, none⟩ (by simp; omega) (Ne.symm hoP)).trans (all_al hRP6 hPl6 i)); have hRV7 : ∀ i, w7.cell? ⟨PV, i, none⟩ = (#[.pointer (some ⟨P, 0, none⟩)] : Array Value)[i]? := (fun i => (hgr7.cell_far ⟨PV, i, none⟩ (by simp; omega) (Ne.symm hoV)).trans (all_al hRV6 hVl6 i)); have hZP7 : ∀ i, w7.frozen? ⟨P, i, none⟩ = false := (fun i => (hgr7.frozen_far ⟨P, i, none⟩ (by simp; omega) (Ne.symm hoP)).trans (Blk.frees (Blk.alloc (Blk.fr hP2.drew hf6 hPS) _) i))) | (go_simp; go_at_call 33; refine (declare_rdr (by omega) hnl h hRd2 hNd2 (by omega)).mono ?_; rintro e w6 ⟨hf6, hm6⟩; rw [hdc] at hm6; obtain ⟨v6, nv6, rfl, ⟨a6, c6, rfl, hou6⟩, hR6, hN6⟩ := hm6; have hRP6 : ∀ i, w6.cell? ⟨P, i, none⟩ = (#[.int .i64 p.b, .int .i64 p.g, .int .i64 p.l, .int .i64 p.c, .slice a bs.length c, .slice none 0 0] : Array Value)[i]? := Blk.all (hP2.drew.fr hf6 hPS); have hRV6 : ∀ i, w6.cell? ⟨PV, i, none⟩ = (#[.pointer (some ⟨P, 0, none⟩)] : Array Value)[i]? := Blk.all (hV2.drew.fr hf6 hVS); have hPl6 := (hP2.drew.fr hf6 hPS).lt; have hVl6 := (hV2.drew.fr hf6 hVS).lt; have ho56 := own_fr (own_fr hO2 ((Fr.refl No w2).drew) (fun _ _ x => x)) hf6 hOS))
                  all_goals go_wp2_with fail
                  all_goals go_meet
                  all_goals have f67 : Fr (fun j => (Value.slice a bs.length c).ownBlock = some j) w6 w7 := (((Fr.refl _ w6).alloc _).grown hgr7 (fun j hj _ => hj))
                  all_goals have hP7 := (hP2.drew.fr hf6 hPS).fr f67 hoP
                  all_goals have hV7 := (hV2.drew.fr hf6 hVS).fr f67 hoV
                  all_goals have hfk := (Fr.refl (· = P) w7).setCell (a := ⟨P, 4, none⟩) (.slice (some ⟨gg, 0, none⟩) (bs.length + 1) cap) (fun _ => rfl)
                  all_goals have hP8 : Blk (w7.setCell ⟨P, 4, none⟩ (.slice (some ⟨gg, 0, none⟩) (bs.length + 1) cap)) P (pgO p (.slice (some ⟨gg, 0, none⟩) (bs.length + 1) cap) (.slice none 0 0)) := hP7.setOff 4 (.slice (some ⟨gg, 0, none⟩) (bs.length + 1) cap)
                  all_goals have hfd : Fr (DcS b nv) w2 w6 := ((Fr.refl _ w2).drew).call hf6 (fun _ _ e => e)
                  all_goals have hml := hm.lt
                  all_goals have hsz6 := hf6.size
                  all_goals have hB8 := BgsAre.apart hfk (fun k hk _ e => by omega) _ _ (BgsAre.apart f67 (fun k _ _ e => own_apart_row ho56 (by decide) e) _ _ (BgsAre.apart hfd (dc_apart hbl hN2) _ _ hB2))
                  all_goals have hou8 := own_apart (own_apart (own_mono hou6 (show w.heap.size ≤ _ by omega)) f67 (fun k _ _ e => own_apart_row ho56 (by decide) e)) hfk (fun k hk _ e => by omega)
                  all_goals have hN8 : NmOwn (w7.setCell ⟨P, 4, none⟩ (.slice (some ⟨gg, 0, none⟩) (bs.length + 1) cap)) w.heap.size nv6 ((bs ++ [g]).map Bg.name) := (by
                    rw [List.map_append]
                    exact own_fr (own_fr hN6 f67 (fun k hk e => by
                      obtain ⟨cur, hc⟩ := own_obj ho56 e
                      exact own_ne hN6 hc (by decide) hk)) hfk (fun k hk e => by have := (World.ownsRow.lt hN6 k hk).1; omega))
                  all_goals exact ⟨nv6, _, cap, _, hP8, hV7.set_ne ⟨P, 4, none⟩ _ n5.symm, (Rdr.farS h hR6 f67 (fun k e => (hol k e).1)).farP hP7 n1 hfk, hN8, own_fr hown7 hfk (fun k hk e => by have := (hown7.lt k hk).1; omega), BgsAre.snoc hou8 _ _ hB8, (((hM2.keep hfd hMS).keep f67 (fun e => by have := (hol m e).1; omega))).keep hfk n3.symm, ((hF2.call hfd (fun k hk e => by rcases e with e | e; exact Or.inl e; exact absurd (World.ownsRow.lt hN2 k e).1 (Nat.not_le.2 hk))).call f67 (fun k hk e => absurd (hol k e).1 (Nat.not_le.2 hk))).p2P hfk⟩
                case rest =>
                  obtain ⟨nv', a', c', vs', hP8, hV8, hR8, hN8, hO8, hB8, hM8, hF8⟩ := hcut
                  go_wp2_with fail
                  refine (is_rdr (by omega) [59] hR8).mono ?_
                  rintro e w9 ⟨rfl, hR9, hf9⟩
                  obtain ⟨sc', hsc'⟩ : ∃ sc', isT [59] r3 = sc' := ⟨_, rfl⟩
                  rw [hsc']
                  have HSC' := Lib.hid hsc'
                  clear hsc'
                  have hlb : (bs ++ [g]).length = bs.length + 1 := by simp
                  go_wp2_with fail
                  go_roundg r3.length
                  case measure => rw [HG.out]; omega
                  case rel =>
                    refine ⟨k, bs ++ [g], r3, !sc', nv', a', c', vs', rfl, rfl, by rw [HSC'.out], HDS.out, by omega, by omega, by omega, by rw [hlb]; omega, hdg, ?_, hV8.fr hf9 n2, hR9, own_fr hN8 hf9 (fun k hk e => by have := (World.ownsRow.lt hN8 k hk).1; omega), ?_, BgsAre.apart hf9 (fun k hk _ e => by omega) _ _ hB8, hM8.keep hf9 (by omega), hF8.p2b hf9⟩
                    · rw [hlb]; exact hP8.fr hf9 n1
                    · rw [hlb]; exact own_fr hO8 hf9 (fun k hk e => by have := (hO8.lt k hk).1; omega)
end Go.Proofs.YtlklijpjacmgpaaGreatDoor
