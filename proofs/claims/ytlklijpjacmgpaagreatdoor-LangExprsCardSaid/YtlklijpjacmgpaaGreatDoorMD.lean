/- Printing: declared, Print. -/
import Derived.Test.YtlklijpjacmgpaaGreatDoorMC
import Derived.Test.YtlklijpjacmgpaaGreatDoorLV
namespace Go.Proofs.YtlklijpjacmgpaaGreatDoor
open Go.RowKit
set_option linter.unusedVariables false
set_option linter.unusedSimpArgs false
attribute [local go_sem ↓] Go.wp_at_zero Go.wp_at_succ

/-- a declaration as it is written -/
def bgS (i : Nat) (g : Bg) : List UInt8 := (if i = 0 then [] else [44]) ++ ([32] ++ g.name) ++ (if g.any then [] else [32, 61, 32] ++ sgT g.neg g.mag)
def bgsS : Nat → List Bg → List UInt8
  | _, [] => []
  | i, g :: r => bgS i g ++ bgsS (i + 1) r
def dcS (l : List Bg) : List UInt8 := vars_ ++ bgsS 0 l
/-- a program as it is printed -/
def pgS (g : Pg) : List UInt8 := dcS g.begins ++ [59, 10] ++ prSms [] g.body
theorem bgsS_app : ∀ (a b : List Bg) (i : Nat), bgsS i (a ++ b) = bgsS i a ++ bgsS (i + a.length) b
  | [], b, i => by simp [bgsS]
  | x :: r, b, i => by
    simp only [List.cons_append, bgsS, bgsS_app r b (i + 1), List.append_assoc, List.length_cons]
    rw [show i + 1 + r.length = i + (r.length + 1) by omega]
theorem bgsS_succ {l : List Bg} {k : Nat} {x : Bg} (h : l[k]? = some x) : bgsS 0 (l.take (k + 1)) = bgsS 0 (l.take k) ++ bgS k x := by
  have hk : k < l.length := (List.getElem?_eq_some_iff.1 h).1
  rw [List.take_add_one, h]
  simp only [Option.toList_some]
  rw [bgsS_app, List.length_take, Nat.min_eq_left (by omega), Nat.zero_add]
  simp [bgsS]
theorem bgsS_le (l : List Bg) (k : Nat) : (bgsS 0 (l.take k)).length ≤ (bgsS 0 l).length := by
  conv => rhs; rw [← List.take_append_drop k l]
  rw [bgsS_app, List.length_append]
  omega
theorem BgsAre.get {w : World} {B : Nat} : ∀ (l : List Bg) (vs : List Value) (i : Nat) (g : Bg), BgsAre w B l vs → l[i]? = some g → ∃ a c, vs[i * 4]? = some (strV g.name) ∧ vs[i * 4 + 1]? = some (.bool g.any) ∧ vs[i * 4 + 2]? = some (.bool g.neg) ∧ vs[i * 4 + 3]? = some (.slice a (dig L32 g.mag).length c) ∧ WhIs w B g.neg g.mag a c
  | [], vs, i, g, h, hi => by simp at hi
  | x :: r, vs, 0, g, ⟨a, c, us, h1, h2, h3⟩, hi => by
    simp only [List.getElem?_cons_zero, Option.some.injEq] at hi
    subst hi
    exact ⟨a, c, by rw [h1]; rfl, by rw [h1]; rfl, by rw [h1]; rfl, by rw [h1]; rfl, h2⟩
  | x :: r, vs, i + 1, g, ⟨a, c, us, h1, h2, h3⟩, hi => by
    obtain ⟨a', c', q0, q1, q2, q3, q4⟩ := BgsAre.get r us i g h3 (by simpa using hi)
    have e : ∀ k, (([strV x.name, .bool x.any, .bool x.neg, .slice a (dig L32 x.mag).length c] : List Value) ++ us)[(i + 1) * 4 + k]? = us[i * 4 + k]? := by
      intro k
      rw [List.getElem?_append_right (by simp; omega)]
      congr 1
      simp
      omega
    have e0 := e 0
    simp only [Nat.add_zero] at e0
    exact ⟨a', c', by rw [h1, e0]; exact q0, by rw [h1, e]; exact q1, by rw [h1, e]; exact q2, by rw [h1, e]; exact q3, q4⟩
set_option maxRecDepth 100000 in
set_option maxHeartbeats 4000000 in
theorem declared_calls {w : World} {B P : Nat} {g : Pg} (h : PgIs w B P g) (hmag : ∀ x ∈ g.begins, (dig L32 x.mag).length ≤ 32) (hl : (dcS g.begins).length ≤ 100000000) (hn : g.begins.length ≤ 100000) :
    Calls Tryz.prog 40 #[.pointer (some ⟨P, 0, none⟩)] w fun e w' => e = .returned (.string ⟨(dcS g.begins).toArray⟩) ∧ Fr No w w' := by
  obtain ⟨a, c, vs, a2, n2, c2, us, hP, ho, hbs, _, _⟩ := h
  unfold dcS at hl ⊢
  obtain ⟨p, hp⟩ : ∃ p, g.at_ = p := ⟨_, rfl⟩
  rw [hp] at hP
  obtain ⟨L, hL⟩ : ∃ L, g.begins = L := ⟨_, rfl⟩
  rw [hL] at hP ho hbs hmag hl hn ⊢
  have hget := fun i x (hi : L[i]? = some x) => BgsAre.get L vs i x hbs hi
  rw [List.length_append] at hl
  have hvl : vars_.length = 4 := rfl
  have HH := Lib.hid (And.intro hget (And.intro hmag (And.intro ho hvl)))
  have RP := Blk.all hP
  clear hp hL hget hmag hbs hP hvl
  go_enter Tryz.func40, Tryz.ntmps40
  go_wp2_with fail
  go_loopg [11, 3] L.length (fun gk x11 x3 wr => ∃ i : Nat, gk = L.length - i ∧ i ≤ L.length ∧ x11 = .int .i64 i ∧ x3 = .string ⟨(vars_ ++ bgsS 0 (L.take i)).toArray⟩ ∧ Fr No w wr)
  case atStart => exact ⟨0, rfl, Nat.zero_le _, rfl, rfl, Fr.refl _ _⟩
  case round =>
    clear ho RP
    obtain ⟨i, hgk, hi, rfl, rfl, hf⟩ := hrel
    have HG := Lib.hid hgk
    clear hgk
    by_cases hlt : i < L.length
    · obtain ⟨x, hx⟩ : ∃ x, L[i]? = some x := ⟨L[i], List.getElem?_eq_getElem hlt⟩
      obtain ⟨a3, c3, q0, q1, q2, q3, q4⟩ := HH.out.1 i x hx
      have hor := own_fr HH.out.2.2.1 hf (fun _ _ x => x)
      have hmg := HH.out.2.1 x (List.mem_of_getElem? hx)
      have hsuc := bgsS_succ hx
      have hle := bgsS_le L (i + 1)
      rw [hsuc, List.length_append] at hle
      obtain ⟨acc, hacc⟩ : ∃ acc, vars_ ++ bgsS 0 (L.take i) = acc := ⟨_, rfl⟩
      have hal : acc.length = 4 + (bgsS 0 (L.take i)).length := by rw [← hacc, List.length_append, HH.out.2.2.2]
      have hdef : bgS i x = (if i = 0 then [] else [44]) ++ ([32] ++ x.name) ++ (if x.any then [] else [32, 61, 32] ++ sgT x.neg x.mag) := rfl
      have hbl : acc.length + (bgS i x).length ≤ 100000000 := by
        have h4 : vars_.length = 4 := rfl
        omega
      rcases own_cases hor with ⟨_, h2, _⟩ | ⟨gg, cap, h1, hBg, hgl, hcap⟩
      · omega
      · simp only [Value.slice.injEq] at h1
        obtain ⟨rfl, _, rfl⟩ := h1
        have r0 := own_cell hor q0
        have r1 := own_cell hor q1
        have r2 := own_cell hor q2
        have r3 := own_cell hor q3
        unfold strV at r0
        have hT := fun (W : World) (f : Fr No w W) => wText_calls B x.neg a3 c3 x.mag W hmg (own_fr q4 f (fun _ _ x => x))
        obtain ⟨m, hm⟩ : ∃ m, (dig L32 x.mag).length = m := ⟨_, rfl⟩
        obtain ⟨ST, hST⟩ : ∃ ST, sgT x.neg x.mag = ST := ⟨_, rfl⟩
        rw [hm, hST] at hT
        rw [hm] at r3
        rw [hST] at hdef
        obtain ⟨⟨nm, any, neg, mag⟩, hxe⟩ : ∃ y : Bg, x = y := ⟨_, rfl⟩
        subst hxe
        simp only at r0 r1 r2 hdef hT
        have hlenD := congrArg List.length hdef
        simp only [List.length_append, List.length_cons, List.length_nil] at hlenD
        have i1 : (0 : Int) ≤ (i : Int) := by omega
        have i2 : (i : Int) < (L.length : Int) := by omega
        have hnml : nm.length ≤ 100000000 := by omega
        have haccl : acc.length ≤ 100000000 := by omega
        have HX := Lib.hid (And.intro hdef (And.intro hsuc (And.intro hacc hT)))
        have HLN := Lib.hid (And.intro hlenD (And.intro hbl hle))
        clear hdef hsuc hT hlenD hx q0 q1 q2 q3 q4 hor hmg hm hST hal hbl hle
        rw [hacc]
        clear hacc
        cases any with
        | true =>
          by_cases hi0 : i = 0
          · have hd1 : decide ((0 : Int) < (i : Int)) = false := by rw [decide_eq_false_iff_not]; omega
            have hd2 : decide (0 < i) = false := by rw [decide_eq_false_iff_not]; omega
            have HI := Lib.hid hi0
            clear hi0
            go_wp2_with fail
            go_roundg (L.length - (i + 1))
            case measure => rw [HG.out]; omega
            case rel =>
              refine ⟨i + 1, rfl, by omega, by go_num, ?_, hf.alloc _⟩

              rw [HX.out.2.1, ← List.append_assoc, HX.out.2.2.1, HX.out.1]
              rw [if_pos HI.out]
              exact congrArg Value.string (by simp [ByteArray.mk_append_mk])

          · have hd1 : decide ((0 : Int) < (i : Int)) = true := by rw [decide_eq_true_iff]; omega
            have hd2 : decide (0 < i) = true := by rw [decide_eq_true_iff]; omega
            have HI := Lib.hid hi0
            clear hi0
            go_wp2_with fail
            go_roundg (L.length - (i + 1))
            case measure => rw [HG.out]; omega
            case rel =>
              refine ⟨i + 1, rfl, by omega, by go_num, ?_, hf.alloc _⟩

              rw [HX.out.2.1, ← List.append_assoc, HX.out.2.2.1, HX.out.1]
              rw [if_neg HI.out]
              exact congrArg Value.string (by simp [ByteArray.mk_append_mk])

        | false =>
          have hSTl : ST.length ≤ 100000000 := by
            have h1 := HLN.out.1
            have h2 := HLN.out.2.1
            rw [if_neg (c := (false = true)) (by simp)] at h1
            simp only [List.length_append, List.length_cons, List.length_nil] at h1
            omega
          by_cases hi0 : i = 0
          · have hd1 : decide ((0 : Int) < (i : Int)) = false := by rw [decide_eq_false_iff_not]; omega
            have hd2 : decide (0 < i) = false := by rw [decide_eq_false_iff_not]; omega
            have HI := Lib.hid hi0
            clear hi0
            go_wp2_with fail
            have hf2 := hf.alloc (.cells #[.string ⟨nm.toArray⟩, .bool false, .bool neg, .slice a3 m c3] 56 (0, 0))
            refine (HX.out.2.2.2 _ hf2).mono ?_
            rintro e w1 ⟨rfl, hf3⟩
            go_wp2_with fail
            go_roundg (L.length - (i + 1))
            case measure => rw [HG.out]; omega
            case rel =>
              refine ⟨i + 1, rfl, by omega, by go_num, ?_, hf2.callNo hf3⟩

              rw [HX.out.2.1, ← List.append_assoc, HX.out.2.2.1, HX.out.1]
              rw [if_pos HI.out]
              exact congrArg Value.string (by simp [ByteArray.mk_append_mk])

          · have hd1 : decide ((0 : Int) < (i : Int)) = true := by rw [decide_eq_true_iff]; omega
            have hd2 : decide (0 < i) = true := by rw [decide_eq_true_iff]; omega
            have HI := Lib.hid hi0
            clear hi0
            go_wp2_with fail
            have hf2 := hf.alloc (.cells #[.string ⟨nm.toArray⟩, .bool false, .bool neg, .slice a3 m c3] 56 (0, 0))
            refine (HX.out.2.2.2 _ hf2).mono ?_
            rintro e w1 ⟨rfl, hf3⟩
            go_wp2_with fail
            go_roundg (L.length - (i + 1))
            case measure => rw [HG.out]; omega
            case rel =>
              refine ⟨i + 1, rfl, by omega, by go_num, ?_, hf2.callNo hf3⟩

              rw [HX.out.2.1, ← List.append_assoc, HX.out.2.2.1, HX.out.1]
              rw [if_neg HI.out]
              exact congrArg Value.string (by simp [ByteArray.mk_append_mk])
    · obtain rfl : i = L.length := by omega
      have i2 : ¬ ((L.length : Int) < (L.length : Int)) := by omega
      rw [List.take_length]
      go_wp2_with fail
      go_ret
      exact ⟨rfl, hf⟩
set_option maxRecDepth 100000 in
set_option maxHeartbeats 4000000 in
theorem Print_calls {w : World} {B P : Nat} {g : Pg} (h : PgIs w B P g) (hmag : ∀ x ∈ g.begins, (dig L32 x.mag).length ≤ 32) (hok : g.body.okS) (hsz : g.body.sz * 2 ≤ 100000) (hl : (pgS g).length ≤ 100000000) (hn : g.begins.length ≤ 100000) :
    Calls Tryz.prog 16 #[.pointer (some ⟨P, 0, none⟩)] w fun e w' => e = .returned (.string ⟨(pgS g).toArray⟩) ∧ Fr No w w' := by
  have hal := (Fr.refl No w).alloc (.cells #[.pointer none, .slice none 0 0] 101 (0, 0))
  have h1 := h.fr hal
  have hPl : P < w.heap.size := by
    obtain ⟨_, _, _, _, _, _, _, hP, _⟩ := h
    exact hP.lt
  have hb0 := sb_new w
  have hlen : (pgS g).length = (dcS g.begins).length + 2 + (prSms [] g.body).length := by unfold pgS; simp only [List.length_append, List.length_cons, List.length_nil]
  have hd := declared_calls h1 hmag (by omega) hn
  obtain ⟨D, hD⟩ : ∃ D, dcS g.begins = D := ⟨_, rfl⟩
  have hpg : pgS g = D ++ [59, 10] ++ prSms [] g.body := by unfold pgS; rw [hD]
  rw [hpg]
  rw [hD] at hd hlen
  have HH := Lib.hid (And.intro hd (And.intro hok h1))
  clear hd hok h h1 hpg hD hmag
  obtain ⟨PR, hPR⟩ : ∃ PR, prSms [] g.body = PR := ⟨_, rfl⟩
  rw [hPR] at hlen ⊢
  have HPR := Lib.hid hPR
  clear hPR
  have hDl : D.length ≤ 100000000 := by omega
  go_enter Tryz.func16, Tryz.ntmps16
  go_wp2_with fail
  refine HH.out.1.mono ?_
  rintro e w1 ⟨rfl, hf1⟩
  have hb1 := SB.fr hb0 hf1
  have hF1 := hal.callNo hf1
  have hPg := HH.out.2.2.fr hf1
  go_wp2_with fail
  rw [ba_append]
  refine (put_calls w.heap.size w.heap.size _ [] [] (D ++ [59, 10]) w1 (Or.inl rfl) (by simpa [Lib.byteCells] using hb1) (by simp only [List.length_append, List.length_cons, List.length_nil]; omega) hF1.size).mono ?_
  rintro e w2 ⟨rfl, hb2, hf2⟩
  have hF2 : Fr No w w2 := hF1.call hf2 (fun k hk e => absurd e.2 (by omega))
  obtain ⟨a, c, vs, a2, n2, c2, us, hP, ho, hbs, ho2, hs2⟩ := hPg
  have hP0 := hP
  have hP2 := hP.fr hf2 (not_sbB hP (by decide) (by omega))
  have hoth := other_sb (B := B) hb1
  have ho3 := own_other ho2 hf2 hoth (Or.inr (Or.inl rfl))
  have hs3 := SmsAre.other hf2 hoth _ _ hs2
  obtain ⟨p, hp⟩ : ∃ p, g.at_ = p := ⟨_, rfl⟩
  rw [hp] at hP2
  have RP := Blk.all hP2
  clear hp hP hP0 hbs ho hs2 ho2 hoth
  go_wp2_with fail
  refine (pr_all g.body.sz g.body a2 n2 c2 us [] B w.heap.size w.heap.size _ _ w2 (Nat.le_refl _) HH.out.2.1 ho3 hs3 hb2 (Or.inr rfl) (by rw [HPR.out]; simp only [List.nil_append, bc_len, List.length_append, List.length_cons, List.length_nil]; omega) (by simp only [List.length_nil]; omega) hF2.size).mono ?_
  rw [HPR.out]
  rintro e w3 ⟨rfl, ⟨p3, hp3, hb3⟩, hf3⟩
  have hF3 : Fr No w w3 := hF2.call hf3 (fun k hk e => absurd e.2 (by omega))
  go_wp2_with fail
  refine (Tryz.Builder_String_any w.heap.size w.heap.size (D ++ [59, 10] ++ PR) w3 (by
    rw [List.nil_append, List.nil_append, ← bc_app] at hb3
    rcases hp3 with rfl | rfl
    · exact Or.inl hb3
    · exact Or.inr hb3) hF3.size).mono ?_
  rintro e w4 ⟨rfl, hb4⟩
  go_wp2_with fail
  go_ret
  exact ⟨congrArg (fun x => Ending.returned (.string x)) (by simp), hF3.call (below_fr hb4) (fun k hk e => by omega)⟩
end Go.Proofs.YtlklijpjacmgpaaGreatDoor
