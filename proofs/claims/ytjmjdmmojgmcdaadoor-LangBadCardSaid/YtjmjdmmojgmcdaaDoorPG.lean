/- LangBad: the walk. -/
import Derived.Test.YtjmjdmmojgmcdaaDoorPE
import Derived.Test.YtjmjdmmojgmcdaaDoorPF
import Derived.Test.YtjmjdmmojgmcdaaDoorOI
namespace Go.Proofs.YtjmjdmmojgmcdaaDoor
open Go.RowKit
set_option linter.unusedVariables false
set_option linter.unusedSimpArgs false
attribute [local go_sem ↓] Go.wp_at_zero Go.wp_at_succ

theorem wp_three {P : Program} {code : Code} {Q : Exit → Act → World → Prop} {a : Act} {w : World} {o1 o2 o3 : Obj} (N : Nat) (hN : w.heap.size = N) (h : ∀ W : World, Blk W N o1 → Blk W (N + 1) o2 → Blk W (N + 1 + 1) o3 → Fr No w W → Code.wp P code Q a W) : Code.wp P code Q a (((w.alloc o1).alloc o2).alloc o3) := by
  subst hN
  refine h _ (((Blk.new w o1).alloc o2).alloc o3) ?_ ?_ ((((Fr.refl No w).alloc o1).alloc o2).alloc o3)
  · have h := (Blk.new (w.alloc o1) o2).alloc o3
    rwa [alloc_size] at h
  · have h := Blk.new ((w.alloc o1).alloc o2) o3
    rwa [alloc_size, alloc_size] at h
theorem qn_name {i : Nat} (hi : i < 10) : NmT (qn i) ∧ wordS (qn i) = false := by
  have : i = 0 ∨ i = 1 ∨ i = 2 ∨ i = 3 ∨ i = 4 ∨ i = 5 ∨ i = 6 ∨ i = 7 ∨ i = 8 ∨ i = 9 := by omega
  have h2 : cls 113 = 2 := by decide
  have key : ∀ d : Nat, tk [113, d] = .ok 1 [113, UInt8.ofNat d] 2 → okc d = true → [113, d].flatMap enc = [113, UInt8.ofNat d] → NmT [113, UInt8.ofNat d] := by
    intro d ht hok he
    exact ⟨_, piece_name (c := 113) (r := [d]) (m := 2) ht h2 (by
      intro c hc
      simp at hc
      rcases hc with rfl | rfl
      · decide
      · exact hok), he⟩
  rcases this with rfl | rfl | rfl | rfl | rfl | rfl | rfl | rfl | rfl | rfl
  all_goals exact ⟨key _ (by rw [tk2 h2]; rfl) (by decide) (by decide), by decide⟩
theorem var_none {l : List (List UInt8)} {q : List UInt8} (h : q ∉ l) : varS l q = none := by
  unfold varS
  rw [List.findIdx?_eq_none_iff]
  intro x hx
  rw [beq_eq_false_iff_ne]
  rintro rfl
  exact h hx
set_option maxRecDepth 100000 in
set_option maxHeartbeats 8000000 in
theorem langBad_calls (s : ByteArray) (kind : Int) (hs : s.size ≤ maxLen) {w : World} (hT : Tb w) :
    Calls Tryd.prog 4 #[.string s, .int .i64 kind] w fun e w' => e = .returned (.bool true) ∧ Fr No w w' := by
  have hp := fun (W : World) (hT : Tb W) => parse_calls (w := W) s hs hT
  obtain ⟨pr, hpr⟩ : ∃ pr, parseS s.data.toList = pr := ⟨_, rfl⟩
  rw [hpr] at hp
  have HP := Lib.hid hp
  clear hp
  go_enter Tryd.func4, Tryd.ntmps4
  go_wp2_with fail
  refine (awake_calls hT).mono ?_
  rintro e w1 ⟨rfl, hf1⟩
  have hT1 := hT.no hf1
  clear hT
  go_wp2_with fail
  refine (HP.out _ hT1).mono ?_
  rintro e w2 ⟨hf2, hm2⟩
  have hT2 := hT1.no hf2
  have hF2 := hf1.callNo hf2
  clear hT1 hf1 hf2
  cases pr with
  | error ep =>
    obtain ⟨c, p⟩ := ep
    simp only at hm2
    subst hm2
    have hc := parse_nz hpr
    have hcb : (c != 0) = true := by simp [hc]
    clear hpr hc
    unfold plA
    go_wp2_with fail
    go_ret
    exact ⟨rfl, hF2.alloc _⟩
  | ok g =>
    obtain ⟨P, rfl, hPB, hPg⟩ := hm2
    have hPr := fun (W : World) (f : Fr No w2 W) => Print_read hpr (hPg.fr f)
    have hVr := fun (W : World) (f : Fr No w2 W) => Vars_read hpr (hPg.fr f)
    have hgd := parse_gd hpr
    obtain ⟨X, hX⟩ : ∃ X, pgS g = X := ⟨_, rfl⟩
    rw [hX] at hPr hgd
    have hgl := hgd.1
    have HQ := Lib.hid (And.intro hPr (And.intro hVr (And.intro hX hpr)))
    clear hPr hVr hgd hX hPg hPB HP hpr
    unfold plA
    go_wp2_with fail
    have hal := (Fr.refl No w2).alloc (.cells #[.int .i64 zeroPl.b, .int .i64 zeroPl.g, .int .i64 zeroPl.l, .int .i64 zeroPl.c] 26 (0, 0))
    refine (HQ.out.1 _ hal).mono ?_
    rintro e w3 ⟨rfl, hf3⟩
    have hg3 := hal.callNo hf3
    have hT3 := hT2.no hg3
    clear hal hf3 hT2
    have hXs : (⟨X.toArray⟩ : ByteArray).size = X.length := rfl
    by_cases hlen : X.length ≤ 3796
    · have hd1 : decide ((3796 : Int) < (X.length : Int)) = false := by rw [decide_eq_false_iff_not]; omega
      go_wp2_with fail
      refine (HQ.out.2.1 _ hg3).mono ?_
      rintro e w4 ⟨a4, c4, rfl, _, hf4⟩
      have hg4 := hg3.callNo hf4
      have hT4 := hT3.no hf4
      clear hg3 hf4 hT3
      by_cases hn0 : g.begins.length = 0
      · have hd2 : ((g.begins.length : Int) == 0) = true := by rw [hn0]; rfl
        have hF := hF2.callNo hg4
        go_wp2_with fail
        go_ret
        exact ⟨rfl, hF⟩
      · have hd2 : ((g.begins.length : Int) == 0) = false := by rw [beq_eq_false_iff_ne]; omega
        go_wp2_with fail
        go_loopg [10, 9] X.length (fun gk x10 x9 wr => wr = w4 ∧ ∃ i : Nat, gk = X.length - i ∧ i ≤ X.length ∧ x10 = .int .i64 i ∧ x9 = .int .i64 ((1 + (X.take i).count 10 : Nat) : Int))
        case atStart => exact ⟨rfl, 0, rfl, Nat.zero_le _, rfl, rfl⟩
        case round =>
          obtain ⟨rfl, i, hgk, hi, rfl, rfl⟩ := hrel
          have HG := Lib.hid hgk
          clear hgk
          by_cases hlt : i < X.length
          · have i1 : (0 : Int) ≤ (i : Int) := by omega
            have i2 : (i : Int) < (X.length : Int) := by omega
            obtain ⟨d, hd⟩ : ∃ d, X[i] = d := ⟨_, rfl⟩
            have hsuc : (X.take (i + 1)).count 10 = (X.take i).count 10 + (if d = 10 then 1 else 0) := by
              rw [List.take_add_one, List.getElem?_eq_getElem hlt, hd, List.count_append]
              simp [List.count_singleton]
            have hby : ((⟨X.toArray⟩ : ByteArray)[i]'(by rw [hXs]; exact hlt)).toNat = d.toNat := by rw [← hd]; rfl
            have hcl : (X.take i).count 10 ≤ 3796 := Nat.le_trans (List.count_le_length) (by rw [List.length_take]; omega)
            by_cases hd10 : d = 10
            · have hq : ((d.toNat : Int) == 10) = true := by rw [hd10]; rfl
              rw [if_pos hd10] at hsuc
              have HS := Lib.hid hsuc
              clear hsuc hd
              go_wp2_with fail
              go_roundg (X.length - (i + 1))
              case measure => rw [HG.out]; omega
              case rel => exact ⟨rfl, i + 1, rfl, by omega, by go_num, by rw [HS.out]; go_num⟩
            · have hq : ((d.toNat : Int) == 10) = false := by
                rw [beq_eq_false_iff_ne]
                intro h
                exact hd10 (UInt8.toNat_inj.1 (by show d.toNat = 10; omega))
              rw [if_neg hd10] at hsuc
              have HS := Lib.hid hsuc
              clear hsuc hd
              go_wp2_with fail
              go_roundg (X.length - (i + 1))
              case measure => rw [HG.out]; omega
              case rel => exact ⟨rfl, i + 1, rfl, by omega, by go_num, by rw [HS.out]; rfl⟩
          · obtain rfl : i = X.length := by omega
            have i2 : ¬ ((X.length : Int) < (X.length : Int)) := by omega
            rw [List.take_length]
            have hcl : X.count 10 ≤ 3796 := Nat.le_trans (List.count_le_length) hlen
            obtain ⟨LN, hLN⟩ : ∃ LN : Nat, 1 + X.count 10 = LN := ⟨_, rfl⟩
            rw [hLN]
            obtain ⟨b0, br, hbeg⟩ : ∃ b r, g.begins = b :: r := by
              cases hb : g.begins with
              | nil => rw [hb] at hn0; exact absurd rfl hn0
              | cons b r => exact ⟨b, r, rfl⟩
            have hok := (parse_bk HQ.out.2.2.2).1
            rw [hbeg] at hok
            have hw0 := hok.1.1
            have hnm : g.begins.map Bg.name = b0.name :: br.map Bg.name := by rw [hbeg]; rfl
            obtain ⟨x, hx⟩ : ∃ x, b0.name = x := ⟨_, rfl⟩
            obtain ⟨nm, hnm2⟩ : ∃ nm, br.map Bg.name = nm := ⟨_, rfl⟩
            rw [hx] at hw0 hnm
            rw [hnm2] at hnm
            obtain ⟨cs, q1, q2, _, _⟩ := nm_codes hw0.1
            have hx64 := (nm_len hw0.1).1
            have hcx : cs.length ≤ x.length := by have := flat_len_le cs; rw [q1] at this; exact this
            have hgs : glyS x = .ok (glys start cs) := by
              have T : Txt x cs [] := ⟨by simp [q1], q2, rfl⟩
              rw [glyS_eq T (by omega)]
              rfl
            have hGl := fun (W : World) (hT : Tb W) => Glyphs_any ⟨x.toArray⟩ W hT (by show x.length ≤ maxLen; unfold maxLen; omega)
            rw [show (⟨x.toArray⟩ : ByteArray).data.toList = x from rfl, hgs] at hGl
            unfold GlyGot at hGl
            simp only [GRes.gl, GRes.code, GRes.pl, glys_len] at hGl
            have hxs : (⟨x.toArray⟩ : ByteArray).size = x.length := rfl
            have hall := fun (q : List UInt8) (h1 : NmT q) (h2 : wordS q = false) (h3 : varS (x :: nm) q = none) (h4 : q.length ≤ 64) => bad_all HQ.out.2.2.2 hnm q1 q2 hw0 h1 h2 h3 h4 (by rw [HQ.out.2.2.1]; exact hlen)
            have hnl : (x :: nm).length = g.begins.length := by rw [← hnm, List.length_map]
            have HA := Lib.hid (And.intro hnm (And.intro hGl (And.intro hall (And.intro hLN hnl))))
            clear hnm hGl hall hLN hbeg hok hw0 hx hnm2 q1 q2 hgs hnl HG hcl
            go_wp2_with fail
            refine (HQ.out.2.1 _ hg4).mono ?_
            rintro e w5 ⟨a5, c5, rfl, o5, hf5⟩
            have hg5 := hg4.callNo hf5
            have hT5 := hT4.no hf5
            clear hf5 hT4
            unfold NmOwn at o5
            rw [HA.out.1] at o5
            rw [show (x :: nm).length = g.begins.length from HA.out.2.2.2.2] at o5
            rcases own_cases o5 with ⟨_, h9, _⟩ | ⟨g5, cap5, e5, _, hgl5, hcap5⟩
            · omega
            simp only [Value.slice.injEq] at e5
            obtain ⟨rfl, _, rfl⟩ := e5
            have d5 : w5.cell? ⟨g5, 0, none⟩ = some (.string ⟨x.toArray⟩) := own_cell o5 (j := 0) rfl
            have n1 : (0 : Int) < (g.begins.length : Int) := by omega
            have O5 := Lib.hid o5
            clear o5
            go_wp2_with fail
            refine (HQ.out.2.1 _ hg5).mono ?_
            rintro e w6 ⟨a6, c6, rfl, o6, hf6⟩
            have hg6 := hg5.callNo hf6
            have hT6 := hT5.no hf6
            clear hf6 hT5 hg5 d5 hgl5
            rw [HA.out.1] at o6
            go_wp2_with fail
            refine (fresh_calls o6 (by rw [HA.out.2.2.2.2]; exact hgl)).mono ?_
            rintro e w7 ⟨qi, hqi, rfl, hqn, hf7⟩
            have hg7 := hg6.callNo hf7
            have hT7 := hT6.no hf7
            clear hf7 hT6 hg6 o6
            go_wp2_with fail
            refine (HA.out.2.1 _ hT7).mono ?_
            rintro e w8 ⟨a8, c8, rfl, _, hf8⟩
            have hg8 := hg7.callNo hf8
            have hT8 := hT7.no hf8
            clear hf8 hT7 hg7
            unfold plA
            go_upto_region 22 with (fail)
            have hqq := qn_name hqi
            have hbad := HA.out.2.2.1 (qn qi) hqq.1 hqq.2 (var_none hqn) (by simp [qn])
            obtain ⟨Q, hQ⟩ : ∃ Q, qn qi = Q := ⟨_, rfl⟩
            rw [hQ] at hbad ⊢
            have hpl := (Fr.refl No w8).alloc (.cells #[.int .i64 zeroPl.b, .int .i64 zeroPl.g, .int .i64 zeroPl.l, .int .i64 zeroPl.c] 26 (0, 0))
            have hg9 := hg8.callNo hpl
            have hT9 := hT8.no hpl
            have HB := Lib.hid (And.intro hbad (And.intro HQ.out.2.2.1 (And.intro HA.out.2.2.2.1 (show Q.length ≤ 64 by rw [← hQ]; simp [qn]))))
            clear hbad hQ hqq hqn hg8 hT8 hpl HA HQ O5
            refine wp_three (w8.heap.size + 1) (alloc_size _ _) (fun W b1 b2 b3 hfW => ?_)
            have hgW := hg9.callNo hfW
            have hTW := hT9.no hfW
            clear hg9 hT9 hfW
            have R1 := Blk.all b1
            have l1 := b1.lt
            have HN := Lib.hid (And.intro b2 b3)
            clear b1 b2 b3
            obtain ⟨m, hm, hm2⟩ := and_mask kind
            go_upto_region 23 with (fail)
            have hpar : ∀ c, c < 16 → ∃ (pb pg pc : Nat), pb = X.length + gapS x.length c ∧ pc = gapS cs.length c + 1 ∧ Calls Tryd.prog 8 #[.string ⟨(X ++ badS x Q c).toArray⟩] W fun e w' => Fr No W w' ∧ e = .returned (.tuple #[.pointer none, .int .i64 (codeS c), .agg #[.int .i64 pb, .int .i64 pg, .int .i64 LN, .int .i64 pc]]) := by
              intro c hc
              obtain ⟨⟨pb, pg, pl, pc⟩, p1, p2, p3, p4⟩ := HB.out.1 c hc
              rw [HB.out.2.1] at p1 p2 p3
              rw [HB.out.2.2.1] at p3
              simp only at p2 p3 p4
              subst p3
              have hq64 : Q.length ≤ 64 := HB.out.2.2.2
              have hbl := bad_len x Q c hx64 hq64
              have h := parse_calls (w := W) ⟨(X ++ badS x Q c).toArray⟩ (by show (X ++ badS x Q c).length ≤ maxLen; unfold maxLen; rw [List.length_append]; omega) hTW
              rw [show (⟨(X ++ badS x Q c).toArray⟩ : ByteArray).data.toList = X ++ badS x Q c from rfl, p1] at h
              exact ⟨pb, pg, pc, p2, p4, h⟩
            have HPR := Lib.hid hpar
            have hQ64 : Q.length ≤ 64 := HB.out.2.2.2
            have hQs : (⟨Q.toArray⟩ : ByteArray).size = Q.length := rfl
            clear hpar HB hTW hm
            obtain ⟨b, hb⟩ : ∃ b : Nat, m % 16 = b := ⟨_, rfl⟩
            have hb16 : b < 16 := by omega
            rw [show ((m : Int) % 16) = (b : Int) by omega]
            clear hb hm2
            have hb17 : b = 0 ∨ b = 1 ∨ b = 2 ∨ b = 3 ∨ b = 4 ∨ b = 5 ∨ b = 6 ∨ b = 7 ∨ b = 8 ∨ b = 9 ∨ b = 10 ∨ b = 11 ∨ b = 12 ∨ b = 13 ∨ b = 14 ∨ b = 15 := by omega
            clear hb16
            rcases hb17 with rfl | rfl | rfl | rfl | rfl | rfl | rfl | rfl | rfl | rfl | rfl | rfl | rfl | rfl | rfl | rfl
            · obtain ⟨pb, pg, pc, hpb, hpc, hcall⟩ := HPR.out 0 (by omega)
              simp only [gapS] at hpb hpc
              simp only [codeS] at hcall
              go_wp2_with fail
              try simp only [ba_append]
              refine hcall.mono ?_
              rintro e w9 ⟨hf9, rfl⟩
              have hF := hF2.callNo (hgW.callNo hf9)
              have b2 := HN.out.1.fr hf9 (fun x => x)
              have b3 := HN.out.2.fr hf9 (fun x => x)
              have R2 := Blk.all b2
              have R3 := Blk.all b3
              have l2 := b2.lt
              have l3 := b3.lt
              clear hcall hgW hf9 b2 b3 R1 l1
              have hw1 : IntKind.i64.wrap ((X.length : Int) + 0) = (X.length : Int) + 0 := by rw [IntKind.wrap_i64]; omega
              have hw3 : IntKind.i64.wrap (X.length : Int) = (X.length : Int) := by rw [IntKind.wrap_i64]; omega
              have hgd : decide ((x.length : Int) < 0) = false := by rw [decide_eq_false_iff_not]; omega
              go_upto_region 27 with (fail)
              go_quiet (fail)
              go_wp2_with fail
              go_ret
              exact ⟨rfl, (hF.alloc _).drewN _⟩
            · obtain ⟨pb, pg, pc, hpb, hpc, hcall⟩ := HPR.out 1 (by omega)
              simp only [gapS] at hpb hpc
              simp only [codeS] at hcall
              go_wp2_with fail
              try simp only [ba_append]
              refine hcall.mono ?_
              rintro e w9 ⟨hf9, rfl⟩
              have hF := hF2.callNo (hgW.callNo hf9)
              have b2 := HN.out.1.fr hf9 (fun x => x)
              have b3 := HN.out.2.fr hf9 (fun x => x)
              have R2 := Blk.all b2
              have R3 := Blk.all b3
              have l2 := b2.lt
              have l3 := b3.lt
              clear hcall hgW hf9 b2 b3 R1 l1
              have hw1 : IntKind.i64.wrap ((X.length : Int) + 4) = (X.length : Int) + 4 := by rw [IntKind.wrap_i64]; omega
              have hw3 : IntKind.i64.wrap (X.length : Int) = (X.length : Int) := by rw [IntKind.wrap_i64]; omega
              by_cases hgt : x.length < 4
              · have hgd : decide ((x.length : Int) < 4) = true := by rw [decide_eq_true_iff]; omega
                go_upto_region 27 with (fail)
                go_quiet (fail)
                go_wp2_with fail
                go_ret
                exact ⟨rfl, (hF.alloc _).drewN _⟩
              · have hgd : decide ((x.length : Int) < 4) = false := by rw [decide_eq_false_iff_not]; omega
                go_upto_region 27 with (fail)
                go_quiet (fail)
                go_wp2_with fail
                go_ret
                exact ⟨rfl, (hF.alloc _).drewN _⟩
            · obtain ⟨pb, pg, pc, hpb, hpc, hcall⟩ := HPR.out 2 (by omega)
              simp only [gapS] at hpb hpc
              simp only [codeS] at hcall
              go_wp2_with fail
              try simp only [ba_append]
              refine hcall.mono ?_
              rintro e w9 ⟨hf9, rfl⟩
              have hF := hF2.callNo (hgW.callNo hf9)
              have b2 := HN.out.1.fr hf9 (fun x => x)
              have b3 := HN.out.2.fr hf9 (fun x => x)
              have R2 := Blk.all b2
              have R3 := Blk.all b3
              have l2 := b2.lt
              have l3 := b3.lt
              clear hcall hgW hf9 b2 b3 R1 l1
              have hw1 : IntKind.i64.wrap ((X.length : Int) + 0) = (X.length : Int) + 0 := by rw [IntKind.wrap_i64]; omega
              have hw3 : IntKind.i64.wrap (X.length : Int) = (X.length : Int) := by rw [IntKind.wrap_i64]; omega
              have hgd : decide ((x.length : Int) < 0) = false := by rw [decide_eq_false_iff_not]; omega
              go_upto_region 27 with (fail)
              go_quiet (fail)
              go_wp2_with fail
              go_ret
              exact ⟨rfl, (hF.alloc _).drewN _⟩
            · obtain ⟨pb, pg, pc, hpb, hpc, hcall⟩ := HPR.out 3 (by omega)
              simp only [gapS] at hpb hpc
              simp only [codeS] at hcall
              go_wp2_with fail
              try simp only [ba_append]
              refine hcall.mono ?_
              rintro e w9 ⟨hf9, rfl⟩
              have hF := hF2.callNo (hgW.callNo hf9)
              have b2 := HN.out.1.fr hf9 (fun x => x)
              have b3 := HN.out.2.fr hf9 (fun x => x)
              have R2 := Blk.all b2
              have R3 := Blk.all b3
              have l2 := b2.lt
              have l3 := b3.lt
              clear hcall hgW hf9 b2 b3 R1 l1
              have hgd : decide ((x.length : Int) < (x.length : Int) + 1) = true := by rw [decide_eq_true_iff]; omega
              have hw1 : IntKind.i64.wrap ((X.length : Int) + ((x.length : Int) + 1)) = (X.length : Int) + ((x.length : Int) + 1) := by rw [IntKind.wrap_i64]; omega
              have hw2 : IntKind.i64.wrap ((cs.length : Int) + 1 + 1) = (cs.length : Int) + 1 + 1 := by rw [IntKind.wrap_i64]; omega
              go_upto_region 27 with (fail)
              rw [show ((x.length : Int) + 1 - ((x.length : Int) - (cs.length : Int))) = (cs.length : Int) + 1 by omega]
              go_quiet (fail)
              go_wp2_with fail
              go_ret
              exact ⟨rfl, (hF.alloc _).drewN _⟩
            · obtain ⟨pb, pg, pc, hpb, hpc, hcall⟩ := HPR.out 4 (by omega)
              simp only [gapS] at hpb hpc
              simp only [codeS] at hcall
              go_wp2_with fail
              try simp only [ba_append]
              refine hcall.mono ?_
              rintro e w9 ⟨hf9, rfl⟩
              have hF := hF2.callNo (hgW.callNo hf9)
              have b2 := HN.out.1.fr hf9 (fun x => x)
              have b3 := HN.out.2.fr hf9 (fun x => x)
              have R2 := Blk.all b2
              have R3 := Blk.all b3
              have l2 := b2.lt
              have l3 := b3.lt
              clear hcall hgW hf9 b2 b3 R1 l1
              have hgd : decide ((x.length : Int) < (x.length : Int) + 7) = true := by rw [decide_eq_true_iff]; omega
              have hw1 : IntKind.i64.wrap ((X.length : Int) + ((x.length : Int) + 7)) = (X.length : Int) + ((x.length : Int) + 7) := by rw [IntKind.wrap_i64]; omega
              have hw2 : IntKind.i64.wrap ((cs.length : Int) + 7 + 1) = (cs.length : Int) + 7 + 1 := by rw [IntKind.wrap_i64]; omega
              go_upto_region 27 with (fail)
              rw [show ((x.length : Int) + 7 - ((x.length : Int) - (cs.length : Int))) = (cs.length : Int) + 7 by omega]
              go_quiet (fail)
              go_wp2_with fail
              go_ret
              exact ⟨rfl, (hF.alloc _).drewN _⟩
            · obtain ⟨pb, pg, pc, hpb, hpc, hcall⟩ := HPR.out 5 (by omega)
              simp only [gapS] at hpb hpc
              simp only [codeS] at hcall
              go_wp2_with fail
              try simp only [ba_append]
              refine hcall.mono ?_
              rintro e w9 ⟨hf9, rfl⟩
              have hF := hF2.callNo (hgW.callNo hf9)
              have b2 := HN.out.1.fr hf9 (fun x => x)
              have b3 := HN.out.2.fr hf9 (fun x => x)
              have R2 := Blk.all b2
              have R3 := Blk.all b3
              have l2 := b2.lt
              have l3 := b3.lt
              clear hcall hgW hf9 b2 b3 R1 l1
              have hgd : decide ((x.length : Int) < (x.length : Int) + 6) = true := by rw [decide_eq_true_iff]; omega
              have hw1 : IntKind.i64.wrap ((X.length : Int) + ((x.length : Int) + 6)) = (X.length : Int) + ((x.length : Int) + 6) := by rw [IntKind.wrap_i64]; omega
              have hw2 : IntKind.i64.wrap ((cs.length : Int) + 6 + 1) = (cs.length : Int) + 6 + 1 := by rw [IntKind.wrap_i64]; omega
              go_upto_region 27 with (fail)
              rw [show ((x.length : Int) + 6 - ((x.length : Int) - (cs.length : Int))) = (cs.length : Int) + 6 by omega]
              go_quiet (fail)
              go_wp2_with fail
              go_ret
              exact ⟨rfl, (hF.alloc _).drewN _⟩
            · obtain ⟨pb, pg, pc, hpb, hpc, hcall⟩ := HPR.out 6 (by omega)
              simp only [gapS] at hpb hpc
              simp only [codeS] at hcall
              go_wp2_with fail
              try simp only [ba_append]
              refine hcall.mono ?_
              rintro e w9 ⟨hf9, rfl⟩
              have hF := hF2.callNo (hgW.callNo hf9)
              have b2 := HN.out.1.fr hf9 (fun x => x)
              have b3 := HN.out.2.fr hf9 (fun x => x)
              have R2 := Blk.all b2
              have R3 := Blk.all b3
              have l2 := b2.lt
              have l3 := b3.lt
              clear hcall hgW hf9 b2 b3 R1 l1
              have hw1 : IntKind.i64.wrap ((X.length : Int) + 5) = (X.length : Int) + 5 := by rw [IntKind.wrap_i64]; omega
              have hw3 : IntKind.i64.wrap (X.length : Int) = (X.length : Int) := by rw [IntKind.wrap_i64]; omega
              by_cases hgt : x.length < 5
              · have hgd : decide ((x.length : Int) < 5) = true := by rw [decide_eq_true_iff]; omega
                go_upto_region 27 with (fail)
                go_quiet (fail)
                go_wp2_with fail
                go_ret
                exact ⟨rfl, (hF.alloc _).drewN _⟩
              · have hgd : decide ((x.length : Int) < 5) = false := by rw [decide_eq_false_iff_not]; omega
                go_upto_region 27 with (fail)
                go_quiet (fail)
                go_wp2_with fail
                go_ret
                exact ⟨rfl, (hF.alloc _).drewN _⟩
            · obtain ⟨pb, pg, pc, hpb, hpc, hcall⟩ := HPR.out 7 (by omega)
              simp only [gapS] at hpb hpc
              simp only [codeS] at hcall
              go_wp2_with fail
              try simp only [ba_append]
              refine hcall.mono ?_
              rintro e w9 ⟨hf9, rfl⟩
              have hF := hF2.callNo (hgW.callNo hf9)
              have b2 := HN.out.1.fr hf9 (fun x => x)
              have b3 := HN.out.2.fr hf9 (fun x => x)
              have R2 := Blk.all b2
              have R3 := Blk.all b3
              have l2 := b2.lt
              have l3 := b3.lt
              clear hcall hgW hf9 b2 b3 R1 l1
              have hw1 : IntKind.i64.wrap ((X.length : Int) + 5) = (X.length : Int) + 5 := by rw [IntKind.wrap_i64]; omega
              have hw3 : IntKind.i64.wrap (X.length : Int) = (X.length : Int) := by rw [IntKind.wrap_i64]; omega
              by_cases hgt : x.length < 5
              · have hgd : decide ((x.length : Int) < 5) = true := by rw [decide_eq_true_iff]; omega
                go_upto_region 27 with (fail)
                go_quiet (fail)
                go_wp2_with fail
                go_ret
                exact ⟨rfl, (hF.alloc _).drewN _⟩
              · have hgd : decide ((x.length : Int) < 5) = false := by rw [decide_eq_false_iff_not]; omega
                go_upto_region 27 with (fail)
                go_quiet (fail)
                go_wp2_with fail
                go_ret
                exact ⟨rfl, (hF.alloc _).drewN _⟩
            · obtain ⟨pb, pg, pc, hpb, hpc, hcall⟩ := HPR.out 8 (by omega)
              simp only [gapS] at hpb hpc
              simp only [codeS] at hcall
              go_wp2_with fail
              try simp only [ba_append]
              refine hcall.mono ?_
              rintro e w9 ⟨hf9, rfl⟩
              have hF := hF2.callNo (hgW.callNo hf9)
              have b2 := HN.out.1.fr hf9 (fun x => x)
              have b3 := HN.out.2.fr hf9 (fun x => x)
              have R2 := Blk.all b2
              have R3 := Blk.all b3
              have l2 := b2.lt
              have l3 := b3.lt
              clear hcall hgW hf9 b2 b3 R1 l1
              have hw1 : IntKind.i64.wrap ((X.length : Int) + 5) = (X.length : Int) + 5 := by rw [IntKind.wrap_i64]; omega
              have hw3 : IntKind.i64.wrap (X.length : Int) = (X.length : Int) := by rw [IntKind.wrap_i64]; omega
              by_cases hgt : x.length < 5
              · have hgd : decide ((x.length : Int) < 5) = true := by rw [decide_eq_true_iff]; omega
                go_upto_region 27 with (fail)
                go_quiet (fail)
                go_wp2_with fail
                go_ret
                exact ⟨rfl, (hF.alloc _).drewN _⟩
              · have hgd : decide ((x.length : Int) < 5) = false := by rw [decide_eq_false_iff_not]; omega
                go_upto_region 27 with (fail)
                go_quiet (fail)
                go_wp2_with fail
                go_ret
                exact ⟨rfl, (hF.alloc _).drewN _⟩
            · obtain ⟨pb, pg, pc, hpb, hpc, hcall⟩ := HPR.out 9 (by omega)
              simp only [gapS] at hpb hpc
              simp only [codeS] at hcall
              go_wp2_with fail
              try simp only [ba_append]
              refine hcall.mono ?_
              rintro e w9 ⟨hf9, rfl⟩
              have hF := hF2.callNo (hgW.callNo hf9)
              have b2 := HN.out.1.fr hf9 (fun x => x)
              have b3 := HN.out.2.fr hf9 (fun x => x)
              have R2 := Blk.all b2
              have R3 := Blk.all b3
              have l2 := b2.lt
              have l3 := b3.lt
              clear hcall hgW hf9 b2 b3 R1 l1
              have hw1 : IntKind.i64.wrap ((X.length : Int) + 13) = (X.length : Int) + 13 := by rw [IntKind.wrap_i64]; omega
              have hw3 : IntKind.i64.wrap (X.length : Int) = (X.length : Int) := by rw [IntKind.wrap_i64]; omega
              by_cases hgt : x.length < 13
              · have hgd : decide ((x.length : Int) < 13) = true := by rw [decide_eq_true_iff]; omega
                go_upto_region 27 with (fail)
                go_quiet (fail)
                go_wp2_with fail
                go_ret
                exact ⟨rfl, (hF.alloc _).drewN _⟩
              · have hgd : decide ((x.length : Int) < 13) = false := by rw [decide_eq_false_iff_not]; omega
                go_upto_region 27 with (fail)
                go_quiet (fail)
                go_wp2_with fail
                go_ret
                exact ⟨rfl, (hF.alloc _).drewN _⟩
            · obtain ⟨pb, pg, pc, hpb, hpc, hcall⟩ := HPR.out 10 (by omega)
              simp only [gapS] at hpb hpc
              simp only [codeS] at hcall
              go_wp2_with fail
              try simp only [ba_append]
              refine hcall.mono ?_
              rintro e w9 ⟨hf9, rfl⟩
              have hF := hF2.callNo (hgW.callNo hf9)
              have b2 := HN.out.1.fr hf9 (fun x => x)
              have b3 := HN.out.2.fr hf9 (fun x => x)
              have R2 := Blk.all b2
              have R3 := Blk.all b3
              have l2 := b2.lt
              have l3 := b3.lt
              clear hcall hgW hf9 b2 b3 R1 l1
              have hw1 : IntKind.i64.wrap ((X.length : Int) + 12) = (X.length : Int) + 12 := by rw [IntKind.wrap_i64]; omega
              have hw3 : IntKind.i64.wrap (X.length : Int) = (X.length : Int) := by rw [IntKind.wrap_i64]; omega
              by_cases hgt : x.length < 12
              · have hgd : decide ((x.length : Int) < 12) = true := by rw [decide_eq_true_iff]; omega
                go_upto_region 27 with (fail)
                go_quiet (fail)
                go_wp2_with fail
                go_ret
                exact ⟨rfl, (hF.alloc _).drewN _⟩
              · have hgd : decide ((x.length : Int) < 12) = false := by rw [decide_eq_false_iff_not]; omega
                go_upto_region 27 with (fail)
                go_quiet (fail)
                go_wp2_with fail
                go_ret
                exact ⟨rfl, (hF.alloc _).drewN _⟩
            · obtain ⟨pb, pg, pc, hpb, hpc, hcall⟩ := HPR.out 11 (by omega)
              simp only [gapS] at hpb hpc
              simp only [codeS] at hcall
              go_wp2_with fail
              try simp only [ba_append]
              refine hcall.mono ?_
              rintro e w9 ⟨hf9, rfl⟩
              have hF := hF2.callNo (hgW.callNo hf9)
              have b2 := HN.out.1.fr hf9 (fun x => x)
              have b3 := HN.out.2.fr hf9 (fun x => x)
              have R2 := Blk.all b2
              have R3 := Blk.all b3
              have l2 := b2.lt
              have l3 := b3.lt
              clear hcall hgW hf9 b2 b3 R1 l1
              have hw1 : IntKind.i64.wrap ((X.length : Int) + 7) = (X.length : Int) + 7 := by rw [IntKind.wrap_i64]; omega
              have hw3 : IntKind.i64.wrap (X.length : Int) = (X.length : Int) := by rw [IntKind.wrap_i64]; omega
              by_cases hgt : x.length < 7
              · have hgd : decide ((x.length : Int) < 7) = true := by rw [decide_eq_true_iff]; omega
                go_upto_region 27 with (fail)
                go_quiet (fail)
                go_wp2_with fail
                go_ret
                exact ⟨rfl, (hF.alloc _).drewN _⟩
              · have hgd : decide ((x.length : Int) < 7) = false := by rw [decide_eq_false_iff_not]; omega
                go_upto_region 27 with (fail)
                go_quiet (fail)
                go_wp2_with fail
                go_ret
                exact ⟨rfl, (hF.alloc _).drewN _⟩
            · obtain ⟨pb, pg, pc, hpb, hpc, hcall⟩ := HPR.out 12 (by omega)
              simp only [gapS] at hpb hpc
              simp only [codeS] at hcall
              go_wp2_with fail
              try simp only [ba_append]
              refine hcall.mono ?_
              rintro e w9 ⟨hf9, rfl⟩
              have hF := hF2.callNo (hgW.callNo hf9)
              have b2 := HN.out.1.fr hf9 (fun x => x)
              have b3 := HN.out.2.fr hf9 (fun x => x)
              have R2 := Blk.all b2
              have R3 := Blk.all b3
              have l2 := b2.lt
              have l3 := b3.lt
              clear hcall hgW hf9 b2 b3 R1 l1
              have hw1 : IntKind.i64.wrap ((X.length : Int) + 0) = (X.length : Int) + 0 := by rw [IntKind.wrap_i64]; omega
              have hw3 : IntKind.i64.wrap (X.length : Int) = (X.length : Int) := by rw [IntKind.wrap_i64]; omega
              have hgd : decide ((x.length : Int) < 0) = false := by rw [decide_eq_false_iff_not]; omega
              go_upto_region 27 with (fail)
              go_quiet (fail)
              go_wp2_with fail
              go_ret
              exact ⟨rfl, (hF.alloc _).drewN _⟩
            · obtain ⟨pb, pg, pc, hpb, hpc, hcall⟩ := HPR.out 13 (by omega)
              simp only [gapS] at hpb hpc
              simp only [codeS] at hcall
              go_wp2_with fail
              try simp only [ba_append]
              refine hcall.mono ?_
              rintro e w9 ⟨hf9, rfl⟩
              have hF := hF2.callNo (hgW.callNo hf9)
              have b2 := HN.out.1.fr hf9 (fun x => x)
              have b3 := HN.out.2.fr hf9 (fun x => x)
              have R2 := Blk.all b2
              have R3 := Blk.all b3
              have l2 := b2.lt
              have l3 := b3.lt
              clear hcall hgW hf9 b2 b3 R1 l1
              have hw1 : IntKind.i64.wrap ((X.length : Int) + 5) = (X.length : Int) + 5 := by rw [IntKind.wrap_i64]; omega
              have hw3 : IntKind.i64.wrap (X.length : Int) = (X.length : Int) := by rw [IntKind.wrap_i64]; omega
              by_cases hgt : x.length < 5
              · have hgd : decide ((x.length : Int) < 5) = true := by rw [decide_eq_true_iff]; omega
                go_upto_region 27 with (fail)
                go_quiet (fail)
                go_wp2_with fail
                go_ret
                exact ⟨rfl, (hF.alloc _).drewN _⟩
              · have hgd : decide ((x.length : Int) < 5) = false := by rw [decide_eq_false_iff_not]; omega
                go_upto_region 27 with (fail)
                go_quiet (fail)
                go_wp2_with fail
                go_ret
                exact ⟨rfl, (hF.alloc _).drewN _⟩
            · obtain ⟨pb, pg, pc, hpb, hpc, hcall⟩ := HPR.out 14 (by omega)
              simp only [gapS] at hpb hpc
              simp only [codeS] at hcall
              go_wp2_with fail
              try simp only [ba_append]
              refine hcall.mono ?_
              rintro e w9 ⟨hf9, rfl⟩
              have hF := hF2.callNo (hgW.callNo hf9)
              have b2 := HN.out.1.fr hf9 (fun x => x)
              have b3 := HN.out.2.fr hf9 (fun x => x)
              have R2 := Blk.all b2
              have R3 := Blk.all b3
              have l2 := b2.lt
              have l3 := b3.lt
              clear hcall hgW hf9 b2 b3 R1 l1
              have hw1 : IntKind.i64.wrap ((X.length : Int) + 6) = (X.length : Int) + 6 := by rw [IntKind.wrap_i64]; omega
              have hw3 : IntKind.i64.wrap (X.length : Int) = (X.length : Int) := by rw [IntKind.wrap_i64]; omega
              by_cases hgt : x.length < 6
              · have hgd : decide ((x.length : Int) < 6) = true := by rw [decide_eq_true_iff]; omega
                go_upto_region 27 with (fail)
                go_quiet (fail)
                go_wp2_with fail
                go_ret
                exact ⟨rfl, (hF.alloc _).drewN _⟩
              · have hgd : decide ((x.length : Int) < 6) = false := by rw [decide_eq_false_iff_not]; omega
                go_upto_region 27 with (fail)
                go_quiet (fail)
                go_wp2_with fail
                go_ret
                exact ⟨rfl, (hF.alloc _).drewN _⟩
            · obtain ⟨pb, pg, pc, hpb, hpc, hcall⟩ := HPR.out 15 (by omega)
              simp only [gapS] at hpb hpc
              simp only [codeS] at hcall
              go_wp2_with fail
              try simp only [ba_append]
              refine hcall.mono ?_
              rintro e w9 ⟨hf9, rfl⟩
              have hF := hF2.callNo (hgW.callNo hf9)
              have b2 := HN.out.1.fr hf9 (fun x => x)
              have b3 := HN.out.2.fr hf9 (fun x => x)
              have R2 := Blk.all b2
              have R3 := Blk.all b3
              have l2 := b2.lt
              have l3 := b3.lt
              clear hcall hgW hf9 b2 b3 R1 l1
              have hgd : decide ((x.length : Int) < (x.length : Int) + 8) = true := by rw [decide_eq_true_iff]; omega
              have hw1 : IntKind.i64.wrap ((X.length : Int) + ((x.length : Int) + 8)) = (X.length : Int) + ((x.length : Int) + 8) := by rw [IntKind.wrap_i64]; omega
              have hw2 : IntKind.i64.wrap ((cs.length : Int) + 8 + 1) = (cs.length : Int) + 8 + 1 := by rw [IntKind.wrap_i64]; omega
              go_upto_region 27 with (fail)
              rw [show ((x.length : Int) + 8 - ((x.length : Int) - (cs.length : Int))) = (cs.length : Int) + 8 by omega]
              go_quiet (fail)
              go_wp2_with fail
              go_ret
              exact ⟨rfl, (hF.alloc _).drewN _⟩
    · have hd1 : decide ((3796 : Int) < (X.length : Int)) = true := by rw [decide_eq_true_iff]; omega
      have hF := hF2.callNo hg3
      go_wp2_with fail
      go_ret
      exact ⟨rfl, hF⟩
end Go.Proofs.YtjmjdmmojgmcdaaDoor
