/- The walk of GlyphCodes. -/
import Derived.Test.YtklhfbgmadblcaaDoorG2
import Derived.Deep.DeepCutAuto
import Derived.Deep.CutBlock
import Derived.Deep.DeepCutAuto
namespace Go.Proofs.YtklhfbgmadblcaaDoor
open Go.RowKit
set_option linter.unusedVariables false
set_option linter.unusedSimpArgs false
attribute [local go_sem ↓] Go.wp_at_zero Go.wp_at_succ

theorem code_mod (x : Int) : ∃ m : Nat, bits .and .i64 x 4611686018427387903 = (m : Int) ∧ m ≤ 4611686018427387903 ∧ codeOf x = m % 1114112 := by
  obtain ⟨m, h1, h2⟩ := and_mask x
  exact ⟨m, h1, h2, by unfold codeOf; rw [h1]; rfl⟩

theorem one_contract {F : List UInt8} {s : ByteArray} {p : Pl} (hsl : s.data.toList = F) (hb : p.b ≤ s.size) (h4 : s.size ≤ 4000) (h : glyS (F.take p.b ++ [255] ++ F.drop p.b) = .bad 40 p) :
    ∀ w, Tb w → Calls Tryd.prog 25 #[.string (s.extract 0 p.b ++ (⟨#[255]⟩ : ByteArray) ++ s.extract p.b s.size)] w (GlyGot w (.bad 40 p)) := by
  intro w hT
  have e1 : (s.extract 0 p.b).data.toList = s.data.toList.take p.b := by rw [Lib.extract_data]; simp
  have e2 : (s.extract p.b s.size).data.toList = s.data.toList.drop p.b := by
    rw [Lib.extract_data, List.take_of_length_le (by rw [List.length_drop, ← Lib.size_eq]; exact Nat.le_refl _)]
  have e : (s.extract 0 p.b ++ (⟨#[255]⟩ : ByteArray) ++ s.extract p.b s.size).data.toList = F.take p.b ++ [255] ++ F.drop p.b := by
    simp only [ByteArray.data_append, Array.toList_append, e1, e2, hsl]
  have hz := Lib.size_eq (s.extract 0 p.b ++ (⟨#[255]⟩ : ByteArray) ++ s.extract p.b s.size)
  rw [e] at hz
  have hF : F.length = s.size := by rw [Lib.size_eq, hsl]
  simp only [List.length_append, List.length_take, List.length_drop, List.length_cons, List.length_nil] at hz
  have := Glyphs_any _ w hT (show (s.extract 0 p.b ++ (⟨#[255]⟩ : ByteArray) ++ s.extract p.b s.size).size ≤ maxLen by unfold maxLen; omega)
  rw [e, h] at this
  exact this
theorem two_contract {F : List UInt8} {s : ByteArray} {p : Pl} {n : Nat} (hsl : s.data.toList = F) (hb : p.b + n ≤ s.size) (h4 : s.size ≤ 4000) (h : glyS (F.take (p.b + n - 1) ++ F.drop (p.b + n)) = .bad 40 p) :
    ∀ w, Tb w → Calls Tryd.prog 25 #[.string (s.extract 0 (p.b + n - 1) ++ s.extract (p.b + n) s.size)] w (GlyGot w (.bad 40 p)) := by
  intro w hT
  have e1 : (s.extract 0 (p.b + n - 1)).data.toList = s.data.toList.take (p.b + n - 1) := by rw [Lib.extract_data]; simp
  have e2 : (s.extract (p.b + n) s.size).data.toList = s.data.toList.drop (p.b + n) := by
    rw [Lib.extract_data, List.take_of_length_le (by rw [List.length_drop, ← Lib.size_eq]; exact Nat.le_refl _)]
  have e : (s.extract 0 (p.b + n - 1) ++ s.extract (p.b + n) s.size).data.toList = F.take (p.b + n - 1) ++ F.drop (p.b + n) := by
    simp only [ByteArray.data_append, Array.toList_append, e1, e2, hsl]
  have hz := Lib.size_eq (s.extract 0 (p.b + n - 1) ++ s.extract (p.b + n) s.size)
  rw [e] at hz
  have hF : F.length = s.size := by rw [Lib.size_eq, hsl]
  simp only [List.length_append, List.length_take, List.length_drop, List.length_cons, List.length_nil] at hz
  have := Glyphs_any _ w hT (show (s.extract 0 (p.b + n - 1) ++ s.extract (p.b + n) s.size).size ≤ maxLen by unfold maxLen; omega)
  rw [e, h] at this
  exact this

set_option maxRecDepth 100000 in
set_option maxHeartbeats 8000000 in
theorem law_codes (v : Value) (z : List Int) (n : Int) (w : World) (hv : IsInts w v z) (hT : Tb w) : Calls Tryd.prog 8 #[v, .int .i64 n] w fun e w' => e = .returned (.bool true) ∧ Fr No w w' := by
  obtain ⟨a, cap, rfl, hzm, hz⟩ := hv
  unfold maxLen at hzm
  obtain ⟨i0, hi, hz0, hz1, hz2⟩ := info_parts info_int
  go_enter Tryd.func8, Tryd.ntmps8
  go_wp2_with fail
  refine (awake_calls w hT).mono ?_
  rintro e w1 ⟨rfl, hf⟩
  go_upto_block 0 with (fail)


  go_cut [5, 6] (fun s5 s6 wx => ∃ (cs : List Nat) (a1 : Option Addr) (c1 : Nat), s5 = .string ⟨(cs.flatMap enc).toArray⟩ ∧ s6 = .slice a1 cs.length c1 ∧ cs.length ≤ 1000 ∧ (∀ c ∈ cs, okc c = true) ∧ wx.ownsRow w.heap.size 3 1 (.slice a1 cs.length c1) cs.length (i64s cs) ∧ Fr No w wx)
  case first =>
    go_wp2_with fail
    go_loopw [5, 6, 7] (fun sv wv i wr => ∃ (k : Nat) (a1 : Option Addr) (c1 : Nat), k ≤ z.length ∧ k ≤ 1000 ∧ i = .int .i64 k ∧ sv = .string ⟨((kept (z.take k)).flatMap enc).toArray⟩ ∧ wv = .slice a1 (kept (z.take k)).length c1 ∧
      wr.ownsRow w.heap.size 3 1 (.slice a1 (kept (z.take k)).length c1) (kept (z.take k)).length (i64s (kept (z.take k))) ∧ Fr No w wr) (fun _ _ i _ => 1000 - (intOf i).toNat)
    case atStart => exact ⟨0, none, 0, by omega, by omega, rfl, rfl, rfl, World.ownsRow_nil _ _ _ _, hf⟩
    case round =>
      obtain ⟨k, a1, c1, hk, hk1, rfl, rfl, rfl, ho, hfr⟩ := hrel
      clear hf
      by_cases hlt : k < z.length ∧ k < 1000
      · obtain ⟨hlt, hlt1⟩ := hlt
        obtain ⟨b, off, rfl, hc⟩ := hz (by omega)
        obtain ⟨x, hx⟩ : ∃ x, z[k]? = some x := ⟨z[k], List.getElem?_eq_getElem hlt⟩
        have hcell := hfr.cell (hc k x hx)
        obtain ⟨m, hm1, hm2, hm3⟩ := code_mod x
        have hkl := kept_len (z.take k)
        have htl : (z.take k).length = k := by rw [List.length_take]; omega
        rw [htl] at hkl
        have hks := kept_snoc (z.take k) x
        rw [show z.take k ++ [x] = z.take (k + 1) by rw [List.take_add_one, hx]; rfl] at hks
        have h4 := flat_len4 (kept (z.take k))
        have hcm : codeOf x < 1114112 := by rw [hm3]; exact Nat.mod_lt _ (by omega)
        have hoc := okc_code hcm
        have HKS := Lib.hid hks
        have HX := Lib.hid (And.intro hx (And.intro htl hc))
        clear hks hx htl hc hz
        rw [hm3] at hoc HKS hcm
        obtain ⟨c, hcc⟩ : ∃ c, m % 1114112 = c := ⟨_, rfl⟩
        rw [hcc] at hoc HKS hcm
        obtain ⟨ci, hci⟩ : ∃ ci : Int, (c : Int) = ci := ⟨_, rfl⟩
        have hmt : (m : Int).tmod 1114112 = ci := by rw [← hci, ← hcc]; rfl
        have hme : (m : Int) % 1114112 = ci := by rw [← hci, ← hcc]; rfl
        have HCC := Lib.hid (And.intro hcc (And.intro hm3 (And.intro hcm (And.intro hm2 hci))))
        clear hcc hm3 hcm hm2
        have i0' : (0 : Int) ≤ (k : Int) := by omega
        have i1' : (k : Int) < (z.length : Int) := by omega
        cases hok : okc c with
        | true =>
          rw [hok] at hoc HKS
          have hn : c < 55296 ∨ 57343 < c := by simpa using hoc.symm
          have hB : ∀ w, Calls Tryd.prog 26 #[.int .i64 ci] w fun e w' => e = .returned (.string ⟨(enc c).toArray⟩) ∧ Fr No w w' := fun w => by rw [← hci]; exact bytes_calls hok w
          have HB := Lib.hid hB
          have hel := enc_le c
          have HN := Lib.hid (And.intro hok hci)
          have hn' : ci < 55296 ∨ (¬ ci < 55296 ∧ 57343 < ci) := by omega
          clear hok hn hoc hci hB
          have hfs := hfr.size
          have hkf : (kept (z.take (k + 1))).flatMap enc = (kept (z.take k)).flatMap enc ++ enc c := by rw [HKS.out]; simp
          generalize hF : (kept (z.take k)).flatMap enc = F at *
          generalize hE : enc c = Ec at *
          have HKF := Lib.hid (And.intro hkf (And.intro hF hE))
          clear hkf hF hE
          rcases hn' with n1 | ⟨n1, n2⟩
          all_goals
            go_wp2_with fail
            refine (HB.out _).mono ?_
            rintro e w2 ⟨rfl, hf2⟩
            have ho2 := own_fr ho hf2 (fun _ _ x => x)
            have hfr2 := hfr.callNo hf2
            have hs2 := hfr2.size
            go_wp2_with ((at_builtin; refine wpList_append_own _ rfl _ _ 47 rfl w.heap.size 3 i0 (.int .i64 0) 1 8 Tryd.underlying47 hi hz0 hz1 hz2 rfl (by decide) _ _ _ rfl (ho2.alloc _) ⟨w2.heap.size, 0, none⟩ 1 1 [.int .i64 ci] rfl rfl ?c1 ?c2 ?c3 ?c4 ?c5 ?_; (case c1 => exact new_one w2 (.int .i64 ci) _); (case c2 => exact one_cell rfl); (case c3 => (unfold maxLen; omega)); (case c4 => omega); (case c5 => (simp; omega)); intro v6 w6 hown6 hgr6 _; have f6 := (hfr2.alloc (.cells #[.int .i64 ci] 3)).grown hgr6 (fun k hk hlt => by have := (ho2.lt _ hk).1; omega)))
            obtain ⟨a6, c6, rfl⟩ := own_form hown6
            have hkk : (kept (z.take (k + 1))).length = (kept (z.take k)).length + 1 := by rw [HKS.out]; simp
            have hki : i64s (kept (z.take (k + 1))) = i64s (kept (z.take k)) ++ [.int .i64 ci] := by rw [HKS.out, ← HN.out.2]; simp [i64s]
            go_roundw
            case rel =>
              refine ⟨k + 1, a6, c6, by omega, by omega, by go_num, ?_, ?_, ?_, f6⟩
              · rw [HKF.out.1]
                refine congrArg Value.string ?_
                apply ByteArray.ext
                simp
              · rw [hkk]
              · rw [hkk, hki]; exact hown6
            case measure => simp [intOf]; omega
        | false =>
          rw [hok] at hoc
          have hn : ¬ (c < 55296 ∨ 57343 < c) := by simpa using hoc.symm
          have n1 : 55296 ≤ ci := by omega
          have n2 : ci ≤ 57343 := by omega
          have HN := Lib.hid (And.intro hok hn)
          clear hok hn hoc hci
          go_wp2
          go_roundw
          case rel =>
            refine ⟨k + 1, a1, c1, by omega, by omega, by go_num, ?_, ?_, ?_, hfr⟩
            all_goals rw [HKS.out, HN.out.1]; simp
            exact ho
          case measure => simp [intOf]; omega
      · have hkl : (kept (z.take k)).length ≤ 1000 := by have := kept_len (z.take k); have := List.length_take_le k z; omega
        have hok := kept_ok (z.take k)
        have ht : k < z.length → k = 1000 := by omega
        generalize kept (z.take k) = cs at *
        have HREL := Lib.hid (show ∃ (cs' : List Nat) (a1' : Option Addr) (c1' : Nat), Value.string ⟨(cs.flatMap enc).toArray⟩ = .string ⟨(cs'.flatMap enc).toArray⟩ ∧ Value.slice a1 cs.length c1 = .slice a1' cs'.length c1' ∧ cs'.length ≤ 1000 ∧ (∀ c ∈ cs', okc c = true) ∧ wr.ownsRow w.heap.size 3 1 (.slice a1' cs'.length c1') cs'.length (i64s cs') ∧ Fr No w wr from ⟨cs, a1, c1, rfl, rfl, hkl, hok, ho, hfr⟩)
        clear hkl hok hz ho hfr
        have hcase : (k < z.length ∧ 1000 ≤ k) ∨ z.length ≤ k := by omega
        clear ht hlt
        rcases hcase with ⟨hk2, hk3⟩ | hk2
        all_goals
          go_wp2_with fail
          go_meet
          exact HREL.out
  case rest =>
    obtain ⟨cs, a1, c1, rfl, rfl, hkl, hok, ho, hfr⟩ := hcut
    have h4 := flat_len4 cs
    have hgs := glyS_whole hok hkl
    have hT1 := hT.no hfr
    have HOK := Lib.hid (And.intro hok hgs)
    clear hok hgs hz
    obtain ⟨F, hF⟩ : ∃ F, cs.flatMap enc = F := ⟨_, rfl⟩
    rw [hF] at h4 ⊢
    have hFs : (⟨F.toArray⟩ : ByteArray).size = F.length := by rw [Lib.size_eq]
    have hmx : (⟨F.toArray⟩ : ByteArray).size ≤ maxLen := by rw [hFs]; unfold maxLen; omega
    have HF := Lib.hid (And.intro hF hFs)
    clear hF hFs
    have hgl := glys_len start cs
    have HGL := Lib.hid hgl
    clear hgl
    have hfr0 := hfr.size
    go_wp2_with fail
    refine (Glyphs_any _ _ hT1 hmx).mono ?_
    rw [show (⟨F.toArray⟩ : ByteArray).data.toList = F from rfl, ← HF.out.1, HOK.out.2, HF.out.1]
    rintro e w2 ⟨a2, c2, rfl, ho2, hf2⟩
    simp only [GRes.gl, GRes.code, GRes.pl, plA] at ho2 ⊢
    rw [HGL.out] at ho2 ⊢
    have ho3 := own_fr ho hf2 (fun _ _ x => x)
    have hf3 := hfr.callNo hf2
    have ho4 := ho2.alloc (plO zeroPl)
    have ho5 := ho3.alloc (plO zeroPl)
    have hf4 := hf3.alloc (plO zeroPl)
    clear ho hfr hT1 ho2 ho3 hf3 hf2
    go_wp2_with fail
    go_loopw [12] (fun i wq => ∃ j : Nat, j ≤ cs.length ∧ i = .int .i64 j ∧ wq.ownsRow wc.heap.size 45 6 (.slice a2 cs.length c2) cs.length (glysV (glys start cs)) ∧ wq.ownsRow w.heap.size 3 1 (.slice a1 cs.length c1) cs.length (i64s cs) ∧ Fr No w wq) (fun i _ => cs.length - (intOf i).toNat)
    case atStart => exact ⟨0, by omega, rfl, ho4, ho5, hf4⟩
    case round =>
      obtain ⟨j, hj, rfl, hog, how, hfq⟩ := hrel
      clear ho4 ho5 hf4
      by_cases hjl : j < cs.length
      · rcases own_cases hog with ⟨_, hn0, _⟩ | ⟨g, d, hs1, hgB, hgl, _⟩
        · omega
        rcases own_cases how with ⟨_, hn0, _⟩ | ⟨g2, d2, hs2, hgB2, hgl2, _⟩
        · omega
        simp only [Value.slice.injEq] at hs1 hs2
        obtain ⟨rfl, _, rfl⟩ := hs1
        obtain ⟨rfl, _, rfl⟩ := hs2
        obtain ⟨y, hy⟩ : ∃ y, (glys start cs)[j]? = some y := ⟨_, List.getElem?_eq_getElem (by rw [HGL.out]; exact hjl)⟩
        obtain ⟨x, hx, hyc, hya⟩ := glys_get cs start j y hy
        have p0 := (gly_at hog rfl hy).k
        rw [hyc] at p0
        have q0 := own_cell how (i64s_get hx)
        clear hy hyc hya hx
        have i0' : (0 : Int) ≤ (j : Int) := by omega
        have i1' : (j : Int) < (cs.length : Int) := by omega
        go_wp2_with fail
        go_region_held3 (fun w' => w'.cell? ⟨g, j * 6, none⟩ = some (.int .i64 x) ∧ w'.cell? ⟨g2, j, none⟩ = some (.int .i64 x)) (go_keep) (fail)
        go_wp2
        go_roundw
        case rel => exact ⟨j + 1, by omega, by go_num, hog, how, hfq.drew⟩
        case measure => simp [intOf]; omega
      · obtain rfl : j = cs.length := by omega
        by_cases h0 : cs.length = 0
        · have hz0' : ((cs.length : Int) == 0) = true := by rw [h0]; rfl
          go_wp2
          go_ret
          exact ⟨rfl, hfq⟩
        · have hz0' : ((cs.length : Int) == 0) = false := by rw [beq_eq_false_iff_ne]; omega
          obtain ⟨m, hm1, hm2⟩ := and_mask n
          have hq : m % cs.length < cs.length := Nat.mod_lt _ (by omega)
          have hpos : 0 < cs.length := by omega
          rcases own_cases hog with ⟨_, hn0, _⟩ | ⟨g, d, hs1, hgB, hgl, _⟩
          · omega
          rcases own_cases how with ⟨_, hn0, _⟩ | ⟨g2, d2, hs2, hgB2, hgl2, _⟩
          · omega
          simp only [Value.slice.injEq] at hs1 hs2
          obtain ⟨rfl, _, rfl⟩ := hs1
          obtain ⟨rfl, _, rfl⟩ := hs2
          obtain ⟨y, hy⟩ : ∃ y, (glys start cs)[m % cs.length]? = some y := ⟨_, List.getElem?_eq_getElem (by rw [HGL.out]; exact hq)⟩
          obtain ⟨x, hx, hyc, hya⟩ := glys_get cs start _ y hy
          obtain ⟨p0, p1, p2, p3, p4, p5⟩ := gly_at hog rfl hy
          rw [hya] at p2 p3 p4 p5
          have c1 := codes_one HOK.out.1 hkl (m % cs.length)
          have c2 := fun h => codes_two HOK.out.1 hkl hx h
          have q0 := own_cell how (i64s_get hx)
          have hxo := HOK.out.1 x (List.mem_of_getElem? hx)
          have hb1 := back_split hx
          have hb2 := along_b start (cs.take (m % cs.length))
          rw [HF.out.1] at c1 c2 hb1
          generalize along start (cs.take (m % cs.length)) = p at *
          have hpb : p.b + (enc x).length ≤ F.length := by
            have := congrArg List.length hb1
            have h0 : start.b = 0 := rfl
            simp only [List.length_append] at this
            omega
          have HC := Lib.hid (And.intro c1 (And.intro c2 (And.intro hx hxo)))
          clear c1 c2 hx hyc hya hy hb1 hb2 p0 p1 h0 hxo
          obtain ⟨s, hs⟩ : ∃ s : ByteArray, (⟨F.toArray⟩ : ByteArray) = s := ⟨_, rfl⟩
          rw [hs] at hmx ⊢
          have hsl : s.data.toList = F := by rw [← hs]
          have hsz : s.size = F.length := by rw [Lib.size_eq, hsl]
          have hb0 : p.b ≤ s.size := by omega
          have h4s : s.size ≤ 4000 := by omega
          have HG1 := Lib.hid (one_contract (F := F) hsl hb0 h4s HC.out.1)
          have HS := Lib.hid (And.intro hs (And.intro hsl hsz))
          clear hs hsl
          have hb0' : (p.b : Int) ≤ (s.size : Int) := by omega
          have hb0'' : (0 : Int) ≤ (p.b : Int) := by omega
          go_upto_region 24 with (fail)
          obtain ⟨W0, bb, hE, hbb, hbk, hf0, hlt0⟩ : ∃ W0 bb, wr.alloc (.cells #[.int .i64 p.b, .int .i64 p.g, .int .i64 p.l, .int .i64 p.c] 27) = W0 ∧ wr.heap.size = bb ∧ Blk W0 bb (plO p) ∧ Fr No wr W0 ∧ bb < W0.heap.size := ⟨_, _, rfl, rfl, Blk.new wr (plO p), (Fr.refl No wr).alloc _, by show _ < (wr.heap.push _).size; simp⟩
          have hw0 := hfq.callNo hf0
          have hT2 : Tb W0 := hT.no hw0
          have q0' := hf0.cell q0
          have hg2 : g2 < W0.heap.size := Nat.lt_of_lt_of_le hgl2 hf0.size
          rw [hE, hbb]
          have hcc0 : W0.drew.cell? ⟨bb, 0, none⟩ = some (.int .i64 p.b) := hbk.cell 0 _ rfl
          have hcc1 : W0.cell? ⟨bb, 0, none⟩ = some (.int .i64 p.b) := hbk.cell 0 _ rfl
          have HB0 := Lib.hid (And.intro hbk (And.intro hw0 hT2))
          clear hE hbb hbk hw0 hf0 hfq q0 p2 p3 p4 p5 hog how hgB hgl hgB2 hgl2
          clear hsz
          have hT3 : Tb W0.drew := hT2.no ((Fr.refl No W0).drew)
          have hT4 : ∀ o, Tb (W0.drew.alloc o) := fun o => hT2.no (((Fr.refl No W0).drew).alloc o)
          have hne1 : W0.heap.size ≠ bb := by omega
          have hne2 : bb ≠ W0.heap.size := by omega
          clear hT2
          go_cut [10, 16] (fun s10 s16 wx => ∃ g', bb ≠ g' ∧ W0.heap.size ≤ g' ∧ s10 = .int .i64 40 ∧ s16 = .pointer (some ⟨g', 0, none⟩) ∧ Blk wx g' (plO p) ∧ Fr No W0 wx)
          case first =>
            have hcat1 : (9223372036854775807 < p.b + 1) = False := eq_false (by omega)
            have hcat2 : (9223372036854775807 < p.b + 1 + (s.size - p.b)) = False := eq_false (by omega)
            go_region_held3 (fun w' => w'.cell? ⟨bb, 0, none⟩ = some (.int .i64 p.b)) (first | exact hcc0 | exact hccG | go_keep) (first | (go_at_call 25; refine (HG1.out _ (by first | exact hT3 | exact hT4 _)).mono ?_; rintro e w' ⟨aG, cG, rfl, hoG, hfG⟩; have hccG := Fr.cell hfG (by assumption); (first | have hfzG : ∀ i, w'.frozen? ⟨W0.heap.size, i, none⟩ = false := Blk.frees (Blk.fr (Blk.new W0.drew _) hfG (fun x => x)) | skip); (first | have hclG : ∀ i, w'.cell? ⟨W0.heap.size, i, none⟩ = (#[Value.int .i64 0, .int .i64 0, .int .i64 0, .int .i64 0] : Array Value)[i]? := Blk.all (Blk.fr (Blk.new W0.drew (plO zeroPl)) hfG (fun x => x)) | skip); have hszG := hfG.size; have hneG1 : w'.heap.size ≠ bb := (by simp at hszG; omega); have hneG2 : bb ≠ w'.heap.size := hneG1.symm; simp only [GRes.gl, GRes.code, GRes.pl, plA]))
            all_goals go_wp2_with fail
            all_goals go_meet
            all_goals first
              | exact ⟨_, hneG2, by simpa using hszG, rfl, rfl, Blk.new _ (plO p), ((Fr.refl No W0).drew.callNo hfG).alloc _⟩
              | exact ⟨W0.heap.size, hne2, Nat.le_refl _, rfl, rfl, (((((Blk.fr (Blk.new W0.drew (plO zeroPl)) hfG (fun x => x)).setOff 0 _).setOff 1 _).setOff 2 _).setOff 3 _).cast (by simp [plO]), ((((((Fr.refl No W0).drew.alloc _).callNo hfG).setCell _ (fun h => absurd h (Nat.lt_irrefl _))).setCell _ (fun h => absurd h (Nat.lt_irrefl _))).setCell _ (fun h => absurd h (Nat.lt_irrefl _))).setCell _ (fun h => absurd h (Nat.lt_irrefl _))⟩
          case rest =>
            obtain ⟨g', hbg0, hgw0, rfl, rfl, hbg, hfg⟩ := hcut
            have hgw : w.heap.size ≤ g' := Nat.le_trans HB0.out.2.1.size hgw0
            have hb0 := HB0.out.1.fr hfg (fun x => x)
            have hw0 := HB0.out.2.1.callNo hfg
            have hT5 := HB0.out.2.2.no hfg
            have R := Blk.all hb0
            have R' := Blk.all hbg
            have q1 := hfg.cell q0'
            have hbl := hb0.lt
            go_wp2_with fail
            refine (place_same p _).mono ?_
            rintro e w5 ⟨rfl, hf5⟩
            have q2 := hf5.cell q1
            have kb := hb0.fr hf5 (fun x => x)
            have kg := hbg.fr hf5 (fun x => x)
            have kf := hw0.callNo hf5
            have kT := hT5.no hf5
            have hxo : okc x = true := HC.out.2.2.2
            have HK := Lib.hid (And.intro kb (And.intro kg (And.intro kf kT)))
            clear q1 R R' hb0 hbg hw0 hT5 hfg hf5 hbl kb kg kf kT
            go_wp2_with fail
            refine (bytes_calls hxo _).mono ?_
            rintro e w6 ⟨rfl, hf6⟩
            have kb := HK.out.1.fr hf6 (fun x => x)
            have kg := HK.out.2.1.fr hf6 (fun x => x)
            have kf := HK.out.2.2.1.callNo hf6
            have kT := HK.out.2.2.2.no hf6
            have hel := enc_le x
            obtain ⟨n', hn'⟩ : ∃ n', (enc x).length = n' := ⟨_, rfl⟩
            obtain ⟨Bs, hB⟩ : ∃ Bs : ByteArray, (⟨(enc x).toArray⟩ : ByteArray) = Bs := ⟨_, rfl⟩
            have hBn : Bs.size = n' := by rw [← hB, ← hn', Lib.size_eq]
            rw [hB]
            rw [hn'] at hel hpb
            have HN := Lib.hid (And.intro hn' hB)
            clear hn' hB q2 hf6 hxo HK
            by_cases h1 : n' = 1
            · have h1' : ((n' : Int) == 1) = true := by rw [h1]; rfl
              clear h1 hel
              go_wp2_with fail
              go_ret
              exact ⟨rfl, kf⟩
            · have h1' : ((n' : Int) == 1) = false := by rw [beq_eq_false_iff_ne]; omega
              have h2 : 2 ≤ n' := by have := enc_pos x; rw [HN.out.1] at this; omega
              have c2 := HC.out.2.1 (by rw [HN.out.1]; exact h2)
              rw [HN.out.1] at c2
              have HG2 := Lib.hid (two_contract (F := F) HS.out.2.1 (show p.b + n' ≤ s.size by rw [HS.out.2.2]; exact hpb) h4s c2)
              obtain ⟨r, hr⟩ : ∃ r, p.b + n' = r := ⟨_, rfl⟩
              obtain ⟨q, hq'⟩ : ∃ q, r - 1 = q := ⟨_, rfl⟩
              rw [hr, hq'] at HG2
              have hrs : (r : Int) ≤ (s.size : Int) := by have := HS.out.2.2; omega
              have hqs : (q : Int) ≤ (s.size : Int) := by omega
              have hr0 : (0 : Int) ≤ (r : Int) := by omega
              have hq0 : (0 : Int) ≤ (q : Int) := by omega
              have hsum : IntKind.i64.wrap ((p.b : Int) + (n' : Int)) = (r : Int) := by rw [IntWalk.i64_in _ (by omega)]; omega
              have hdif : IntKind.i64.wrap ((r : Int) - 1) = (q : Int) := by rw [IntWalk.i64_in _ (by omega)]; omega
              have hcc0 : w6.drew.cell? ⟨bb, 0, none⟩ = some (.int .i64 p.b) := kb.cell 0 _ rfl
              have hcc1 : w6.cell? ⟨bb, 0, none⟩ = some (.int .i64 p.b) := kb.cell 0 _ rfl
              have hT6 : Tb w6.drew := kT.no ((Fr.refl No w6).drew)
              have hbg1 := hbg0.symm
              have hcat : (9223372036854775807 < min q s.size + (s.size - r)) = False := eq_false (by omega)
              have HK := Lib.hid (And.intro kb (And.intro kg kf))
              clear kb kg kf kT c2 h2 hr hq' hel hpb hb0 h4s h4 hmx hkl
              go_wp2_with fail
              go_region_held3 (fun w' => w'.cell? ⟨bb, 0, none⟩ = some (.int .i64 p.b)) (first | exact hcc0 | exact hccG | go_keep) (first | (go_at_call 25; refine (HG2.out _ hT6).mono ?_; rintro e w' ⟨aG, cG, rfl, hoG, hfG⟩; have hccG := Fr.cell hfG (by assumption); have hfzG : ∀ i, w'.frozen? ⟨g', i, none⟩ = false := Blk.frees (Blk.fr HK.out.2.1 ((Fr.refl No w6).drew.callNo hfG) (fun x => x)); have hclG : ∀ i, w'.cell? ⟨g', i, none⟩ = (#[Value.int .i64 p.b, .int .i64 p.g, .int .i64 p.l, .int .i64 p.c] : Array Value)[i]? := Blk.all (Blk.fr HK.out.2.1 ((Fr.refl No w6).drew.callNo hfG) (fun x => x)); simp only [GRes.gl, GRes.code, GRes.pl, plA]))
              all_goals have F6 : Fr No w6 w' := (Fr.refl No w6).drew.callNo hfG
              all_goals have kf : Fr No w ((((w'.setCell ⟨g', 0, none⟩ (.int .i64 p.b)).setCell ⟨g', 1, none⟩ (.int .i64 p.g)).setCell ⟨g', 2, none⟩ (.int .i64 p.l)).setCell ⟨g', 3, none⟩ (.int .i64 p.c)) := ((((HK.out.2.2.callNo F6).setCell _ (fun h => absurd h (Nat.not_lt.2 hgw))).setCell _ (fun h => absurd h (Nat.not_lt.2 hgw))).setCell _ (fun h => absurd h (Nat.not_lt.2 hgw))).setCell _ (fun h => absurd h (Nat.not_lt.2 hgw))
              all_goals have kg : Blk ((((w'.setCell ⟨g', 0, none⟩ (.int .i64 p.b)).setCell ⟨g', 1, none⟩ (.int .i64 p.g)).setCell ⟨g', 2, none⟩ (.int .i64 p.l)).setCell ⟨g', 3, none⟩ (.int .i64 p.c)) g' (plO p) := (((((HK.out.2.1.fr F6 (fun x => x)).setOff 0 _).setOff 1 _).setOff 2 _).setOff 3 _).cast (by simp [plO])
              all_goals have kb : Blk ((((w'.setCell ⟨g', 0, none⟩ (.int .i64 p.b)).setCell ⟨g', 1, none⟩ (.int .i64 p.g)).setCell ⟨g', 2, none⟩ (.int .i64 p.l)).setCell ⟨g', 3, none⟩ (.int .i64 p.c)) bb (plO p) := ((((HK.out.1.fr F6 (fun x => x)).set_ne ⟨g', 0, none⟩ _ hbg0).set_ne ⟨g', 1, none⟩ _ hbg0).set_ne ⟨g', 2, none⟩ _ hbg0).set_ne ⟨g', 3, none⟩ _ hbg0
              all_goals generalize ((((w'.setCell ⟨g', 0, none⟩ (.int .i64 p.b)).setCell ⟨g', 1, none⟩ (.int .i64 p.g)).setCell ⟨g', 2, none⟩ (.int .i64 p.l)).setCell ⟨g', 3, none⟩ (.int .i64 p.c)) = wz at *
              all_goals clear hcc0 hcc1 hcat hrs hqs hr0 hq0 hsum hdif hclG hfzG hccG hfG hoG F6
              all_goals have R := Blk.all kg
              all_goals have R' := Blk.all kb
              all_goals go_wp2_with fail
              all_goals refine (place_same p _).mono ?_
              all_goals rintro e w8 ⟨rfl, hf8⟩
              all_goals go_wp2_with fail
              all_goals go_ret
              all_goals exact ⟨rfl, kf.callNo hf8⟩
end Go.Proofs.YtklhfbgmadblcaaDoor
