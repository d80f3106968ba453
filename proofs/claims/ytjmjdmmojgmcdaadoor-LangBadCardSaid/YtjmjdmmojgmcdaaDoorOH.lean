/- Begins; rows that are the same: SameLimbs, SameWhole, SameTexts, sameBegins. -/
import Derived.Test.YtjmjdmmojgmcdaaDoorNP
import Derived.Test.YtjmjdmmojgmcdaaDoorOG
import Derived.StillTailTactics
namespace Go.Proofs.YtjmjdmmojgmcdaaDoor
open Go.RowKit
set_option linter.unusedVariables false
set_option linter.unusedSimpArgs false
attribute [local go_sem ↓] Go.wp_at_zero Go.wp_at_succ

set_option maxRecDepth 100000 in
set_option maxHeartbeats 2000000 in
theorem sameLimbs_calls {w : World} {B1 B2 : Nat} {a1 a2 : Option Addr} {c1 c2 : Nat} {l : List Nat} (h1 : w.ownsRow B1 159 1 (.slice a1 l.length c1) l.length (u32s l)) (h2 : w.ownsRow B2 159 1 (.slice a2 l.length c2) l.length (u32s l)) (hl : l.length ≤ 100000) :
    Calls Tryd.prog 72 #[.slice a1 l.length c1, .slice a2 l.length c2] w fun e w' => e = .returned (.bool true) ∧ Fr No w w' := by
  go_enter Tryd.func72, Tryd.ntmps72
  go_wp2_with fail
  go_loopg [5] l.length (fun gk x5 wr => ∃ i : Nat, gk = l.length - i ∧ i ≤ l.length ∧ x5 = .int .i64 i ∧ Fr No w wr)
  case atStart => exact ⟨0, rfl, Nat.zero_le _, rfl, Fr.refl _ _⟩
  case round =>
    obtain ⟨i, hgk, hi, rfl, hf⟩ := hrel
    have HG := Lib.hid hgk
    clear hgk
    by_cases hlt : i < l.length
    · obtain ⟨x, hx⟩ : ∃ x, l[i]? = some x := ⟨l[i], List.getElem?_eq_getElem hlt⟩
      have ho1 := own_fr h1 hf (fun _ _ x => x)
      have ho2 := own_fr h2 hf (fun _ _ x => x)
      rcases own_cases ho1 with ⟨_, h9, _⟩ | ⟨g1, cap1, e1, _, hgl1, hcap1⟩
      · omega
      rcases own_cases ho2 with ⟨_, h9, _⟩ | ⟨g2, cap2, e2, _, hgl2, hcap2⟩
      · omega
      simp only [Value.slice.injEq] at e1 e2
      obtain ⟨rfl, _, rfl⟩ := e1
      obtain ⟨rfl, _, rfl⟩ := e2
      have d0 := own_cell ho1 (u32s_get hx)
      have u0 := own_cell ho2 (u32s_get hx)
      have i1 : (0 : Int) ≤ (i : Int) := by omega
      have i2 : (i : Int) < (l.length : Int) := by omega
      have hk0 : (((x : Nat) : Int) != (x : Int)) = false := by simp
      clear hx
      go_upto_region 6 with (fail)
      go_quiet (fail)
      go_wp2_with fail
      go_roundg (l.length - (i + 1))
      case measure => rw [HG.out]; omega
      case rel => exact ⟨i + 1, rfl, by omega, by go_num, hf.drewN _⟩
    · obtain rfl : i = l.length := by omega
      have i2 : ¬ ((l.length : Int) < (l.length : Int)) := by omega
      go_wp2_with fail
      go_ret
      exact ⟨rfl, hf⟩
set_option maxRecDepth 100000 in
set_option maxHeartbeats 2000000 in
theorem sameWhole_calls {w : World} {B1 B2 : Nat} {a1 a2 : Option Addr} {c1 c2 : Nat} {l : List Nat} (neg : Bool) (h1 : w.ownsRow B1 159 1 (.slice a1 l.length c1) l.length (u32s l)) (h2 : w.ownsRow B2 159 1 (.slice a2 l.length c2) l.length (u32s l)) (hl : l.length ≤ 100000) :
    Calls Tryd.prog 39 #[.agg #[.bool neg, .slice a1 l.length c1], .agg #[.bool neg, .slice a2 l.length c2]] w fun e w' => e = .returned (.bool true) ∧ Fr No w w' := by
  have hal := ((Fr.refl No w).alloc (.cells #[.bool neg, .slice a1 l.length c1] 64 (0, 0))).alloc (.cells #[.bool neg, .slice a2 l.length c2] 64 (0, 0))
  have hb : (neg == neg) = true := by cases neg <;> rfl
  have HH := Lib.hid (And.intro (own_fr h1 hal (fun _ _ x => x)) (And.intro (own_fr h2 hal (fun _ _ x => x)) hal))
  clear h1 h2 hal
  go_enter Tryd.func39, Tryd.ntmps39
  go_wp2_with fail
  refine (sameLimbs_calls HH.out.1 HH.out.2.1 hl).mono ?_
  rintro e w2 ⟨rfl, hf2⟩
  have hF := HH.out.2.2.callNo hf2
  go_wp2_with fail
  go_ret
  exact ⟨rfl, hF⟩
set_option maxRecDepth 100000 in
set_option maxHeartbeats 2000000 in
theorem sameTexts_calls {w : World} {B1 B2 : Nat} {v1 v2 : Value} {l : List (List UInt8)} (h1 : NmOwn w B1 v1 l) (h2 : NmOwn w B2 v2 l) (hl : l.length ≤ 100000) :
    Calls Tryd.prog 19 #[v1, v2] w fun e w' => e = .returned (.bool true) ∧ Fr No w w' := by
  unfold NmOwn at h1 h2
  obtain ⟨a1, c1, rfl⟩ := own_form h1
  obtain ⟨a2, c2, rfl⟩ := own_form h2
  go_enter Tryd.func19, Tryd.ntmps19
  go_wp2_with fail
  go_loopg [5] l.length (fun gk x5 wr => ∃ i : Nat, gk = l.length - i ∧ i ≤ l.length ∧ x5 = .int .i64 i ∧ Fr No w wr)
  case atStart => exact ⟨0, rfl, Nat.zero_le _, rfl, Fr.refl _ _⟩
  case round =>
    obtain ⟨i, hgk, hi, rfl, hf⟩ := hrel
    have HG := Lib.hid hgk
    clear hgk
    by_cases hlt : i < l.length
    · obtain ⟨x, hx⟩ : ∃ x, l[i]? = some x := ⟨l[i], List.getElem?_eq_getElem hlt⟩
      have ho1 := own_fr h1 hf (fun _ _ x => x)
      have ho2 := own_fr h2 hf (fun _ _ x => x)
      have hxv : (l.map strV)[i]? = some (.string ⟨x.toArray⟩) := by simp [hx, strV]
      rcases own_cases ho1 with ⟨_, h9, _⟩ | ⟨g1, cap1, e1, _, hgl1, hcap1⟩
      · omega
      rcases own_cases ho2 with ⟨_, h9, _⟩ | ⟨g2, cap2, e2, _, hgl2, hcap2⟩
      · omega
      simp only [Value.slice.injEq] at e1 e2
      obtain ⟨rfl, _, rfl⟩ := e1
      obtain ⟨rfl, _, rfl⟩ := e2
      have d0 := own_cell ho1 hxv
      have u0 := own_cell ho2 hxv
      have i1 : (0 : Int) ≤ (i : Int) := by omega
      have i2 : (i : Int) < (l.length : Int) := by omega
      generalize (⟨x.toArray⟩ : ByteArray) = T at *
      have hk0 : (T != T) = false := ba_bne T
      clear hx hxv
      go_upto_region 6 with (fail)
      go_quiet (fail)
      go_wp2_with fail
      go_roundg (l.length - (i + 1))
      case measure => rw [HG.out]; omega
      case rel => exact ⟨i + 1, rfl, by omega, by go_num, hf.drewN _⟩
    · obtain rfl : i = l.length := by omega
      have i2 : ¬ ((l.length : Int) < (l.length : Int)) := by omega
      go_wp2_with fail
      go_ret
      exact ⟨rfl, hf⟩
theorem digL_pos {n : Nat} (h : n ≠ 0) : 0 < (dig L32 n).length := by
  rcases Nat.eq_zero_or_pos (dig L32 n).length with h0 | h0
  · have h1 := valB_dig (b := L32) (by unfold L32; omega) n
    rw [List.length_eq_zero_iff.1 h0] at h1
    exact absurd h1.symm h
  · exact h0
/-- a row of declarations -/
def BgOwn (w : World) (B : Nat) (v : Value) (l : List Bg) : Prop := ∃ us, w.ownsRow B 66 4 v l.length us ∧ BgsAre w B l us
set_option maxRecDepth 100000 in
set_option maxHeartbeats 4000000 in
theorem sameBegins_calls {w : World} {B1 B2 : Nat} {v1 v2 : Value} {l : List Bg} (h1 : BgOwn w B1 v1 l) (h2 : BgOwn w B2 v2 l) (hmag : ∀ x ∈ l, (dig L32 x.mag).length ≤ 32) (hl : l.length ≤ 100000) :
    Calls Tryd.prog 17 #[v1, v2] w fun e w' => e = .returned (.bool true) ∧ Fr No w w' := by
  obtain ⟨us1, h1, k1⟩ := h1
  obtain ⟨us2, h2, k2⟩ := h2
  obtain ⟨a1, c1, rfl⟩ := own_form h1
  obtain ⟨a2, c2, rfl⟩ := own_form h2
  have HK := Lib.hid (And.intro k1 (And.intro k2 hmag))
  clear k1 k2 hmag
  go_enter Tryd.func17, Tryd.ntmps17
  go_wp2_with fail
  go_loopg [5] l.length (fun gk x5 wr => ∃ i : Nat, gk = l.length - i ∧ i ≤ l.length ∧ x5 = .int .i64 i ∧ Fr No w wr)
  case atStart => exact ⟨0, rfl, Nat.zero_le _, rfl, Fr.refl _ _⟩
  case round =>
    obtain ⟨i, hgk, hi, rfl, hf⟩ := hrel
    have HG := Lib.hid hgk
    clear hgk
    by_cases hlt : i < l.length
    · obtain ⟨x, hx⟩ : ∃ x, l[i]? = some x := ⟨l[i], List.getElem?_eq_getElem hlt⟩
      obtain ⟨p1, q1, r0, r1, r2, r3, m1⟩ := BgsAre.get l us1 i x HK.out.1 hx
      obtain ⟨p2, q2, t0, t1, t2, t3, m2⟩ := BgsAre.get l us2 i x HK.out.2.1 hx
      have hml := HK.out.2.2 x (List.mem_of_getElem? hx)
      have ho1 := own_fr h1 hf (fun _ _ x => x)
      have ho2 := own_fr h2 hf (fun _ _ x => x)
      rcases own_cases ho1 with ⟨_, h9, _⟩ | ⟨g1, cap1, e1, _, hgl1, hcap1⟩
      · omega
      rcases own_cases ho2 with ⟨_, h9, _⟩ | ⟨g2, cap2, e2, _, hgl2, hcap2⟩
      · omega
      simp only [Value.slice.injEq] at e1 e2
      obtain ⟨rfl, _, rfl⟩ := e1
      obtain ⟨rfl, _, rfl⟩ := e2
      have d0 := own_cell ho1 r0
      have d1 := own_cell ho1 r1
      have d2 := own_cell ho1 r2
      have d3 := own_cell ho1 r3
      have u0 := own_cell ho2 t0
      have u1 := own_cell ho2 t1
      have u2 := own_cell ho2 t2
      have u3 := own_cell ho2 t3
      unfold strV at d0 u0
      have i1 : (0 : Int) ≤ (i : Int) := by omega
      have i2 : (i : Int) < (l.length : Int) := by omega
      have hsw := fun (W : World) (f : Fr No w W) => sameWhole_calls (w := W) x.neg (own_fr (show w.ownsRow B1 159 1 (.slice p1 (dig L32 x.mag).length q1) (dig L32 x.mag).length (u32s (dig L32 x.mag)) from m1) f (fun _ _ x => x)) (own_fr (show w.ownsRow B2 159 1 (.slice p2 (dig L32 x.mag).length q2) (dig L32 x.mag).length (u32s (dig L32 x.mag)) from m2) f (fun _ _ x => x)) (by omega)
      have HSW := Lib.hid hsw
      clear hsw m1 m2 r0 r1 r2 r3 t0 t1 t2 t3 ho1 ho2 hx
      generalize (⟨x.name.toArray⟩ : ByteArray) = T at *
      generalize x.any = A at *
      generalize x.neg = NG at *
      generalize (dig L32 x.mag).length = ML at *
      have ht0 : (T != T) = false := ba_bne T
      have ha0 : (A != A) = false := by cases A <;> rfl
      go_upto_region 6 with (fail)
      go_still_tail 35, (by kernel_rfl)
      change wpList _ _ _ _ _ wr.drew
      have hfd := hf.drew
      clear d0 d1 d2 d3 u0 u1 u2 u3 hgl1 hgl2
      generalize wr.drew = w8 at *
      go_wp2_with fail
      refine (HSW.out _ hfd).mono ?_
      rintro e w9 ⟨rfl, hf9⟩
      have hfe := hfd.callNo hf9
      go_wp2_with fail
      go_roundg (l.length - (i + 1))
      case measure => rw [HG.out]; omega
      case rel => exact ⟨i + 1, rfl, by omega, by go_num, hfe⟩
    · obtain rfl : i = l.length := by omega
      have i2 : ¬ ((l.length : Int) < (l.length : Int)) := by omega
      go_wp2_with fail
      go_ret
      exact ⟨rfl, hf⟩
set_option maxRecDepth 100000 in
set_option maxHeartbeats 4000000 in
theorem Begins_calls {w : World} {B P : Nat} {g : Pg} (h : PgIs w B P g) (hmag : ∀ x ∈ g.begins, (dig L32 x.mag).length ≤ 32) (hneg : ∀ x ∈ g.begins, x.neg = true → x.mag ≠ 0) (hn : g.begins.length ≤ 100000) :
    Calls Tryd.prog 18 #[.pointer (some ⟨P, 0, none⟩)] w fun e w' => ∃ v, e = .returned v ∧ BgOwn w' w.heap.size v g.begins ∧ Fr No w w' := by
  obtain ⟨i0, hi0, hz0, hz1, hz2⟩ := info_parts info_bg
  obtain ⟨a, c, vs, a2, n2, c2, us, hP, ho, hbs, _, _⟩ := h
  obtain ⟨p, hp⟩ : ∃ p, g.at_ = p := ⟨_, rfl⟩
  rw [hp] at hP
  obtain ⟨L, hL⟩ : ∃ L, g.begins = L := ⟨_, rfl⟩
  rw [hL] at hP ho hbs hn hmag hneg ⊢
  have hget := fun i x (hi : L[i]? = some x) => BgsAre.get L vs i x hbs hi
  have HH := Lib.hid (And.intro hget (And.intro ho (And.intro hmag hneg)))
  have RP := Blk.all hP
  clear hp hL hget hbs hP hmag hneg
  go_enter Tryd.func18, Tryd.ntmps18
  go_wp2_with fail
  go_loopg [11, 3] L.length (fun gk x11 x3 wr => ∃ (i : Nat) (a3 : Option Addr) (c3 : Nat) (us : List Value), gk = L.length - i ∧ i ≤ L.length ∧ x11 = .int .i64 i ∧ x3 = .slice a3 i c3 ∧ wr.ownsRow w.heap.size 66 4 (.slice a3 i c3) i us ∧ BgsAre wr w.heap.size (L.take i) us ∧ Fr No w wr)
  case atStart => exact ⟨0, none, 0, [], rfl, Nat.zero_le _, rfl, rfl, World.ownsRow_nil _ _ _ _, rfl, Fr.refl _ _⟩
  case round =>
    clear ho RP
    obtain ⟨i, a3, c3, us3, hgk, hi, rfl, rfl, hor, hba, hf⟩ := hrel
    have HG := Lib.hid hgk
    clear hgk
    by_cases hlt : i < L.length
    · obtain ⟨x, hx⟩ : ∃ x, L[i]? = some x := ⟨L[i], List.getElem?_eq_getElem hlt⟩
      obtain ⟨a4, c4, q0, q1, q2, q3, q4⟩ := HH.out.1 i x hx
      have hml := HH.out.2.2.1 x (List.mem_of_getElem? hx)
      have hng := HH.out.2.2.2 x (List.mem_of_getElem? hx)
      have hob := own_fr HH.out.2.1 hf (fun _ _ x => x)
      rcases own_cases hob with ⟨_, h2, _⟩ | ⟨gg, cap, h1, hBg, hgl, hcap⟩
      · omega
      · simp only [Value.slice.injEq] at h1
        obtain ⟨rfl, _, rfl⟩ := h1
        have r0 := own_cell hob q0
        have r1 := own_cell hob q1
        have r2 := own_cell hob q2
        have r3 := own_cell hob q3
        unfold strV at r0
        have htr := fun (W : World) (f : Fr No w W) => wTrim_calls B x.neg a4 c4 (dig L32 x.mag) W (by omega) (own_fr (show w.ownsRow B 159 1 (.slice a4 (dig L32 x.mag).length c4) (dig L32 x.mag).length (u32s (dig L32 x.mag)) from q4) f (fun _ _ x => x))
        rw [trimT_dig] at htr
        have hnn : (x.neg && decide (0 < (dig L32 x.mag).length)) = x.neg := by
          cases hx : x.neg with
          | false => rfl
          | true => have := digL_pos (hng hx); simp [this]
        rw [hnn] at htr
        have hsn : ∀ (W : World) (v : List Value) (a5 : Option Addr) (c5 : Nat), BgsAre W w.heap.size (L.take i) v → W.ownsRow w.heap.size 159 1 (.slice a5 (dig L32 x.mag).length c5) (dig L32 x.mag).length (u32s (dig L32 x.mag)) → BgsAre W w.heap.size (L.take (i + 1)) (v ++ [.string ⟨x.name.toArray⟩, .bool x.any, .bool x.neg, .slice a5 (dig L32 x.mag).length c5]) := by
          intro W v a5 c5 hb ho
          have h := BgsAre.snoc (g := x) ho _ _ hb
          rw [List.take_add_one, hx]
          exact h
        have HT := Lib.hid (And.intro htr hsn)
        clear htr hsn hx q0 q1 q2 q3 q4 hob hnn hng
        generalize u32s (dig L32 x.mag) = LS at *
        generalize (dig L32 x.mag).length = ML at *
        generalize (⟨x.name.toArray⟩ : ByteArray) = T at *
        generalize x.any = A at *
        generalize x.neg = NG at *
        have i1 : (0 : Int) ≤ (i : Int) := by omega
        have i2 : (i : Int) < (L.length : Int) := by omega
        have hN := Blk.new wr (.cells #[.string T, .bool A, .bool NG, .slice a4 ML c4] 66 (0, 0))
        have hal := (Fr.refl No wr).alloc (.cells #[.string T, .bool A, .bool NG, .slice a4 ML c4] 66 (0, 0))
        have HN := Lib.hid (And.intro hN hal)
        clear hN hal
        go_wp2_with fail
        refine (HT.out.1 _ (hf.callNo HN.out.2)).mono ?_
        rintro e w6 ⟨a5, c5, rfl, ho5, hf6⟩
        have hN6 := HN.out.1.fr hf6 (fun x => x)
        have R := Blk.all hN6
        have Z := Blk.frees hN6
        have hs6 : wr.heap.size ≤ w6.heap.size := (HN.out.2.callNo hf6).size
        go_upto_region 6 with (fail)
        have hk := ((Fr.refl (· = wr.heap.size) w6).setCell (a := ⟨wr.heap.size, 2, none⟩) (.bool NG) (fun _ => rfl)).setCell (a := ⟨wr.heap.size, 3, none⟩) (.slice a5 ML c5) (fun _ => rfl)
        have hN7 := (hN6.setOff 2 (.bool NG)).setOff 3 (.slice a5 ML c5)
        have hwr := hf.size
        have hfN := (HN.out.2.callNo hf6).call hk (fun k hk e => by have : k = wr.heap.size := e; omega)
        have ho7 := own_fr ho5 hk (fun k hk e => by have := (ho5.lt k hk).1; have hz := alloc_size wr (.cells #[.string T, .bool A, .bool NG, .slice a4 ML c4] 66 (0, 0)); have : k = wr.heap.size := e; omega)
        obtain ⟨w7, hw7⟩ : ∃ w7, (w6.setCell ⟨wr.heap.size, 2, none⟩ (.bool NG)).setCell ⟨wr.heap.size, 3, none⟩ (.slice a5 ML c5) = w7 := ⟨_, rfl⟩
        rw [hw7] at hfN ho7 ⊢
        have hN8 : Blk w7 wr.heap.size (.cells #[.string T, .bool A, .bool NG, .slice a5 ML c5] 66 (0, 0)) := hw7 ▸ hN7
        have HW := Lib.hid hw7
        clear hw7 R Z hN6 hN7 hk ho5
        have R := Blk.all hN8
        have hor7 := own_fr hor hfN (fun _ _ x => x)
        have hba7 := BgsAre.apart hfN (fun _ _ _ e => e.elim) _ _ hba
        have hlt8 := hN8.lt
        have ho8 := own_mono ho7 (B' := w.heap.size) (by rw [alloc_size]; omega)
        clear ho7 hor hba r0 r1 r2 r3
        go_wp2_with ((at_builtin; go_loud (refine wpList_append_own_at _ rfl _ _ 48 rfl w.heap.size 66 i0 (.agg #[.string ⟨#[]⟩, .bool false, .bool false, .slice none 0 0]) 4 56 Tryd.underlying48 hi0 hz0 hz1 hz2 rfl (by decide) _ _ _ rfl (hor7.alloc _) ⟨w7.heap.size, 0, none⟩ 1 1 [.string T, .bool A, .bool NG, .slice a5 ML c5] rfl rfl ?c1 ?c2 ?c3 ?c4 ?c5 ?_; (case c1 => exact new_row _ _ _); (case c2 => (intro u hu; simp only [List.mem_cons, List.not_mem_nil, or_false] at hu; rcases hu with rfl | rfl | rfl | rfl <;> rfl)); (case c3 => (unfold maxLen; omega)); (case c4 => (have := hfN.size; simp; omega)); (case c5 => (simp; omega)); intro v9 w9 hown9 hgr9 _ hat9)))
        obtain ⟨a9, c9, rfl⟩ := own_form hown9
        have f9 : Fr (fun j => (Value.slice a3 i c3).ownBlock = some j) w7 w9 := (((Fr.refl _ w7).alloc _).grown hgr9 (fun j hj _ => hj))
        have hap : ∀ k, w.heap.size ≤ k → k < w7.heap.size → (Value.slice a3 i c3).ownBlock = some k → ∃ cs t fz, Blk w7 k (.cells cs t fz) ∧ t ≠ 159 := fun k _ _ e => by
          obtain ⟨cur, hcur⟩ := own_obj hor7 e
          exact ⟨_, _, _, hcur, by decide⟩
        have hba9 := BgsAre.apart f9 hap _ _ hba7
        have ho9 := own_apart ho8 f9 hap
        have hfw := (hf.callNo hfN).call f9 (fun j hj e => by have := (hor7.lt j e).1; omega)
        go_roundg (L.length - (i + 1))
        case measure => rw [HG.out]; omega
        case rel => exact ⟨i + 1, a9, c9, _, rfl, by omega, by go_num, rfl, hown9, HT.out.2 _ _ _ _ hba9 ho9, hfw⟩
    · obtain rfl : i = L.length := by omega
      have i2 : ¬ ((L.length : Int) < (L.length : Int)) := by omega
      go_wp2_with fail
      go_ret
      rw [List.take_length] at hba
      exact ⟨_, rfl, ⟨us3, hor, hba⟩, hf⟩
end Go.Proofs.YtjmjdmmojgmcdaaDoor
