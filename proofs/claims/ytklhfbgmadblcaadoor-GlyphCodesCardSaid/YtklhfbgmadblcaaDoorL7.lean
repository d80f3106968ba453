/- The walk of GlyphBack. -/
import Derived.Test.YtklhfbgmadblcaaDoorG1
namespace Go.Proofs.YtklhfbgmadblcaaDoor
open Go.RowKit
set_option linter.unusedVariables false
set_option linter.unusedSimpArgs false
attribute [local go_sem ↓] Go.wp_at_zero Go.wp_at_succ

theorem glys_get : ∀ (cs : List Nat) (p : Pl) (i : Nat) (x : Gly), (glys p cs)[i]? = some x → ∃ c, cs[i]? = some c ∧ x.code = c ∧ x.at_ = along p (cs.take i)
  | [], p, i, x, h => by simp [glys] at h
  | c :: cs, p, 0, x, h => by simp [glys] at h; subst h; exact ⟨c, rfl, rfl, rfl⟩
  | c :: cs, p, i + 1, x, h => by
    simp only [glys, List.getElem?_cons_succ] at h
    obtain ⟨d, h1, h2, h3⟩ := glys_get cs (behind p c) i x h
    exact ⟨d, by simpa using h1, h2, by simp [h3, along_cons]⟩

theorem back_split {cs : List Nat} {k x : Nat} (hx : cs[k]? = some x) : cs.flatMap enc = (cs.take k).flatMap enc ++ (enc x ++ (cs.drop (k + 1)).flatMap enc) := by
  have hk : k < cs.length := (List.getElem?_eq_some_iff.1 hx).1
  have e : cs = cs.take k ++ x :: cs.drop (k + 1) := by
    have := List.take_append_drop k cs
    rw [List.drop_eq_getElem_cons hk, (List.getElem?_eq_some_iff.1 hx).2] at this
    exact this.symm
  conv => lhs; rw [e]
  simp
theorem back_in {l : List UInt8} {cs : List Nat} (T : Txt l cs []) {k x : Nat} (hx : cs[k]? = some x) {p : Pl} (hp : along start (cs.take k) = p) {n : Nat} (hn : (enc x).length = n) : p.b + n ≤ l.length := by
  have h1 := T.len
  have h2 := along_b start (cs.take k)
  have h3 := congrArg List.length (back_split hx)
  rw [hp] at h2
  simp only [List.length_append, List.length_nil, start] at h1 h2 h3
  omega
theorem back_cut {s : ByteArray} {cs : List Nat} (T : Txt s.data.toList cs []) {k x : Nat} (hx : cs[k]? = some x) {p : Pl} (hp : along start (cs.take k) = p) : s.extract p.b (p.b + (enc x).length) = ⟨(enc x).toArray⟩ := by
  apply ByteArray.ext
  apply Array.ext'
  have h2 := along_b start (cs.take k)
  rw [hp] at h2
  rw [Lib.extract_data, T.eq, List.append_nil, back_split hx, h2]
  simp [start]

set_option maxRecDepth 100000 in
set_option maxHeartbeats 4000000 in
theorem law_back (s : ByteArray) (hs : s.size ≤ maxLen) (w : World) (hT : Tb w) : Calls Tryd.prog 7 #[.string s] w fun e w' => e = .returned (.bool true) ∧ Fr No w w' := by
  have hl := Lib.size_eq s
  have hG := Glyphs_g s hs
  by_cases hbig : 4096 < s.size
  · have e : glyS s.data.toList = .bad 2 zeroPl := if_pos (by omega)
    have E := Lib.hid e
    clear e hl hbig hG
    go_enter Tryd.func7, Tryd.ntmps7
    go_wp2_with fail
    refine (awake_calls w hT).mono ?_
    rintro e w1 ⟨rfl, hf⟩
    go_wp2_with fail
    refine (Glyphs_any s _ (hT.no hf) hs).mono ?_
    rw [E.out]
    rintro e w2 ⟨a1, c1, rfl, ho1, hf1⟩
    simp only [GRes.gl, GRes.code, GRes.pl, plA]
    go_wp2
    go_ret
    exact ⟨by simp, (hf.callNo hf1).alloc _⟩
  · have T := txt_of s.data.toList
    have e := glyS_eq T (by omega)
    generalize csOf s.data.toList = cs at *
    generalize tlOf s.data.toList = t at *
    by_cases ht : t = []
    · subst ht
      have e2 : glyS s.data.toList = .ok (glys start cs) := by rw [e]; rfl
      have E := Lib.hid e2
      clear e e2 hG
      go_enter Tryd.func7, Tryd.ntmps7
      go_wp2_with fail
      refine (awake_calls w hT).mono ?_
      rintro e w1 ⟨rfl, hf⟩
      go_wp2_with fail
      refine (Glyphs_any s _ (hT.no hf) hs).mono ?_
      rw [E.out]
      rintro e w2 ⟨a1, c1, rfl, ho1, hf1⟩
      simp only [GRes.gl, GRes.code, GRes.pl, plA] at ho1 ⊢
      go_wp2_with fail
      have ho2 := (ho1.alloc (plO zeroPl)).alloc (plO start)
      have hf2 := ((hf.callNo hf1).alloc (plO zeroPl)).alloc (plO start)
      have hb2 : Blk ((w2.alloc (plO zeroPl)).alloc (plO start)) (w2.heap.size + 1) (plO (along start (cs.take 0))) := by
        have := Blk.new (w2.alloc (plO zeroPl)) (plO start)
        rw [show (w2.alloc (plO zeroPl)).heap.size = w2.heap.size + 1 by simp] at this
        exact this
      have hgl := glys_len start cs
      have HGL := Lib.hid hgl
      have HT := Lib.hid T
      have HL := Lib.hid hl
      have hcs : cs.length ≤ 4096 := by have := T.len_le; omega
      have hw12 := hf1.size
      have hw0 := (hf.callNo hf1).size
      have hgw := fun k hk => (ho1.lt k hk).2
      clear ho1 hf1 hf hgl T hl
      rw [HGL.out] at ho2 ⊢
      go_loopw [7] (fun i wr => ∃ k : Nat, k ≤ cs.length ∧ i = .int .i64 k ∧ Blk wr (w2.heap.size + 1) (plO (along start (cs.take k))) ∧ wr.ownsRow w1.heap.size 45 6 (.slice a1 cs.length c1) cs.length (glysV (glys start cs)) ∧ Fr No w wr) (fun i _ => cs.length - (intOf i).toNat)
      case atStart => exact ⟨0, by omega, rfl, hb2, ho2, hf2⟩
      case round =>
        obtain ⟨k, hk, rfl, hb, ho, hfr⟩ := hrel
        have hfr0 := hw0
        clear ho2 hf2 hb2
        by_cases hlt : k < cs.length
        · rcases own_cases ho with ⟨_, hn0, _⟩ | ⟨g, d, hs1, hgB, hgl, _⟩
          · omega
          simp only [Value.slice.injEq] at hs1
          obtain ⟨rfl, _, rfl⟩ := hs1
          obtain ⟨y, hy⟩ : ∃ y, (glys start cs)[k]? = some y := ⟨_, List.getElem?_eq_getElem (by rw [HGL.out]; exact hlt)⟩
          obtain ⟨x, hx, hyc, hya⟩ := glys_get cs start k y hy
          obtain ⟨p0, p1, p2, p3, p4, p5⟩ := gly_at ho rfl hy
          rw [hyc] at p0 p1
          rw [hya] at p2 p3 p4 p5
          have hxo := HT.out.ok x (List.mem_of_getElem? hx)
          have hnx : along start (cs.take (k + 1)) = behind (along start (cs.take k)) x := by
            rw [List.take_add_one, hx, Option.toList_some, along_append]; rfl
          have hfit : (along start (cs.take k)).fits 4096 := by
            have hT2 : Txt s.data.toList (cs.take k ++ cs.drop k) [] := by rw [List.take_append_drop]; exact HT.out
            have := along_fits hT2
            have hsz := HL.out
            obtain ⟨z1, z2, z3, z4⟩ := this
            exact ⟨by omega, by omega, by omega, by omega⟩
          obtain ⟨f1, f2, f3, f4⟩ := hfit
          have HX := Lib.hid (And.intro hx (And.intro hxo hnx))
          clear hy hyc hya hx hxo hnx
          generalize hpp : along start (cs.take k) = p at *
          have HP := Lib.hid hpp
          clear hpp
          have R := Blk.all hb
          have r0 := R 0
          have r1 := R 1
          have r2 := R 2
          have r3 := R 3
          simp only [List.getElem?_toArray, List.getElem?_cons_succ, List.getElem?_cons_zero] at r0 r1 r2 r3
          clear R
          have hc0 : decide ((x : Int) < 0) = false := by simp
          have hc1 : decide ((1114111 : Int) < (x : Int)) = false := by have := okc_lt HX.out.2.1; simp; omega
          have i0 : (0 : Int) ≤ (k : Int) := by omega
          have i1 : (k : Int) < (cs.length : Int) := by omega
          go_wp2_with fail
          go_region_held3 (fun w' => w'.cell? ⟨g, k * 6, none⟩ = some (.int .i64 x) ∧ w'.cell? ⟨g, k * 6 + 1, none⟩ = some (.int .i64 (cls x)) ∧ w'.cell? ⟨g, k * 6 + 2, none⟩ = some (.int .i64 p.b) ∧ w'.cell? ⟨g, k * 6 + 3, none⟩ = some (.int .i64 p.g) ∧ w'.cell? ⟨g, k * 6 + 4, none⟩ = some (.int .i64 p.l) ∧ w'.cell? ⟨g, k * 6 + 5, none⟩ = some (.int .i64 p.c) ∧ w'.cell? ⟨w2.heap.size + 1, 0, none⟩ = some (.int .i64 p.b) ∧ w'.cell? ⟨w2.heap.size + 1, 1, none⟩ = some (.int .i64 p.g) ∧ w'.cell? ⟨w2.heap.size + 1, 2, none⟩ = some (.int .i64 p.l) ∧ w'.cell? ⟨w2.heap.size + 1, 3, none⟩ = some (.int .i64 p.c)) (first | go_keep | (refine ⟨?_, ?_, ?_, ?_, ?_, ?_, ?_, ?_, ?_, ?_⟩ <;> exact hfp.cell (by assumption))) (first | (go_at_call 21; refine (place_same p _).mono ?_; rintro e w' ⟨rfl, hfp⟩) | (go_at_call 14; refine (Class_calls _ _).mono ?_; rintro e w'' ⟨rfl, rfl⟩))
          have F1 : Fr No wr w' := (Fr.refl No wr).drew.callNo hfp
          have ub := hb.fr F1 (fun x => x)
          have uo := own_fr ho F1 (fun _ _ x => x)
          have uf := hfr.callNo F1
          have u0 : w'.cell? ⟨g, k * 6, none⟩ = some (.int .i64 x) := F1.cell p0
          clear hb ho hfr p0 p1 p2 p3 p4 p5 r0 r1 r2 r3 hfp F1
          go_wp2_with fail
          refine (bytes_calls HX.out.2.1 _).mono ?_
          rintro e w3 ⟨rfl, hf3⟩
          have vb := ub.fr hf3 (fun x => x)
          have vo := own_fr uo hf3 (fun _ _ x => x)
          have vf := uf.callNo hf3
          have v0 := hf3.cell u0
          clear ub uo uf u0 hf3
          obtain ⟨n, hn⟩ : ∃ n, (enc x).length = n := ⟨_, rfl⟩
          obtain ⟨Bs, hB⟩ : ∃ Bs : ByteArray, (⟨(enc x).toArray⟩ : ByteArray) = Bs := ⟨_, rfl⟩
          have hBn : Bs.size = n := by rw [← hB, ← hn, Lib.size_eq]
          have hbh : (behind p x).b = p.b + n := by rw [← hn]; rfl
          have hin := back_in HT.out HX.out.1 HP.out hn
          rw [← HL.out] at hin
          have hex : s.extract p.b (p.b + n) = Bs := by rw [← hB, ← hn]; exact back_cut HT.out HX.out.1 HP.out
          rw [hB]
          have hnl := enc_le x
          rw [hn] at hnl
          have HB := Lib.hid (And.intro hn hB)
          clear hn hB hbh
          have R := Blk.all vb
          have Q := Blk.frees vb
          have b1 : (p.b : Int) + (n : Int) ≤ (s.size : Int) := by omega
          have hg2 : g < w2.heap.size := hgw g rfl
          have hgne : g ≠ w2.heap.size + 1 := by omega
          have hgne2 : w2.heap.size + 1 ≠ g := by omega
          have hlow : w2.heap.size + 1 < w.heap.size → False := by have := hfr0; omega
          by_cases h10 : x = 10
          · have hz : ((x : Int) == 10) = true := by simp; omega
            have H10 := Lib.hid h10
            clear h10
            go_wp2
            obtain ⟨q1, q2⟩ := HB.out
            have hxn : behind p x = ⟨p.b + n, p.g + 1, p.l + 1, 1⟩ := by rw [H10.out] at q1 ⊢; simp [behind, q1]
            go_roundw
            case rel =>
              refine ⟨k + 1, by omega, by go_num, ?_, ?_, ?_⟩
              · rw [HX.out.2.2, hxn]
                exact (((((vb.setOff 0 _).setOff 1 _).setOff 3 _).setOff 2 _).setOff 3 _).cast (by simp [plO])
              · exact ownsRow_setCell_other (ownsRow_setCell_other (ownsRow_setCell_other (ownsRow_setCell_other (ownsRow_setCell_other vo (by simp [Value.ownBlock, hgne]) _) (by simp [Value.ownBlock, hgne]) _) (by simp [Value.ownBlock, hgne]) _) (by simp [Value.ownBlock, hgne]) _) (by simp [Value.ownBlock, hgne]) _
              · exact ((((vf.setCell _ (fun h => (hlow h).elim)).setCell _ (fun h => (hlow h).elim)).setCell _ (fun h => (hlow h).elim)).setCell _ (fun h => (hlow h).elim)).setCell _ (fun h => (hlow h).elim)
            case measure => simp [intOf]; omega
          · have hz : ((x : Int) == 10) = false := by simp; omega
            have H10 := Lib.hid h10
            clear h10
            go_wp2
            obtain ⟨q1, q2⟩ := HB.out
            have hxn : behind p x = ⟨p.b + n, p.g + 1, p.l, p.c + 1⟩ := by simp [behind, q1, H10.out]
            go_roundw
            case rel =>
              refine ⟨k + 1, by omega, by go_num, ?_, ?_, ?_⟩
              · rw [HX.out.2.2, hxn]
                exact (((vb.setOff 0 _).setOff 1 _).setOff 3 _).cast (by simp [plO])
              · exact ownsRow_setCell_other (ownsRow_setCell_other (ownsRow_setCell_other vo (by simp [Value.ownBlock, hgne]) _) (by simp [Value.ownBlock, hgne]) _) (by simp [Value.ownBlock, hgne]) _
              · exact ((vf.setCell _ (fun h => (hlow h).elim)).setCell _ (fun h => (hlow h).elim)).setCell _ (fun h => (hlow h).elim)
            case measure => simp [intOf]; omega
        · obtain rfl : k = cs.length := by omega
          rw [List.take_length] at hb
          have R := Blk.all hb
          have hbe : (along start cs).b = s.size := by
            have h1 := HT.out.len
            have h2 := along_b start cs
            have h3 := HL.out
            simp only [List.length_nil, start] at h1 h2 h3 ⊢
            omega
          have HBE := Lib.hid hbe
          clear hbe
          go_wp2
          go_ret
          exact ⟨by rw [HBE.out]; simp, hfr⟩
    · have e2 : glyS s.data.toList = .bad 40 (along start cs) := by rw [e]; exact if_neg ht
      have E := Lib.hid e2
      clear e e2 hG ht T hl
      go_enter Tryd.func7, Tryd.ntmps7
      go_wp2_with fail
      refine (awake_calls w hT).mono ?_
      rintro e w1 ⟨rfl, hf⟩
      go_wp2_with fail
      refine (Glyphs_any s _ (hT.no hf) hs).mono ?_
      rw [E.out]
      rintro e w2 ⟨a1, c1, rfl, ho1, hf1⟩
      simp only [GRes.gl, GRes.code, GRes.pl, plA]
      go_wp2
      go_ret
      exact ⟨by simp, (hf.callNo hf1).alloc _⟩
end Go.Proofs.YtklhfbgmadblcaaDoor
