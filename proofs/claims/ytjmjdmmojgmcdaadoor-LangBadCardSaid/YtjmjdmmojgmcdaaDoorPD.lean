/- The program's Glyphs. -/
import Derived.Test.YtjmjdmmojgmcdaaDoorGf
import Derived.Deep.AppendLies
import Derived.Deep.RegionWith
namespace Go.Proofs.YtjmjdmmojgmcdaaDoor
open Go.RowKit
set_option linter.unusedVariables false
set_option linter.unusedSimpArgs false
attribute [local go_sem ↓] Go.wp_at_zero Go.wp_at_succ

structure Gly where
  code : Nat
  at_ : Pl
/-- the glyphs of a text -/
def glys : Pl → List Nat → List Gly
  | _, [] => []
  | p, c :: cs => ⟨c, p⟩ :: glys (behind p c) cs
theorem glys_len (p : Pl) (cs : List Nat) : (glys p cs).length = cs.length := by
  induction cs generalizing p with
  | nil => rfl
  | cons c cs ih => simp [glys, ih]
theorem glys_append (p : Pl) (a b : List Nat) : glys p (a ++ b) = glys p a ++ glys (along p a) b := by
  induction a generalizing p with
  | nil => rfl
  | cons c a ih => simp [glys, ih, along_cons]
def glyC (x : Gly) : List Value := [.int .i64 x.code, .int .i64 (cls x.code), .int .i64 x.at_.b, .int .i64 x.at_.g, .int .i64 x.at_.l, .int .i64 x.at_.c]
def glysV (l : List Gly) : List Value := l.flatMap glyC
theorem glysV_len (l : List Gly) : (glysV l).length = l.length * 6 := by
  induction l with
  | nil => rfl
  | cons x l ih => simp only [glysV, List.flatMap_cons, List.length_append, List.length_cons] at ih ⊢; rw [ih]; simp [glyC]; omega
theorem info_gly : (Tryd.prog.info? 83).map (fun i => (i.zero, i.size, i.bytes)) = some (some (.agg #[.int .i64 0, .int .i64 0, .int .i64 0, .int .i64 0, .int .i64 0, .int .i64 0]), 6, 48) := by kernel_rfl
theorem glyC_one (x : Gly) : ∀ u ∈ glyC x, u.oneCell' = true := by
  intro u hu
  simp only [glyC, List.mem_cons, List.not_mem_nil, or_false] at hu
  rcases hu with rfl | rfl | rfl | rfl | rfl | rfl <;> rfl

/-- what Glyphs hands back -/
inductive GRes where
  | bad (e : Int) (p : Pl)
  | ok (l : List Gly)
def GRes.gl : GRes → List Gly
  | .bad _ _ => []
  | .ok l => l
def GRes.code : GRes → Int
  | .bad n _ => n
  | .ok _ => 0
def GRes.pl : GRes → Pl
  | .bad _ p => p
  | .ok _ => zeroPl
def GlyGot (w : World) (r : GRes) (e : Ending) (w' : World) : Prop :=
  ∃ a c, e = .returned (.tuple #[.slice a r.gl.length c, .int .i64 r.code, .agg (plA r.pl)]) ∧ w'.ownsRow w.heap.size 83 6 (.slice a r.gl.length c) r.gl.length (glysV r.gl) ∧ Fr No w w'
def glyOf (cs : List Nat) (t : List UInt8) : GRes := if t = [] then .ok (glys start cs) else .bad 40 (along start cs)
noncomputable def glyS (l : List UInt8) : GRes := if 4096 < l.length then .bad 2 zeroPl else glyOf (csOf l) (tlOf l)
theorem glyS_eq {l : List UInt8} {cs : List Nat} {t : List UInt8} (T : Txt l cs t) (h : l.length ≤ 4096) : glyS l = glyOf cs t := by
  unfold glyS
  rw [if_neg (by omega)]
  obtain ⟨e1, e2⟩ := (txt_of l).uniq T
  rw [e1, e2]

theorem own_pl {wr : World} {B : Nat} {e : TypeId} {size : Nat} {v : Value} {n : Nat} {xs : List Value} (h : wr.ownsRow B e size v n xs) {g : Nat} (hg : v.ownBlock ≠ some g) (p : Pl) (W : World)
    (hW : W = (((wr.setCell ⟨g, 0, none⟩ (.int .i64 p.b)).setCell ⟨g, 1, none⟩ (.int .i64 p.g)).setCell ⟨g, 2, none⟩ (.int .i64 p.l)).setCell ⟨g, 3, none⟩ (.int .i64 p.c)) : W.ownsRow B e size v n xs := by
  subst hW
  exact ownsRow_setCell_other (ownsRow_setCell_other (ownsRow_setCell_other (ownsRow_setCell_other h hg _) hg _) hg _) hg _

end Go.Proofs.YtjmjdmmojgmcdaaDoor

namespace Go.Proofs.YtjmjdmmojgmcdaaDoor
open Go.RowKit
set_option linter.unusedVariables false
set_option linter.unusedSimpArgs false
attribute [local go_sem ↓] Go.wp_at_zero Go.wp_at_succ

theorem decode_drop (s : ByteArray) (pos : Nat) : Utf8.decode s pos = Utf8.decode ⟨(s.data.toList.drop pos).toArray⟩ 0 := by
  rw [Lib.decode_at, Lib.decode_at]
  have hs2 : (⟨(s.data.toList.drop pos).toArray⟩ : ByteArray).size = s.size - pos := by rw [Lib.size_eq, Lib.size_eq]; simp
  have hg : ∀ i, (⟨(s.data.toList.drop pos).toArray⟩ : ByteArray).get! i = s.get! (pos + i) := fun i => by
    rw [get_bang, get_bang]; simp
  simp only [hs2, hg, Nat.zero_add, Nat.sub_zero, Nat.add_zero]
theorem drop_txt {s : ByteArray} {pre post : List Nat} {t : List UInt8} (T : Txt s.data.toList (pre ++ post) t) : s.data.toList.drop (along start pre).b = post.flatMap enc ++ t := by
  rw [T.eq, along_b]
  simp [start]
theorem decode_at_txt {s : ByteArray} {pre post : List Nat} {t : List UInt8} (T : Txt s.data.toList (pre ++ post) t) : Utf8.decode s (along start pre).b = Utf8.decode (tx post t) 0 := by
  rw [decode_drop, drop_txt T]; rfl
theorem extract_txt {s : ByteArray} {pre post : List Nat} {t : List UInt8} (T : Txt s.data.toList (pre ++ post) t) : s.extract (along start pre).b s.size = tx post t := by
  apply ByteArray.ext
  apply Array.ext'
  rw [Lib.extract_data, drop_txt T, List.take_of_length_le]
  · rfl
  · have := congrArg List.length (drop_txt T)
    rw [List.length_drop, ← Lib.size_eq] at this
    omega

set_option maxRecDepth 100000 in
set_option maxHeartbeats 1000000 in
theorem Glyphs_long (s : ByteArray) (w : World) (h : 4096 < s.size) (hmax : s.size ≤ maxLen) :
    Calls Tryd.prog 12 #[.string s] w (GlyGot w (.bad 2 zeroPl)) := by
  unfold maxLen at hmax
  go_enter Tryd.func12, Tryd.ntmps12
  go_wp2_with fail
  have e1 : Blk _ w.heap.size (plO zeroPl) := Blk.new w (plO zeroPl)
  exact bodyPost_ret (results_ttc rfl _ _ _ _ rfl (load_pl e1 rfl)) rfl ⟨_, _, rfl, World.ownsRow_nil _ _ _ _, (Fr.refl No w).alloc _⟩

theorem blk_iter {w : World} {b : Nat} {o : Obj} (h : Blk w b o) {i : Nat} (hi : b ≠ i) (s : ByteArray) (p : Nat) : Blk (w.iterAt i s p) b o := (Lib.iterAt_other w i b s p hi).trans h

structure GpRel (s : ByteArray) (w wr : World) (pb it : Nat) (pre : List Nat) (a : Option Addr) (ca : Nat) : Prop where
  own : wr.ownsRow (it + 1) 83 6 (.slice a (glys start pre).length ca) (glys start pre).length (glysV (glys start pre))
  pl : Blk wr pb (plO (along start pre))
  itr : wr.heap[it]? = some (.stringIter s (along start pre).b)
  fr : Fr No w wr
  res : Blk wr w.heap.size (plO zeroPl)
  tb : Tb wr

set_option maxRecDepth 100000 in
set_option maxHeartbeats 4000000 in
theorem Glyphs_short (s : ByteArray) (w : World) (hT : Tb w) (hS : s.size ≤ 4096) {cs : List Nat} {t : List UInt8} (T : Txt s.data.toList cs t) :
    Calls Tryd.prog 12 #[.string s] w (GlyGot w (glyOf cs t)) := by
  obtain ⟨i0, hi, hz0, hz1, hz2⟩ := info_parts info_gly
  have hcs : cs.length ≤ 4096 := by have := T.len_le; rw [← Lib.size_eq] at this; omega
  have hd : decide ((4096 : Int) < (s.size : Int)) = false := by simp; omega
  go_enter Tryd.func12, Tryd.ntmps12
  go_wp2_with fail
  refine (start_calls _).mono ?_
  rintro e w1 ⟨rfl, hf1⟩
  have hblk : Blk w1 w.heap.size (plO zeroPl) := (Blk.new w (plO zeroPl)).fr hf1 (fun x => x)
  have hf := ((Fr.refl No w).alloc _).callNo hf1
  have hlt1 := hblk.lt
  simp only [plA]
  go_wp2_with fail
  have hpl0 : Blk ((w1.alloc (plO start)).iter s 0) w1.heap.size (plO start) := (Blk.new w1 _).alloc _
  have hit0 := World.iter_heap (w1.alloc (plO start)) s 0
  have hsz0 : (w1.alloc (plO start)).heap.size = w1.heap.size + 1 := by simp
  rw [hsz0] at hit0
  clear hsz0
  have hf0 : Fr No w ((w1.alloc (plO start)).iter s 0) := (hf.alloc _).alloc _
  have hres0 : Blk ((w1.alloc (plO start)).iter s 0) w.heap.size (plO zeroPl) := (hblk.alloc _).alloc _
  clear hf hblk hf1
  go_loopg [5] cs.length (fun gk x5 wr => ∃ pre post a ca, x5 = .slice a (glys start pre).length ca ∧ cs = pre ++ post ∧ gk = post.length ∧ GpRel s w wr w1.heap.size (w1.heap.size + 1) pre a ca)
  case atStart => exact ⟨[], cs, none, 0, rfl, rfl, rfl, World.ownsRow_nil _ _ _ _, hpl0, hit0, hf0, hres0, hT.no hf0⟩
  case round =>
    obtain ⟨pre, post, a, ca, rfl, h1, h2, ho, hpl, hitr, hf, hres, hTr⟩ := hrel
    clear hpl0 hit0 hf0 hres0
    have T1 : Txt s.data.toList (pre ++ post) t := h1 ▸ T
    have hpre : pre.length ≤ 4096 := by have := congrArg List.length h1; simp at this; omega
    have HGL := Lib.hid (glys_len start pre)
    have hfit := along_fits T1
    rw [← Lib.size_eq] at hfit
    have hdc := decode_at_txt T1
    have hex := extract_txt T1
    have hdr := congrArg List.length (drop_txt T1)
    rw [List.length_drop, ← Lib.size_eq, List.length_append] at hdr
    have H1 := Lib.hid (And.intro h1 h2)
    clear h1 h2
    have hlt2 := (Array.getElem?_eq_some_iff.1 hitr).1
    have hpi := hfit.1
    obtain ⟨i, hii⟩ : ∃ i, i = (along start pre).b := ⟨_, rfl⟩
    rw [← hii] at hdc hex hdr hpi hitr
    have HI := Lib.hid hii
    have HDR := Lib.hid hdr
    clear hii hdr
    cases post with
    | nil =>
      by_cases ht : t = []
      · have hz : ¬ i < s.size := by have := HDR.out; rw [ht] at this; simp at this; omega
        have hnx : ∀ ty, (Instr.next (.pointer (some ⟨w1.heap.size + 1, 0, none⟩)) true ty).run Tryd.prog wr = _ := fun ty => Lib.run_next_end_at _ _ _ i ty hitr hz
        have HT := Lib.hid ht
        clear ht hdc hex
        have gc := Blk.all hres
        have gf := Blk.frees hres
        go_wp2
        obtain ⟨e1, e2⟩ := pl_exit hres hf zeroPl _ rfl
        refine bodyPost_ret (results_ttc rfl _ _ _ _ rfl (load_pl e1 rfl)) rfl ?_
        obtain ⟨h1, h2⟩ := H1.out
        have hcs : cs = pre := by rw [h1]; simp
        have hg : glyOf cs t = .ok (glys start pre) := by rw [hcs]; simp [glyOf, HT.out]
        rw [hg]
        exact ⟨a, ca, rfl, own_mono (own_pl ho (fun e => by have := (ho.lt _ e).1; omega) zeroPl _ rfl) (by omega), e2⟩
      · have hp : i < s.size := by
          have := HDR.out
          have : 0 < t.length := List.length_pos_iff.2 ht
          omega
        have hnx : ∀ ty, (Instr.next (.pointer (some ⟨w1.heap.size + 1, 0, none⟩)) true ty).run Tryd.prog wr = _ := fun ty => Lib.run_next_any_at _ _ _ i ty hitr hp
        rw [hdc, decode_bad ht T1.stop] at hnx
        have hf2 := hf.iterAt (k := w1.heap.size + 1) (fun h => by omega) s (i + 1)
        have hpl2 : Blk (wr.iterAt (w1.heap.size + 1) s (i + 1)) w1.heap.size (plO (along start pre)) := blk_iter hpl (by omega) s _
        have hres2 : Blk (wr.iterAt (w1.heap.size + 1) s (i + 1)) w.heap.size (plO zeroPl) := blk_iter hres (by omega) s _
        have HT := Lib.hid ht
        clear ht hdc hf hpl hres
        generalize wr.iterAt (w1.heap.size + 1) s (i + 1) = w2 at hnx hf2 hpl2 hres2
        have hT2 := hT.no hf2
        have i1 : (i : Int) ≤ (s.size : Int) := by omega
        go_wp2_with fail
        refine (broken_yes HT.out T1.stop _ hT2).mono ?_
        rintro e w3 ⟨rfl, hf3⟩
        have hpl3 := hpl2.fr hf3 (fun x => x)
        have hres3 := hres2.fr hf3 (fun x => x)
        have hf4 := hf2.callNo hf3
        clear hpl2 hres2 hf2 hT2
        have gc := Blk.all hres3
        have gf := Blk.frees hres3
        have pc := Blk.all hpl3
        have hne : w1.heap.size ≠ w.heap.size := by omega
        have hne2 : w.heap.size ≠ w1.heap.size := by omega
        go_wp2_with fail
        go_region
        go_wp2_with fail
        obtain ⟨e1, e2⟩ := pl_exit hres3 hf4 _ _ rfl
        refine bodyPost_ret (results_ttc rfl _ _ _ _ rfl (load_pl e1.drew rfl)) rfl ?_
        obtain ⟨h1, h2⟩ := H1.out
        have hg : glyOf cs t = .bad 40 (along start pre) := by rw [h1]; simp [glyOf, HT.out]
        rw [hg]
        exact ⟨none, 0, rfl, World.ownsRow_nil _ _ _ _, e2.drew⟩
    | cons c post =>
      have hok := T1.ok c (by simp)
      have hp : i < s.size := by
        have := HDR.out
        have := enc_pos c
        simp at *
        omega
      have hnx : ∀ ty, (Instr.next (.pointer (some ⟨w1.heap.size + 1, 0, none⟩)) true ty).run Tryd.prog wr = _ := fun ty => Lib.run_next_any_at _ _ _ i ty hitr hp
      rw [hdc, decode_tx hok] at hnx
      have hit2 := Lib.iterAt_heap wr (w1.heap.size + 1) s i (i + (enc c).length) hitr
      have hf2 := hf.iterAt (k := w1.heap.size + 1) (fun h => by omega) s (i + (enc c).length)
      have hpl2 : Blk (wr.iterAt (w1.heap.size + 1) s (i + (enc c).length)) w1.heap.size (plO (along start pre)) := blk_iter hpl (by omega) s _
      have hres2 : Blk (wr.iterAt (w1.heap.size + 1) s (i + (enc c).length)) w.heap.size (plO zeroPl) := blk_iter hres (by omega) s _
      have ho2 := own_iter ho (k := w1.heap.size + 1) (fun g hg => by have := (ho.lt g hg).1; omega) s (i + (enc c).length)
      have hlt3 : w1.heap.size + 1 < (wr.iterAt (w1.heap.size + 1) s (i + (enc c).length)).heap.size := by rw [Lib.iterAt_size]; exact hlt2
      have HOK := Lib.hid hok
      clear hok hdc hf hpl hres ho hitr hlt2
      generalize wr.iterAt (w1.heap.size + 1) s (i + (enc c).length) = w2 at hnx hit2 hf2 hpl2 hres2 ho2 hlt3
      have hT2 := hT.no hf2
      have i1 : (i : Int) ≤ (s.size : Int) := by omega
      go_wp2_with fail
      refine (broken_no HOK.out _ hT2).mono ?_
      rintro e w3 ⟨rfl, hf3⟩
      have hpl3 := hpl2.fr hf3 (fun x => x)
      have hres3 := hres2.fr hf3 (fun x => x)
      have hit3 := (hf3.block _ hlt3 (fun x => x)).trans hit2
      have ho3 := own_fr ho2 hf3 (fun _ _ x => x)
      have hlt4 := Nat.lt_of_lt_of_le hlt3 hf3.size
      have hf4 := hf2.callNo hf3
      clear hpl2 hres2 hf2 hT2 ho2 hit2 hlt3 hf3
      go_wp2_with fail
      have pc := Blk.all hpl3
      have r0 := pc 0
      have r1 := pc 1
      have r2 := pc 2
      have r3 := pc 3
      simp only [List.getElem?_toArray, List.getElem?_cons_succ, List.getElem?_cons_zero] at r0 r1 r2 r3
      clear pc
      have hrow : (Value.slice a (glys start pre).length ca).ownBlock ≠ some w1.heap.size := fun e => by have := (ho3.lt _ e).1; omega
      have hgl : (glys start pre).length ≤ 4096 := by rw [HGL.out]; exact hpre
      have hcl : (c : Int) < 1114112 := by have := okc_lt HOK.out; omega
      have hlt5 := hpl3.lt
      have hwc : IntKind.i64.wrap (c : Int) = (c : Int) := IntWalk.i64_in _ (by omega)
      go_region_held3 (fun w' => w'.cell? ⟨w1.heap.size, 0, none⟩ = some (.int .i64 (along start pre).b) ∧ w'.cell? ⟨w1.heap.size, 1, none⟩ = some (.int .i64 (along start pre).g) ∧ w'.cell? ⟨w1.heap.size, 2, none⟩ = some (.int .i64 (along start pre).l) ∧ w'.cell? ⟨w1.heap.size, 3, none⟩ = some (.int .i64 (along start pre).c))
        (first | go_keep | (go_split_ands; refine ⟨?_, ?_, ?_, ?_⟩ <;> (rw [hgrow.cell_far _ (by simp; omega) (Ne.symm hrow)]; assumption)))
        (first | (go_at_call 33; refine (Class_calls _ _).mono ?_; rintro e w' ⟨rfl, rfl⟩) | (refine step_append_lies _ (by rfl) _ _ _ (by rfl) (w1.heap.size + 1 + 1) 83 i0 _ 6 48 Tryd.underlying34 hi hz0 hz1 hz2 rfl (by omega) (.slice a (glys start pre).length ca) (glys start pre).length (glysV (glys start pre)) (by rfl) ((ho3.alloc _).drew) ⟨w3.heap.size, 0, none⟩ 1 1 (glyC ⟨c, along start pre⟩) (by rfl) (by rfl) (World.news_of_block (cs := #[.int .i64 c, .int .i64 (cls c), .int .i64 (along start pre).b, .int .i64 (along start pre).g, .int .i64 (along start pre).l, .int .i64 (along start pre).c]) (t := 83) (fr := (0, 0)) (heap_alloc_new w3 _)) (glyC_one _) (by omega) (by unfold maxLen; omega) (by omega) (by simp; omega) (w3.heap.size + 1) (by simp) ?_; intro gg cap w4 hown4 hgrow hat hlt))
      have hgr := Fr.grown (S := fun q => (Value.slice a (glys start pre).length ca).ownBlock = some q) (Fr.refl _ _) hgrow (fun q hq _ => hq)
      have hpl4 : Blk w4 w1.heap.size (plO (along start pre)) := (hpl3.alloc _).drew.fr hgr (fun hq => hrow hq)
      have hres4 : Blk w4 w.heap.size (plO zeroPl) := (hres3.alloc _).drew.fr hgr (fun e => by have := (ho3.lt _ e).1; omega)
      have hit4 : w4.heap[w1.heap.size + 1]? = some (.stringIter s (i + (enc c).length)) := (Blk.fr (w := (w3.alloc _).drew) (Blk.alloc (w := w3) hit3 _) hgr (fun e => by have := (ho3.lt _ e).1; omega))
      have hf5 : Fr No w w4 := (hf4.alloc _).drew.grown hgrow (fun k hk hlt => by have := (ho3.lt _ hk).1; omega)
      have hlt6 : w1.heap.size + 1 < w4.heap.size := Nat.lt_of_lt_of_le (by simp; omega) hgrow.size
      clear hpl3 hres3 hit3 hf4 ho3 r0 r1 r2 r3 hgr hgrow hwc
      have r0 := Blk.all hpl4
      go_wp2_with fail
      refine (behind_calls HOK.out (along start pre) (by obtain ⟨x1, x2, x3, x4⟩ := hfit; exact ⟨by omega, by omega, by omega, by omega⟩) _).mono ?_
      rintro e w5 ⟨rfl, hf6⟩
      have hpl5 := hpl4.fr hf6 (fun x => x)
      have hres5 := hres4.fr hf6 (fun x => x)
      have hit5 := (hf6.block _ hlt6 (fun x => x)).trans hit4
      have ho5 := own_fr hown4 hf6 (fun _ _ x => x)
      have hf7 := hf5.callNo hf6
      clear hpl4 hres4 hit4 hown4 hf5 hlt6 hf6 r0
      simp only [plA]
      have gc := Blk.all hpl5
      have gf := Blk.frees hpl5
      go_wp2_with fail
      obtain ⟨e1, e2⟩ := pl_exit2 hpl5 hf7 (by omega) (behind (along start pre) c) _ rfl
      have hres6 := (((hres5.set_ne ⟨w1.heap.size, 0, none⟩ (.int .i64 (behind (along start pre) c).b) (by simp; omega)).set_ne ⟨w1.heap.size, 1, none⟩ (.int .i64 (behind (along start pre) c).g) (by simp; omega)).set_ne ⟨w1.heap.size, 2, none⟩ (.int .i64 (behind (along start pre) c).l) (by simp; omega)).set_ne ⟨w1.heap.size, 3, none⟩ (.int .i64 (behind (along start pre) c).c) (by simp; omega)
      have hit6 := Blk.set_ne (Blk.set_ne (Blk.set_ne (Blk.set_ne (show Blk w5 (w1.heap.size + 1) _ from hit5) ⟨w1.heap.size, 0, none⟩ (.int .i64 (behind (along start pre) c).b) (by simp)) ⟨w1.heap.size, 1, none⟩ (.int .i64 (behind (along start pre) c).g) (by simp)) ⟨w1.heap.size, 2, none⟩ (.int .i64 (behind (along start pre) c).l) (by simp)) ⟨w1.heap.size, 3, none⟩ (.int .i64 (behind (along start pre) c).c) (by simp)
      have ho6 := own_pl ho5 (g := w1.heap.size) (fun e => by have := (ho5.lt _ e).1; omega) (behind (along start pre) c) _ rfl
      have hga : glys start (pre ++ [c]) = glys start pre ++ [⟨c, along start pre⟩] := by rw [glys_append]; rfl
      have hal : along start (pre ++ [c]) = behind (along start pre) c := by rw [along_append]; rfl
      have hbb : i + (enc c).length = (behind (along start pre) c).b := by rw [HI.out]; rfl
      obtain ⟨h1, h2⟩ := H1.out
      rw [hbb] at hit6
      go_roundg post.length
      case measure => rw [h2]; simp
      case rel =>
        refine ⟨pre ++ [c], post, some ⟨gg, 0, none⟩, cap, by rw [hga]; simp, by rw [h1]; simp, rfl, ?_, ?_, ?_, e2, hres6, hT.no e2⟩
        · rw [hga]
          simpa [glysV] using ho6
        · rw [hal]; exact e1
        · rw [hal]; exact hit6
theorem Glyphs_any (s : ByteArray) (w : World) (hT : Tb w) (hs : s.size ≤ maxLen) : Calls Tryd.prog 12 #[.string s] w (GlyGot w (glyS s.data.toList)) := by
  have hl := Lib.size_eq s
  by_cases h : 4096 < s.size
  · have e : glyS s.data.toList = .bad 2 zeroPl := if_pos (by omega)
    rw [e]
    exact Glyphs_long s w h hs
  · rw [glyS_eq (txt_of _) (by omega)]
    exact Glyphs_short s w hT (by omega) (txt_of _)
end Go.Proofs.YtjmjdmmojgmcdaaDoor
