/- The reference's Glyphs. -/
import Derived.Test.YtklhfbgmadblcaaDoorL2
import Derived.Deep.AppendLies
namespace Go.Proofs.YtklhfbgmadblcaaDoor
open Go.RowKit
set_option linter.unusedVariables false
set_option linter.unusedSimpArgs false
attribute [local go_sem ↓] Go.wp_at_zero Go.wp_at_succ

structure Gly where
  code : Nat
  at_ : Pl
/-- the glyphs of a text -/
def glys : Pl → List Nat → List Gly
  | _, [] => []
  | p, c :: cs => ⟨c, p⟩ :: glys (behind p c) cs
theorem glys_len (p : Pl) (cs : List Nat) : (glys p cs).length = cs.length := by
  induction cs generalizing p with
  | nil => rfl
  | cons c cs ih => simp [glys, ih]
theorem glys_append (p : Pl) (a b : List Nat) : glys p (a ++ b) = glys p a ++ glys (along p a) b := by
  induction a generalizing p with
  | nil => rfl
  | cons c a ih => simp [glys, ih, along_cons]
def glyC (x : Gly) : List Value := [.int .i64 x.code, .int .i64 (cls x.code), .int .i64 x.at_.b, .int .i64 x.at_.g, .int .i64 x.at_.l, .int .i64 x.at_.c]
def glysV (l : List Gly) : List Value := l.flatMap glyC
theorem glysV_len (l : List Gly) : (glysV l).length = l.length * 6 := by
  induction l with
  | nil => rfl
  | cons x l ih => simp only [glysV, List.flatMap_cons, List.length_append, List.length_cons] at ih ⊢; rw [ih]; simp [glyC]; omega
theorem info_gly : (Tryd.prog.info? 45).map (fun i => (i.zero, i.size, i.bytes)) = some (some (.agg #[.int .i64 0, .int .i64 0, .int .i64 0, .int .i64 0, .int .i64 0, .int .i64 0]), 6, 48) := by kernel_rfl
theorem glyC_one (x : Gly) : ∀ u ∈ glyC x, u.oneCell' = true := by
  intro u hu
  simp only [glyC, List.mem_cons, List.not_mem_nil, or_false] at hu
  rcases hu with rfl | rfl | rfl | rfl | rfl | rfl <;> rfl

/-- what Glyphs hands back -/
inductive GRes where
  | bad (e : Int) (p : Pl)
  | ok (l : List Gly)
def GRes.gl : GRes → List Gly
  | .bad _ _ => []
  | .ok l => l
def GRes.code : GRes → Int
  | .bad n _ => n
  | .ok _ => 0
def GRes.pl : GRes → Pl
  | .bad _ p => p
  | .ok _ => zeroPl
def GlyGot (w : World) (r : GRes) (e : Ending) (w' : World) : Prop :=
  ∃ a c, e = .returned (.tuple #[.slice a r.gl.length c, .int .i64 r.code, .agg (plA r.pl)]) ∧ w'.ownsRow w.heap.size 45 6 (.slice a r.gl.length c) r.gl.length (glysV r.gl) ∧ Fr No w w'
def glyOf (cs : List Nat) (t : List UInt8) : GRes := if t = [] then .ok (glys start cs) else .bad 40 (along start cs)
noncomputable def glyS (l : List UInt8) : GRes := if 4096 < l.length then .bad 2 zeroPl else glyOf (csOf l) (tlOf l)
theorem glyS_eq {l : List UInt8} {cs : List Nat} {t : List UInt8} (T : Txt l cs t) (h : l.length ≤ 4096) : glyS l = glyOf cs t := by
  unfold glyS
  rw [if_neg (by omega)]
  obtain ⟨e1, e2⟩ := (txt_of l).uniq T
  rw [e1, e2]

set_option maxRecDepth 100000 in
set_option maxHeartbeats 4000000 in
theorem rGlyphs_long (s : ByteArray) (w : World) (h : 4096 < s.size) (hmax : s.size ≤ maxLen) :
    Calls Tryd.prog 24 #[.string s] w (GlyGot w (.bad 2 zeroPl)) := by
  unfold maxLen at hmax
  go_enter Tryd.func24, Tryd.ntmps24
  go_wp2_with fail
  have e1 : Blk _ w.heap.size (plO zeroPl) := Blk.new w (plO zeroPl)
  exact bodyPost_ret (results_ttc rfl _ _ _ _ rfl (load_pl e1 rfl)) rfl ⟨_, _, rfl, World.ownsRow_nil _ _ _ _, (Fr.refl No w).alloc _⟩

theorem Blk.frees {w : World} {b : Nat} {cs : Array Value} {t : TypeId} (h : Blk w b (.cells cs t (0, 0))) : ∀ i, w.frozen? ⟨b, i, none⟩ = false := fun i => h.free i

theorem own_pl {wr : World} {B : Nat} {e : TypeId} {size : Nat} {v : Value} {n : Nat} {xs : List Value} (h : wr.ownsRow B e size v n xs) {g : Nat} (hg : v.ownBlock ≠ some g) (p : Pl) (W : World)
    (hW : W = (((wr.setCell ⟨g, 0, none⟩ (.int .i64 p.b)).setCell ⟨g, 1, none⟩ (.int .i64 p.g)).setCell ⟨g, 2, none⟩ (.int .i64 p.l)).setCell ⟨g, 3, none⟩ (.int .i64 p.c)) : W.ownsRow B e size v n xs := by
  subst hW
  exact ownsRow_setCell_other (ownsRow_setCell_other (ownsRow_setCell_other (ownsRow_setCell_other h hg _) hg _) hg _) hg _

structure GsRel (s : ByteArray) (w wr : World) (b : Nat) (pre : List Nat) (a : Option Addr) (ca : Nat) : Prop where
  own : wr.ownsRow (b + 1) 45 6 (.slice a (glys start pre).length ca) (glys start pre).length (glysV (glys start pre))
  rd : Rd wr b s pre
  fr : Fr No w wr
  res : Blk wr w.heap.size (plO zeroPl)

set_option maxRecDepth 100000 in
set_option maxHeartbeats 4000000 in
theorem rGlyphs_short (s : ByteArray) (w : World) (hS : s.size ≤ 4096) {cs : List Nat} {t : List UInt8} (T : Txt s.data.toList cs t) :
    Calls Tryd.prog 24 #[.string s] w (GlyGot w (glyOf cs t)) := by
  obtain ⟨i0, hi, hz0, hz1, hz2⟩ := info_parts info_gly
  have hcs : cs.length ≤ 4096 := by have := T.len_le; rw [← Lib.size_eq] at this; omega
  have hd : decide ((4096 : Int) < (s.size : Int)) = false := by simp; omega
  go_enter Tryd.func24, Tryd.ntmps24
  go_wp2_with fail
  refine (Begin_calls s _).mono ?_
  rintro e w1 ⟨b, rfl, hrd, hble, hf1⟩
  have hblk : Blk w1 w.heap.size (plO zeroPl) := (Blk.new w (plO zeroPl)).fr hf1 (fun x => x)
  have hblt := hrd.lt
  have hb2 : w.heap.size < b := by simp at hble; omega
  have hf := ((Fr.refl No w).alloc _).callNo hf1
  clear hf1 hble
  go_wp2_with fail
  go_loopg [5] cs.length (fun gk x5 wr => b < wr.heap.size ∧ ∃ pre post a ca, x5 = .slice a (glys start pre).length ca ∧ cs = pre ++ post ∧ gk = post.length ∧ GsRel s w wr b pre a ca)
  case atStart => exact ⟨hblt, [], cs, none, 0, rfl, rfl, rfl, World.ownsRow_nil _ _ _ _, hrd, hf, hblk⟩
  case round =>
    obtain ⟨hbs, pre, post, a, ca, rfl, h1, h2, ho, hrd, hf, hblk⟩ := hrel
    have T1 : Txt s.data.toList (pre ++ post) t := h1 ▸ T
    have hpre : pre.length ≤ 4096 := by have := congrArg List.length h1; simp at this; omega
    have HGL := Lib.hid (glys_len start pre)
    have HE : Hid (decide ((s.size : Int) ≤ ((along start pre).b : Int)) = decide (post = [] ∧ t = [])) := by
      have hsz := T1.len
      simp only [List.flatMap_append, List.length_append] at hsz
      have hpl := along_b start pre
      have hss := Lib.size_eq s
      have hp0 : start.b = 0 := rfl
      have := flat_len_le post
      refine Lib.hid ?_
      rw [decide_eq_decide]
      constructor
      · intro h
        exact ⟨List.eq_nil_of_length_eq_zero (by omega), List.eq_nil_of_length_eq_zero (by omega)⟩
      · rintro ⟨h1, h2⟩
        rw [h1, h2] at hsz
        simp only [List.flatMap_nil, List.length_nil] at hsz
        omega
    have H1 := Lib.hid (And.intro h1 h2)
    clear h1 h2
    go_wp2_with fail
    refine (End_calls b s _ _ hS hrd).mono ?_
    rintro e w2 ⟨rfl, hq⟩
    have ho2 := own_qd ho hq
    have hrd2 := hrd.qd hq
    have hf2 := hf.qd hq
    have hblk2 := hq.blk hblk
    have hbs2 : b < w2.heap.size := by rw [hq.size]; exact hbs
    clear ho hrd hf hblk hq hbs
    by_cases hend : post = [] ∧ t = []
    · have hE : decide ((s.size : Int) ≤ ((along start pre).b : Int)) = true := by rw [HE.out]; simp [hend]
      have HT := Lib.hid hend
      clear hend
      rw [hE]
      clear hE
      have gc := Blk.all hblk2
      have gf := Blk.frees hblk2
      go_wp2
      obtain ⟨e1, e2⟩ := pl_exit hblk2 hf2 zeroPl _ rfl
      refine bodyPost_ret (results_ttc rfl _ _ _ _ rfl (load_pl e1 rfl)) rfl ?_
      obtain ⟨h1, h2⟩ := H1.out
      obtain ⟨h3, h4⟩ := HT.out
      have hcs : cs = pre := by rw [h1, h3]; simp
      have hg : glyOf cs t = .ok (glys start pre) := by rw [hcs]; simp [glyOf, h4]
      rw [hg]
      exact ⟨a, ca, rfl, own_mono (own_pl ho2 (fun e => by have := (ho2.lt _ e).1; omega) zeroPl _ rfl) (by omega), e2⟩
    · have hE : decide ((s.size : Int) ≤ ((along start pre).b : Int)) = false := by rw [HE.out]; simpa using hend
      rw [hE]
      clear hE
      have HN := Lib.hid hend
      clear hend
      go_wp2_with fail
      refine (Look_at T1 hS hrd2).mono ?_
      rintro e w3 ⟨rfl, hq3⟩
      have ho3 := own_qd ho2 hq3
      have hrd3 := hrd2.qd hq3
      have hf3 := hf2.qd hq3
      have hblk3 := hq3.blk hblk2
      have hbs3 : b < w3.heap.size := by rw [hq3.size]; exact hbs2
      clear ho2 hrd2 hf2 hblk2 hq3 hbs2
      cases post with
      | nil =>
        have ht : t ≠ [] := fun h => HN.out ⟨rfl, h⟩
        have hlk : lk (!t.isEmpty) [] = -2 := by cases t with
          | nil => exact absurd rfl ht
          | cons _ _ => rfl
        have HNE := Lib.hid ht
        clear ht
        rw [hlk]
        clear hlk
        have gc := Blk.all hblk3
        have gf := Blk.frees hblk3
        have rc := Blk.all hrd3
        have hne : b ≠ w.heap.size := by omega
        have hne2 : w.heap.size ≠ b := by omega
        go_wp2_with fail
        go_region
        go_wp2_with fail
        obtain ⟨e1, e2⟩ := pl_exit hblk3 hf3 _ _ rfl
        refine bodyPost_ret (results_ttc rfl _ _ _ _ rfl (load_pl e1.drew rfl)) rfl ?_
        obtain ⟨h1, h2⟩ := H1.out
        have hg : glyOf cs t = .bad 40 (along start pre) := by rw [h1]; simp [glyOf, HNE.out]
        rw [hg]
        exact ⟨none, 0, rfl, World.ownsRow_nil _ _ _ _, e2.drew⟩
      | cons c post =>
        have hlk : lk (!t.isEmpty) (c :: post) = c := rfl
        rw [hlk]
        have hz : decide ((c : Int) < 0) = false := by simp
        have gc := Blk.all hblk3
        have gf := Blk.frees hblk3
        have rc := Blk.all hrd3
        have hne : b ≠ w.heap.size := by omega
        have hne2 : w.heap.size ≠ b := by omega
        have r1 := rc 1
        have r2 := rc 2
        have r3 := rc 3
        have r4 := rc 4
        simp only [List.getElem?_toArray, List.getElem?_cons_succ, List.getElem?_cons_zero] at r1 r2 r3 r4
        clear rc gc gf
        have hrow : (Value.slice a (glys start pre).length ca).ownBlock ≠ some b := fun e => by have := (ho3.lt _ e).1; omega
        have hgl : (glys start pre).length ≤ 4096 := by rw [HGL.out]; exact hpre
        go_wp2_with fail
        go_region_held3 (fun w' => w'.cell? ⟨b, 1, none⟩ = some (.int .i64 (along start pre).b) ∧ w'.cell? ⟨b, 2, none⟩ = some (.int .i64 (along start pre).g) ∧ w'.cell? ⟨b, 3, none⟩ = some (.int .i64 (along start pre).l) ∧ w'.cell? ⟨b, 4, none⟩ = some (.int .i64 (along start pre).c))
          (first | go_keep | (go_split_ands; refine ⟨?_, ?_, ?_, ?_⟩ <;> (rw [hgrow.cell_far _ (by simp; omega) (Ne.symm hrow)]; assumption)))
          (first | (go_at_call 15; refine (rClass_calls _ _).mono ?_; rintro e w' ⟨rfl, rfl⟩) | (refine step_append_lies _ (by rfl) _ _ _ (by rfl) (b + 1) 45 i0 _ 6 48 Tryd.underlying39 hi hz0 hz1 hz2 rfl (by omega) (.slice a (glys start pre).length ca) (glys start pre).length (glysV (glys start pre)) (by rfl) ((ho3.alloc _).drew) ⟨w3.heap.size, 0, none⟩ 1 1 (glyC ⟨c, along start pre⟩) (by rfl) (by rfl) (World.news_of_block (cs := #[.int .i64 c, .int .i64 (cls c), .int .i64 (along start pre).b, .int .i64 (along start pre).g, .int .i64 (along start pre).l, .int .i64 (along start pre).c]) (t := 45) (fr := (0, 0)) (heap_alloc_new w3 _)) (glyC_one _) (by omega) (by unfold maxLen; omega) (by omega) (by simp; omega) (w3.heap.size + 1) (by simp) ?_; intro gg cap w4 hown4 hgrow hat hlt))
        have hrd4 : Rd w4 b s pre := (hrd3.alloc _).drew.fr (Fr.grown (S := fun q => (Value.slice a (glys start pre).length ca).ownBlock = some q) (Fr.refl _ _) hgrow (fun q hq _ => hq)) (fun hq => hrow hq)
        have hblk4 : Blk w4 w.heap.size (plO zeroPl) := (hblk3.alloc _).drew.fr (Fr.grown (S := fun q => (Value.slice a (glys start pre).length ca).ownBlock = some q) (Fr.refl _ _) hgrow (fun q hq _ => hq)) (fun e => by have := (ho3.lt _ e).1; omega)
        have hf4 : Fr No w w4 := (hf3.alloc _).drew.grown hgrow (fun k hk hlt => by have := (ho3.lt _ hk).1; omega)
        have hbs4 : b < w4.heap.size := Nat.lt_of_lt_of_le (by simp; omega) hgrow.size
        clear hrd3 hblk3 hf3 hbs3 ho3 r1 r2 r3 r4
        go_wp2_with fail
        refine (Next_at T1 hS hrd4).mono ?_
        rintro e w5 ⟨rfl, hrd5, hf5⟩
        have hown5 := own_fr hown4 hf5 (fun k hk e => by have := (hown4.lt k hk).1; omega)
        have hblk5 := hblk4.fr hf5 (by omega)
        have hf6 := hf4.call hf5 (fun k hk hkb => by omega)
        have hbs5 : b < w5.heap.size := Nat.lt_of_lt_of_le hbs4 hf5.size
        go_wp2
        obtain ⟨h1, h2⟩ := H1.out
        have hga : glys start (pre ++ [c]) = glys start pre ++ [⟨c, along start pre⟩] := by rw [glys_append]; rfl
        go_roundg post.length
        case measure => rw [h2]; simp
        case rel =>
          refine ⟨hbs5, pre ++ [c], post, some ⟨gg, 0, none⟩, cap, by rw [hga]; simp, by rw [h1]; simp, rfl, ?_, hrd5, hf6, hblk5⟩
          rw [hga]
          simpa [glysV] using hown5
theorem rGlyphs_any (s : ByteArray) (w : World) (hs : s.size ≤ maxLen) : Calls Tryd.prog 24 #[.string s] w (GlyGot w (glyS s.data.toList)) := by
  have hl := Lib.size_eq s
  by_cases h : 4096 < s.size
  · have e : glyS s.data.toList = .bad 2 zeroPl := if_pos (by omega)
    rw [e]
    exact rGlyphs_long s w h hs
  · rw [glyS_eq (txt_of _) (by omega)]
    exact rGlyphs_short s w (by omega) (txt_of _)
end Go.Proofs.YtklhfbgmadblcaaDoor
