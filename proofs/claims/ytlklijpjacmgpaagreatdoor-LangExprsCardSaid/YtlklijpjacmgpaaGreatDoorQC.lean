/- The reference's parser: part. -/
import Derived.Test.YtlklijpjacmgpaaGreatDoorQB
import Derived.Deep.AppendLies
import Derived.Deep.RegionHeld3
namespace Go.Proofs.YtlklijpjacmgpaaGreatDoor
open Go.RowKit
set_option linter.unusedVariables false
set_option linter.unusedSimpArgs false
attribute [local go_sem ↓] Go.wp_at_zero Go.wp_at_succ

theorem info_xp : (Tryz.prog.info? 125).map (fun i => (i.zero, i.size, i.bytes)) = some (some (.agg #[.int .i64 0, .int .i64 0, .int .i64 0, .int .i64 0, .bool false, .slice none 0 0]), 6, 64) := by kernel_rfl
abbrev xpV (x : XP) (a : Option Addr) (c : Nat) : List Value := [.int .i64 x.op, .int .i64 x.v, .int .i64 x.a, .int .i64 x.b, .bool false, .slice a (dig 10000 x.num).length c]
theorem XsAre.snoc {w : World} {B : Nat} {x : XP} {a : Option Addr} {c : Nat} (ho : w.ownsRow B 3 1 (.slice a (dig 10000 x.num).length c) (dig 10000 x.num).length (i64s (dig 10000 x.num))) : ∀ (l : List XP) (vs : List Value), XsAre w B l vs → XsAre w B (l ++ [x]) (vs ++ xpV x a c)
  | [], vs, h => by
    simp only [XsAre] at h
    subst h
    exact ⟨a, c, [], rfl, ho, rfl⟩
  | y :: r, vs, ⟨a', c', us, h1, h2, h3⟩ => ⟨a', c', us ++ xpV x a c, by rw [h1, List.append_assoc], h2, XsAre.snoc ho r us h3⟩
/-- the program's block and the row of parts -/
def PQc (q : Nat) (w : World) : Nat → Prop := fun j => j = q ∨ ∃ cs fz, Blk w j (.cells cs 125 fz)
theorem PrM.grow {w0 w wx : World} {b q : Nat} {Lv Nv Mv Bv Tv Pv' : Value} {pl : Pl} {toks : List Tok} {s : PS} (h : PrM w0 w b q Lv Nv Mv Bv Tv pl toks s) {us : List Value} (hX : XsAre w w0.heap.size s.parts us) {x : XP} {a6 : Option Addr} {c6 : Nat} (hx : w.ownsRow w0.heap.size 3 1 (.slice a6 (dig 10000 x.num).length c6) (dig 10000 x.num).length (i64s (dig 10000 x.num)))
    (f : Fr (PQc q w) w wx) (f0 : Fr No w0 wx) (hQ : Blk wx q (pqO Bv Tv Pv' pl)) (hO : wx.ownsRow w0.heap.size 125 6 Pv' (s.parts.length + 1) (us ++ xpV x a6 c6)) : PrM w0 wx b q Lv Nv Mv Bv Tv pl toks { s with parts := s.parts ++ [x] } := by
  obtain ⟨Pv, us0, h1, h2, h3⟩ := h.pg
  have hap : ∀ k, w0.heap.size ≤ k → k < w.heap.size → PQc q w k → ∃ cs t fz, Blk w k (.cells cs t fz) ∧ t ≠ 3 := by
    rintro k _ _ (rfl | ⟨cs, fz, hb⟩)
    · exact ⟨_, _, _, h1, by decide⟩
    · exact ⟨_, _, _, hb, by decide⟩
  have hap2 : ∀ {e : TypeId} {size n : Nat} {v : Value} {xs : List Value}, w.ownsRow w0.heap.size e size v n xs → e ≠ 125 → e ≠ 72 → wx.ownsRow w0.heap.size e size v n xs := by
    intro e size n v xs ho he1 he2
    refine own_fr ho f ?_
    rintro k hk (rfl | ⟨cs, fz, hb⟩)
    · exact own_nx ho h1 (Ne.symm he2) hk
    · exact own_nx ho hb (Ne.symm he1) hk
  refine ⟨f0, h.hb, h.hq, h.ne, h.blk.fr f ?_, ⟨Pv', us ++ xpV x a6 c6, hQ, ?_, XsAre.snoc (hap2 hx (by decide) (by decide)) _ _ (XsAre.apart f hap _ _ hX)⟩, hap2 h.tk (by decide) (by decide), h.lt, h.le, h.gd⟩
  · rintro (e | ⟨cs, fz, hb⟩)
    · exact h.ne e
    · have e1 : w.heap[b]? = _ := h.blk
      have e2 : w.heap[b]? = _ := hb
      rw [e1] at e2
      simp only [psO, Option.some.injEq, Obj.cells.injEq] at e2
      exact absurd e2.2.1 (by decide)
  · show wx.ownsRow w0.heap.size 125 6 Pv' (s.parts ++ [x]).length (us ++ xpV x a6 c6)
    rw [List.length_append]
    exact hO
set_option maxRecDepth 100000 in
set_option maxHeartbeats 8000000 in
theorem part_ref {w0 w : World} {b q : Nat} {Lv Nv Mv Bv Tv : Value} {pl : Pl} {toks : List Tok} {s : PS} (x : XP) (a6 : Option Addr) (c6 : Nat) (h : PrM w0 w b q Lv Nv Mv Bv Tv pl toks s) (hx : w.ownsRow w0.heap.size 3 1 (.slice a6 (dig 10000 x.num).length c6) (dig 10000 x.num).length (i64s (dig 10000 x.num))) (hp : s.parts.length ≤ 100000) :
    Calls Tryz.prog 101 #[.pointer (some ⟨b, 0, none⟩), .agg #[.int .i64 x.op, .int .i64 x.v, .int .i64 x.a, .int .i64 x.b, .bool false, .slice a6 (dig 10000 x.num).length c6]] w fun e w' => e = .returned (.int .i64 s.parts.length) ∧ PrM w0 w' b q Lv Nv Mv Bv Tv pl toks { s with parts := s.parts ++ [x] } := by
  obtain ⟨i0, hi, hz0, hz1, hz2⟩ := info_parts info_xp
  obtain ⟨Pv, us, hP, hO, hX⟩ := h.pg
  obtain ⟨aP, cP, rfl⟩ := own_form hO
  have hN := Blk.new w (.cells (xpV x a6 c6).toArray 125 (0, 0))
  have hal := (Fr.refl No w).alloc (.cells (xpV x a6 c6).toArray 125 (0, 0))
  have hB1 := h.blk.fr hal (fun x => x)
  have hQ1 := hP.fr hal (fun x => x)
  have hO1 := own_fr hO hal (fun _ _ x => x)
  have hne := h.ne
  have hrN : (Value.slice aP s.parts.length cP).ownBlock ≠ some w.heap.size := fun e => by have := (hO.lt _ e).2; omega
  have hrb : (Value.slice aP s.parts.length cP).ownBlock ≠ some b := own_nx hO h.blk (by decide)
  have hrq : (Value.slice aP s.parts.length cP).ownBlock ≠ some q := own_nx hO hP (by decide)
  have hw0 := h.fr.size
  have hbN : b < w.heap.size := h.blk.lt
  have hqN : q < w.heap.size := hP.lt
  have hOw := hO
  have H := Lib.hid (And.intro h (And.intro hX (And.intro hx (And.intro hal hOw))))
  clear h hX hx hal hP hO hOw
  have hN' : Blk (w.alloc (.cells (xpV x a6 c6).toArray 125 (0, 0))) w.heap.size (.cells #[.int .i64 x.op, .int .i64 x.v, .int .i64 x.a, .int .i64 x.b, .bool false, .slice a6 (dig 10000 x.num).length c6] 125 (0, 0)) := hN
  clear hN
  go_enter Tryz.func101, Tryz.ntmps101
  go_upto_region 1 with (fail)
  obtain ⟨w1, hw1⟩ : ∃ w1, w.alloc (.cells #[.int .i64 x.op, .int .i64 x.v, .int .i64 x.a, .int .i64 x.b, .bool false, .slice a6 (dig 10000 x.num).length c6] 125 (0, 0)) = w1 := ⟨_, rfl⟩
  have hsz : w1.heap.size = w.heap.size + 1 := by rw [← hw1]; exact alloc_size _ _
  change Blk (w.alloc (.cells #[.int .i64 x.op, .int .i64 x.v, .int .i64 x.a, .int .i64 x.b, .bool false, .slice a6 (dig 10000 x.num).length c6] 125 (0, 0))) b _ at hB1
  change Blk (w.alloc (.cells #[.int .i64 x.op, .int .i64 x.v, .int .i64 x.a, .int .i64 x.b, .bool false, .slice a6 (dig 10000 x.num).length c6] 125 (0, 0))) q _ at hQ1
  change (w.alloc (.cells #[.int .i64 x.op, .int .i64 x.v, .int .i64 x.a, .int .i64 x.b, .bool false, .slice a6 (dig 10000 x.num).length c6] 125 (0, 0))).ownsRow _ _ _ _ _ _ at hO1
  rw [hw1] at hB1 hQ1 hO1 hN' ⊢
  obtain ⟨N, hNe⟩ : ∃ N, w.heap.size = N := ⟨_, rfl⟩
  rw [hNe] at hrN hbN hqN hN' hsz ⊢
  have HW := Lib.hid (And.intro hw1 (And.intro hNe hsz))
  have hN1 : N < w1.heap.size := by omega
  have hb1 : b < w1.heap.size := by omega
  have hq1 : q < w1.heap.size := by omega
  have hw01 : w0.heap.size ≤ w1.heap.size := by omega
  clear hw1 hNe hsz
  have R := Blk.all hB1
  have RQ := Blk.all hQ1
  have RN := Blk.all hN'
  go_cut [] (fun wx => PrM w0 wx b q Lv Nv Mv Bv Tv pl toks { s with parts := s.parts ++ [x] })
  case first =>
    go_region_law (first | (refine step_append_lies _ (by rfl) _ _ _ (by rfl) w0.heap.size 125 i0 _ 6 64 Tryz.underlying70 hi hz0 hz1 hz2 rfl (by omega) (.slice aP s.parts.length cP) s.parts.length us (by rfl) ((hO1.alloc _).drew) ⟨w1.heap.size, 0, none⟩ 1 1 (xpV x a6 c6) (by rfl) (by rfl) (World.news_of_block (cs := #[.int .i64 x.op, .int .i64 x.v, .int .i64 x.a, .int .i64 x.b, .bool false, .slice a6 (dig 10000 x.num).length c6]) (t := 125) (fr := (0, 0)) (heap_alloc_new w1 _)) (by intro u hu; simp only [xpV, List.mem_cons, List.not_mem_nil, or_false] at hu; rcases hu with rfl | rfl | rfl | rfl | rfl | rfl <;> rfl) (by omega) (by unfold maxLen; omega) (by omega) (by simp; omega) (w1.heap.size + 1) (by simp) ?_; intro gg cap w4 hown4 hgrow hat hlt; have hgr := Fr.grown (S := fun k => (Value.slice aP s.parts.length cP).ownBlock = some k) (Fr.refl _ _) hgrow (fun k hk _ => hk); have hQ4 := ((hQ1.alloc _).drew).fr hgr hrq; have RQ4 := Blk.all hQ4; have ZQ4 := Blk.frees hQ4; have hB4 := ((hB1.alloc _).drew).fr hgr hrb; have RB4 := Blk.all hB4))
    all_goals go_wp2_with fail
    all_goals go_meet
    all_goals
      have hf1 : Fr (PQc q w) w w1 := HW.out.1 ▸ Fr.ofNo H.out.2.2.2.1
      have hfq := ((hf1.alloc (.cells #[.int .i64 x.op, .int .i64 x.v, .int .i64 x.a, .int .i64 x.b, .bool false, .slice a6 (dig 10000 x.num).length c6] 125 (0, 0))).drew.grown hgrow (fun k hk _ => Or.inr (by obtain ⟨cur, hc⟩ := own_obj H.out.2.2.2.2 hk; exact ⟨_, _, hc⟩))).setCell (a := ⟨q, 2, none⟩) (.slice (some ⟨gg, 0, none⟩) (s.parts.length + 1) cap) (fun _ => Or.inl rfl)
      have hfw : Fr No w0 w1 := HW.out.1 ▸ H.out.1.fr.callNo H.out.2.2.2.1
      have hf0 := ((hfw.alloc (.cells #[.int .i64 x.op, .int .i64 x.v, .int .i64 x.a, .int .i64 x.b, .bool false, .slice a6 (dig 10000 x.num).length c6] 125 (0, 0))).drew.grown hgrow (fun k hk hlt => by have := (World.ownsRow.lt H.out.2.2.2.2 k hk).1; omega)).setCell (a := ⟨q, 2, none⟩) (.slice (some ⟨gg, 0, none⟩) (s.parts.length + 1) cap) (fun hlt => by have := H.out.1.hq; exact absurd hlt (by show ¬ q < w0.heap.size; omega))
      exact H.out.1.grow H.out.2.1 H.out.2.2.1 hfq hf0 (hQ4.setOff 2 (.slice (some ⟨gg, 0, none⟩) (s.parts.length + 1) cap)) (own_fr hown4 ((Fr.refl (· = q) w4).setCell (a := ⟨q, 2, none⟩) (.slice (some ⟨gg, 0, none⟩) (s.parts.length + 1) cap) (fun _ => rfl)) (fun k hk e => own_nx hown4 hQ4 (by decide) (e ▸ hk)))
  case rest =>
    have h2 := hcut
    obtain ⟨Pv2, us2, hP2, hO2, _⟩ := h2.pg
    obtain ⟨a9, c9, rfl⟩ := own_form hO2
    have hl9 : ({ s with parts := s.parts ++ [x] } : PS).parts.length = s.parts.length + 1 := by simp
    rw [hl9] at hP2
    have R := Blk.all h2.blk
    have RQ := Blk.all hP2
    have H2 := Lib.hid hcut
    clear hcut h2 hO2 hP2
    go_wp2_with fail
    go_ret
    exact ⟨rfl, H2.out⟩
end Go.Proofs.YtlklijpjacmgpaaGreatDoor
