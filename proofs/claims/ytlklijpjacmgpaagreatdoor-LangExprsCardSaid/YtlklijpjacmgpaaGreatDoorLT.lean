/- limbs.Trim, whole.Neg, whole.Trim. -/
import Derived.Test.YtlklijpjacmgpaaGreatDoorLK
import Derived.Laws.AppendOwnNone
import Derived.Deep.RegionHeld3
namespace Go.Proofs.YtlklijpjacmgpaaGreatDoor
open Go.RowKit
set_option linter.unusedVariables false
set_option linter.unusedSimpArgs false
attribute [local go_sem ↓] Go.wp_at_zero Go.wp_at_succ

set_option maxRecDepth 100000 in
set_option maxHeartbeats 1000000 in
theorem lTrim_calls (B : Nat) (v : Value) (xs : List Nat) (w : World) (hl : xs.length ≤ 1000000000) (h : w.ownsRow B 57 1 v xs.length (u32s xs)) :
    Calls Tryz.prog 86 #[v] w fun e w' => ∃ a c, e = .returned (.slice a (trimT xs).length c) ∧ w'.ownsRow w.heap.size 57 1 (.slice a (trimT xs).length c) (trimT xs).length (u32s (trimT xs)) ∧ Fr No w w' := by
  obtain ⟨i0, hi, hz0, hz1, hz2⟩ := info_parts info_u32
  have htl : (trimT xs).length ≤ xs.length := by
    obtain ⟨k, hk, he, _⟩ := trimT_prefix xs
    rw [he, List.length_take]; omega
  obtain ⟨ts, hts⟩ : ∃ ts, trimT xs = ts := ⟨_, rfl⟩
  rw [hts] at htl ⊢
  have HT := Lib.hid hts
  clear hts
  go_enter Tryz.func86, Tryz.ntmps86
  go_wp2_with fail
  refine (short_calls B v xs _ hl h).mono ?_
  rintro e w1 ⟨a, c, rfl, ho, hb, q⟩
  have hf : Fr No w w1 := q.fr No
  have hs1 := q.size
  rw [HT.out] at ho ⊢
  have hu : (u32s ts).length = ts.length := by simp [u32s]
  have hone : ∀ u ∈ u32s ts, u.oneCell' = true := by
    intro u hu
    simp only [u32s, List.mem_map] at hu
    obtain ⟨x, _, rfl⟩ := hu
    rfl
  clear hb h
  rcases own_cases ho with ⟨h1, h2, h3⟩ | ⟨g, cap, h1, hB, hg, hcap⟩
  · have e : ts = [] := by simpa using h2
    subst e
    simp only [List.length_nil] at h1 ⊢
    rw [h1]
    have hn : World.ownsRow w1 w.heap.size 57 1 (.slice none 0 0) 0 [] := World.ownsRow_nil _ _ _ _
    clear h1 h2 h3 hu hone ho
    go_wp2_with (at_builtin; refine wpList_append_own_none rfl _ _ 52 rfl w.heap.size 57 i0 1 Tryz.underlying52 hi _ _ _ rfl hn rfl ?_)
    go_ret
    exact ⟨none, 0, rfl, hn, hf⟩
  · rw [h1] at ho ⊢
    have hc := fun j u (hj : (u32s ts)[j]? = some u) => own_cell ho hj
    have hn : World.ownsRow w1 w.heap.size 57 1 (.slice none 0 0) 0 [] := World.ownsRow_nil _ _ _ _
    have HU := Lib.hid hu
    have HC := Lib.hid (And.intro hone hc)
    clear h1 hu hone hc ho
    go_wp2_with (at_builtin; refine wpList_append_own _ rfl _ _ 52 rfl w.heap.size 57 i0 (.int .u32 0) 1 4 Tryz.underlying52 hi hz0 hz1 hz2 rfl (by decide) _ _ _ rfl hn ⟨g, 0, none⟩ ts.length cap (u32s ts) rfl ?c0 ?c1 ?c2 ?c3 ?c4 ?c5 ?_)
    case c0 => rw [HU.out, Nat.mul_one]
    case c1 => intro j u hj; have := HC.out.2 j u hj; rw [show (⟨g, 0, none⟩ : Addr).add j = ⟨g, j, none⟩ by unfold Addr.add; split <;> simp_all]; exact this
    case c2 => exact HC.out.1
    case c3 => unfold maxLen; omega
    case c4 => omega
    case c5 => omega
    intro v2 w2 hown hgr hnil
    obtain ⟨a2, c2, rfl⟩ := own_form hown
    go_wp2_with fail
    go_ret
    exact ⟨a2, c2, rfl, hown, hf.grown hgr (fun k hk => by cases hk)⟩
theorem set2 {w : World} {N : Nat} {t : TypeId} {a0 a1 : Value} (h : Blk w N (.cells #[a0, a1] t (0, 0))) (v0 v1 : Value) : Blk ((w.setCell ⟨N, 0, none⟩ v0).setCell ⟨N, 1, none⟩ v1) N (.cells #[v0, v1] t (0, 0)) := by
  have h1 : Blk _ N (.cells #[v0, a1] t (0, 0)) := h.setOff 0 v0
  have h2 : Blk _ N (.cells #[v0, v1] t (0, 0)) := h1.setOff 1 v1
  exact h2
theorem fr2 {S : Nat → Prop} {w0 w : World} {N : Nat} (h : Fr S w0 w) (hN : ∀ i, (⟨N, i, none⟩ : Addr).block < w0.heap.size → S (⟨N, i, none⟩ : Addr).block) (v0 v1 : Value) : Fr S w0 ((w.setCell ⟨N, 0, none⟩ v0).setCell ⟨N, 1, none⟩ v1) :=
  (h.setCell (a := ⟨N, 0, none⟩) v0 (hN 0)).setCell (a := ⟨N, 1, none⟩) v1 (hN 1)
set_option maxRecDepth 100000 in
set_option maxHeartbeats 2000000 in
theorem wNeg_calls (B : Nat) (neg : Bool) (a : Option Addr) (c : Nat) (xs : List Nat) (w : World) (hl : xs.length ≤ 1000000000) (h : w.ownsRow B 57 1 (.slice a xs.length c) xs.length (u32s xs)) :
    Calls Tryz.prog 70 #[whV neg a xs.length c] w fun e w' => ∃ a c, e = .returned (whV ((!neg) && decide (0 < (trimT xs).length)) a (trimT xs).length c) ∧ w'.ownsRow w.heap.size 57 1 (.slice a (trimT xs).length c) (trimT xs).length (u32s (trimT xs)) ∧ Fr No w w' := by
  obtain ⟨ts, hts⟩ : ∃ ts, trimT xs = ts := ⟨_, rfl⟩
  have HT := Lib.hid hts
  rw [hts]
  clear hts
  have hN := Blk.new w (.cells #[.bool neg, .slice a xs.length c] 54 (0, 0))
  go_enter Tryz.func70, Tryz.ntmps70
  go_wp2_with fail
  have hN2 := hN.alloc (.cells #[.bool false, .slice none 0 0] 54 (0, 0))
  have hR := Blk.new (w.alloc (.cells #[.bool neg, .slice a xs.length c] 54 (0, 0))) (.cells #[.bool false, .slice none 0 0] 54 (0, 0))
  have hF := ((Fr.refl No w).alloc (.cells #[.bool neg, .slice a xs.length c] 54 (0, 0))).alloc (.cells #[.bool false, .slice none 0 0] 54 (0, 0))
  have hsz : (w.alloc (.cells #[.bool neg, .slice a xs.length c] 54 (0, 0))).heap.size = w.heap.size + 1 := by show (w.heap.push _).size = _; simp
  rw [hsz] at hR
  obtain ⟨W0, hW0⟩ : ∃ W, (w.alloc (.cells #[.bool neg, .slice a xs.length c] 54 (0, 0))).alloc (.cells #[.bool false, .slice none 0 0] 54 (0, 0)) = W := ⟨_, rfl⟩
  rw [hW0] at hN2 hR hF ⊢
  have ho := own_fr h hF (fun _ _ x => x)
  obtain ⟨N, hNe⟩ : ∃ N, w.heap.size = N := ⟨_, rfl⟩
  rw [hNe] at hN2 hR ⊢
  have hNl := hN2.lt
  have hRl := hR.lt
  have hA0 : ∀ i, W0.drew.cell? ⟨N, i, none⟩ = (#[.bool neg, .slice a xs.length c] : Array Value)[i]? := Blk.all hN2.drew
  have hNe1 : N ≠ N + 1 := by omega
  clear hW0 hsz hN h
  have HE := Lib.hid hNe
  have hxl : W0.drew.ownsRow B 57 1 (.slice a xs.length c) xs.length (u32s xs) := own_fr ho (Fr.drew (Fr.refl No W0)) (fun _ _ x => x)
  clear hNe ho
  go_region_held3 (fun w' => ∀ i, w'.cell? ⟨N, i, none⟩ = (#[.bool neg, .slice a xs.length c] : Array Value)[i]?) (with_reducible (first | exact hA0 | exact hAG | exact hAH | exact all_far (all_far hAH hNe1) hNe1)) (first | (go_at_call 86; refine (lTrim_calls B _ xs _ hl hxl).mono ?_; rintro e w' ⟨a1, c1, rfl, ho1, hf1⟩; rw [HT.out] at ho1; rw [HT.out]; have hAG : ∀ i, w'.cell? ⟨N, i, none⟩ = (#[.bool neg, .slice a xs.length c] : Array Value)[i]? := Blk.all (hN2.drew.fr hf1 (fun x => x))) | (go_at_call 85; refine (made_calls _ _ _ _ _).mono ?_; rintro e w'' ⟨rfl, hf2⟩; have hAH : ∀ i, w''.cell? ⟨N, i, none⟩ = (#[.bool neg, .slice a xs.length c] : Array Value)[i]? := Blk.all ((hN2.drew.fr hf1 (fun x => x)).fr hf2 (fun x => x)); have hZH : ∀ i, w''.frozen? ⟨N + 1, i, none⟩ = false := Blk.frees ((hR.drew.fr hf1 (fun x => x)).fr hf2 (fun x => x)); have hCH : ∀ i, w''.cell? ⟨N + 1, i, none⟩ = (#[.bool false, .slice none 0 0] : Array Value)[i]? := Blk.all ((hR.drew.fr hf1 (fun x => x)).fr hf2 (fun x => x))))
  all_goals go_wp2_with fail
  all_goals have hWA := set2 ((hR.drew.fr hf1 (fun x => x)).fr hf2 (fun x => x)) (.bool ((!neg) && decide (0 < ts.length))) (.slice a1 ts.length c1)
  all_goals have hf4 := fr2 ((hF.drew.callNo hf1).callNo hf2) (N := N + 1) (fun i h => absurd h (Nat.not_lt.2 (by have := HE.out; simp only; omega))) (.bool ((!neg) && decide (0 < ts.length))) (.slice a1 ts.length c1)
  all_goals have hwA := fr2 (Fr.refl (· = N + 1) w'') (N := N + 1) (fun _ _ => rfl) (.bool ((!neg) && decide (0 < ts.length))) (.slice a1 ts.length c1)
  all_goals exact bodyPost_ret (results_cell rfl _ _ _ _ rfl (load_wh hWA rfl)) rfl ⟨a1, c1, rfl, own_mono (own_fr (own_fr ho1 hf2 (fun _ _ x => x)) hwA (fun k hk e => by have := (ho1.lt k hk).1; have hd : W0.drew.heap.size = W0.heap.size := rfl; omega)) (by have hd : W0.drew.heap.size = W0.heap.size := rfl; have := HE.out; omega), hf4⟩

set_option maxRecDepth 100000 in
set_option maxHeartbeats 2000000 in
theorem wTrim_calls (B : Nat) (neg : Bool) (a : Option Addr) (c : Nat) (xs : List Nat) (w : World) (hl : xs.length ≤ 1000000000) (h : w.ownsRow B 57 1 (.slice a xs.length c) xs.length (u32s xs)) :
    Calls Tryz.prog 42 #[whV neg a xs.length c] w fun e w' => ∃ a c, e = .returned (whV ((neg) && decide (0 < (trimT xs).length)) a (trimT xs).length c) ∧ w'.ownsRow w.heap.size 57 1 (.slice a (trimT xs).length c) (trimT xs).length (u32s (trimT xs)) ∧ Fr No w w' := by
  obtain ⟨ts, hts⟩ : ∃ ts, trimT xs = ts := ⟨_, rfl⟩
  have HT := Lib.hid hts
  rw [hts]
  clear hts
  have hN := Blk.new w (.cells #[.bool neg, .slice a xs.length c] 54 (0, 0))
  go_enter Tryz.func42, Tryz.ntmps42
  go_wp2_with fail
  have hN2 := hN.alloc (.cells #[.bool false, .slice none 0 0] 54 (0, 0))
  have hR := Blk.new (w.alloc (.cells #[.bool neg, .slice a xs.length c] 54 (0, 0))) (.cells #[.bool false, .slice none 0 0] 54 (0, 0))
  have hF := ((Fr.refl No w).alloc (.cells #[.bool neg, .slice a xs.length c] 54 (0, 0))).alloc (.cells #[.bool false, .slice none 0 0] 54 (0, 0))
  have hsz : (w.alloc (.cells #[.bool neg, .slice a xs.length c] 54 (0, 0))).heap.size = w.heap.size + 1 := by show (w.heap.push _).size = _; simp
  rw [hsz] at hR
  obtain ⟨W0, hW0⟩ : ∃ W, (w.alloc (.cells #[.bool neg, .slice a xs.length c] 54 (0, 0))).alloc (.cells #[.bool false, .slice none 0 0] 54 (0, 0)) = W := ⟨_, rfl⟩
  rw [hW0] at hN2 hR hF ⊢
  have ho := own_fr h hF (fun _ _ x => x)
  obtain ⟨N, hNe⟩ : ∃ N, w.heap.size = N := ⟨_, rfl⟩
  rw [hNe] at hN2 hR ⊢
  have hNl := hN2.lt
  have hRl := hR.lt
  have hA0 : ∀ i, W0.drew.cell? ⟨N, i, none⟩ = (#[.bool neg, .slice a xs.length c] : Array Value)[i]? := Blk.all hN2.drew
  have hNe1 : N ≠ N + 1 := by omega
  clear hW0 hsz hN h
  have HE := Lib.hid hNe
  have hxl : W0.drew.ownsRow B 57 1 (.slice a xs.length c) xs.length (u32s xs) := own_fr ho (Fr.drew (Fr.refl No W0)) (fun _ _ x => x)
  clear hNe ho
  go_region_held3 (fun w' => ∀ i, w'.cell? ⟨N, i, none⟩ = (#[.bool neg, .slice a xs.length c] : Array Value)[i]?) (with_reducible (first | exact hA0 | exact hAG | exact hAH | exact all_far (all_far hAH hNe1) hNe1)) (first | (go_at_call 86; refine (lTrim_calls B _ xs _ hl hxl).mono ?_; rintro e w' ⟨a1, c1, rfl, ho1, hf1⟩; rw [HT.out] at ho1; rw [HT.out]; have hAG : ∀ i, w'.cell? ⟨N, i, none⟩ = (#[.bool neg, .slice a xs.length c] : Array Value)[i]? := Blk.all (hN2.drew.fr hf1 (fun x => x))) | (go_at_call 85; refine (made_calls _ _ _ _ _).mono ?_; rintro e w'' ⟨rfl, hf2⟩; have hAH : ∀ i, w''.cell? ⟨N, i, none⟩ = (#[.bool neg, .slice a xs.length c] : Array Value)[i]? := Blk.all ((hN2.drew.fr hf1 (fun x => x)).fr hf2 (fun x => x)); have hZH : ∀ i, w''.frozen? ⟨N + 1, i, none⟩ = false := Blk.frees ((hR.drew.fr hf1 (fun x => x)).fr hf2 (fun x => x)); have hCH : ∀ i, w''.cell? ⟨N + 1, i, none⟩ = (#[.bool false, .slice none 0 0] : Array Value)[i]? := Blk.all ((hR.drew.fr hf1 (fun x => x)).fr hf2 (fun x => x))))
  all_goals go_wp2_with fail
  all_goals have hWA := set2 ((hR.drew.fr hf1 (fun x => x)).fr hf2 (fun x => x)) (.bool ((neg) && decide (0 < ts.length))) (.slice a1 ts.length c1)
  all_goals have hf4 := fr2 ((hF.drew.callNo hf1).callNo hf2) (N := N + 1) (fun i h => absurd h (Nat.not_lt.2 (by have := HE.out; simp only; omega))) (.bool ((neg) && decide (0 < ts.length))) (.slice a1 ts.length c1)
  all_goals have hwA := fr2 (Fr.refl (· = N + 1) w'') (N := N + 1) (fun _ _ => rfl) (.bool ((neg) && decide (0 < ts.length))) (.slice a1 ts.length c1)
  all_goals exact bodyPost_ret (results_cell rfl _ _ _ _ rfl (load_wh hWA rfl)) rfl ⟨a1, c1, rfl, own_mono (own_fr (own_fr ho1 hf2 (fun _ _ x => x)) hwA (fun k hk e => by have := (ho1.lt k hk).1; have hd : W0.drew.heap.size = W0.heap.size := rfl; omega)) (by have hd : W0.drew.heap.size = W0.heap.size := rfl; have := HE.out; omega), hf4⟩
end Go.Proofs.YtlklijpjacmgpaaGreatDoor
