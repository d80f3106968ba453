/- awake. -/
import Derived.Test.YtlklijpjacmgpaaGreatDoorND
namespace Go.Proofs.YtlklijpjacmgpaaGreatDoor
open Go.RowKit
set_option linter.unusedVariables false
set_option linter.unusedSimpArgs false
attribute [local go_sem ↓] Go.wp_at_zero Go.wp_at_succ

def awS : ByteArray := ⟨#[118, 97, 114, 115, 32, 120, 44, 32, 121, 32, 61, 32, 45, 51, 59, 32, 108, 111, 111, 112, 32, 123, 32, 120, 32, 58, 61, 32, 50, 42, 40, 120, 43, 121, 41, 32, 45, 32, 49, 59, 32, 125]⟩
theorem awS_eq : awS.data.toList = ascT awakeTx := by decide +kernel
theorem awP_eq : ((⟨awakePr.toArray⟩ : ByteArray) == ⟨#[118, 97, 114, 115, 32, 120, 44, 32, 121, 32, 61, 32, 45, 51, 59, 10, 108, 111, 111, 112, 32, 123, 10, 32, 32, 120, 32, 58, 61, 32, 50, 32, 42, 32, 40, 120, 32, 43, 32, 121, 41, 32, 45, 32, 49, 59, 10, 125, 10]⟩) = true := by decide +kernel
set_option maxRecDepth 100000 in
set_option maxHeartbeats 4000000 in
theorem awake_calls {w : World} (hT : Tb w) : Calls Tryz.prog 5 #[] w fun e w' => e = .returned (.bool true) ∧ Fr No w w' := by
  have hp := parse_calls (w := w) awS (by unfold maxLen; decide +kernel) hT
  obtain ⟨g, hg, hpr⟩ := awake_ok
  rw [awS_eq, hg] at hp
  have hP := fun (W : World) (B P : Nat) (h : PgIs W B P g) => Print_read hg h
  rw [hpr] at hP
  have HP := Lib.hid (And.intro hp hP)
  clear hp hP hg hpr
  go_enter Tryz.func5, Tryz.ntmps5
  go_wp2_with fail
  refine HP.out.1.mono ?_
  rintro e w1 ⟨hf1, P, rfl, hPB, hPg⟩
  unfold plA
  go_wp2_with fail
  have hal := (Fr.refl No w1).alloc (plaO zeroPl)
  refine (HP.out.2 _ w.heap.size P (hPg.fr hal)).mono ?_
  rintro e w2 ⟨rfl, hf2⟩
  have hq := awP_eq
  have hF : Fr No w w2 := (hf1.callNo hal).callNo hf2
  clear hf1 hal hf2 hPg hPB
  go_wp2_with fail
  go_ret
  exact ⟨rfl, hF⟩
set_option maxRecDepth 100000 in
set_option maxHeartbeats 4000000 in
theorem Vars_calls {w : World} {B P : Nat} {g : Pg} (h : PgIs w B P g) (hn : g.begins.length ≤ 100000) :
    Calls Tryz.prog 15 #[.pointer (some ⟨P, 0, none⟩)] w fun e w' => ∃ a c, e = .returned (.slice a g.begins.length c) ∧ NmOwn w' w.heap.size (.slice a g.begins.length c) (g.begins.map Bg.name) ∧ Fr No w w' := by
  obtain ⟨i0, hi0, hz0, hz1, hz2⟩ := info_parts info_str
  obtain ⟨a, c, vs, a2, n2, c2, us, hP, ho, hbs, _, _⟩ := h
  obtain ⟨p, hp⟩ : ∃ p, g.at_ = p := ⟨_, rfl⟩
  rw [hp] at hP
  obtain ⟨L, hL⟩ : ∃ L, g.begins = L := ⟨_, rfl⟩
  rw [hL] at hP ho hbs hn ⊢
  have hget := fun i x (hi : L[i]? = some x) => BgsAre.get L vs i x hbs hi
  have HH := Lib.hid (And.intro hget ho)
  have RP := Blk.all hP
  clear hp hL hget hbs hP
  go_enter Tryz.func15, Tryz.ntmps15
  go_wp2_with fail
  go_loopg [11, 3] L.length (fun gk x11 x3 wr => ∃ (i : Nat) (a3 : Option Addr) (c3 : Nat), gk = L.length - i ∧ i ≤ L.length ∧ x11 = .int .i64 i ∧ x3 = .slice a3 i c3 ∧ wr.ownsRow w.heap.size 9 1 (.slice a3 i c3) i ((L.take i).map (fun x => strV x.name)) ∧ Fr No w wr)
  case atStart => exact ⟨0, none, 0, rfl, Nat.zero_le _, rfl, rfl, World.ownsRow_nil _ _ _ _, Fr.refl _ _⟩
  case round =>
    clear ho RP
    obtain ⟨i, a3, c3, hgk, hi, rfl, rfl, hor, hf⟩ := hrel
    have HG := Lib.hid hgk
    clear hgk
    by_cases hlt : i < L.length
    · obtain ⟨x, hx⟩ : ∃ x, L[i]? = some x := ⟨L[i], List.getElem?_eq_getElem hlt⟩
      obtain ⟨a4, c4, q0, q1, q2, q3, q4⟩ := HH.out.1 i x hx
      have hob := own_fr HH.out.2 hf (fun _ _ x => x)
      rcases own_cases hob with ⟨_, h2, _⟩ | ⟨gg, cap, h1, hBg, hgl, hcap⟩
      · omega
      · simp only [Value.slice.injEq] at h1
        obtain ⟨rfl, _, rfl⟩ := h1
        have r0 := own_cell hob q0
        have r1 := own_cell hob q1
        have r2 := own_cell hob q2
        have r3 := own_cell hob q3
        obtain ⟨X, hX⟩ : ∃ X, x.name = X := ⟨_, rfl⟩
        obtain ⟨Y, hY⟩ : ∃ Y, x.any = Y := ⟨_, rfl⟩
        obtain ⟨Z, hZ⟩ : ∃ Z, x.neg = Z := ⟨_, rfl⟩
        obtain ⟨M, hM⟩ : ∃ M, (dig L32 x.mag).length = M := ⟨_, rfl⟩
        unfold strV at r0
        rw [hX] at r0
        rw [hY] at r1
        rw [hZ] at r2
        rw [hM] at r3
        have i1 : (0 : Int) ≤ (i : Int) := by omega
        have i2 : (i : Int) < (L.length : Int) := by omega
        have htk : (L.take (i + 1)).map (fun x => strV x.name) = (L.take i).map (fun x => strV x.name) ++ [.string ⟨X.toArray⟩] := by
          rw [List.take_add_one, hx, List.map_append]
          simp [strV, hX]
        have HT := Lib.hid htk
        clear htk hx q0 q1 q2 q3 q4 hX hY hZ hM hob
        have hwr := hf.size
        go_wp2_with ((at_builtin; go_loud (refine wpList_append_own _ rfl _ _ 22 rfl w.heap.size 9 i0 (.string ⟨#[]⟩) 1 16 Tryz.underlying22 hi0 hz0 hz1 hz2 rfl (by decide) _ _ _ rfl ((hor.alloc _).alloc _) ⟨wr.heap.size + 1, 0, none⟩ 1 1 [.string ⟨X.toArray⟩] rfl rfl ?c1 ?c2 ?c3 ?c4 ?c5 ?_; (case c1 => (have h := new_one (wr.alloc (.cells #[.string ⟨X.toArray⟩, .bool Y, .bool Z, .slice a4 M c4] 56 (0, 0))) (.string ⟨X.toArray⟩) 9; rwa [alloc_size] at h)); (case c2 => exact one_cell rfl); (case c3 => (unfold maxLen; omega)); (case c4 => omega); (case c5 => (simp; omega)); intro v6 w6 hown6 hgr6 _)))
        obtain ⟨a6, c6, rfl⟩ := own_form hown6
        have hfw : Fr No w w6 := ((hf.alloc _).alloc _).grown hgr6 (fun j hj hlt => by have := (hor.lt j hj).1; omega)
        go_roundg (L.length - (i + 1))
        case measure => rw [HG.out]; omega
        case rel => exact ⟨i + 1, a6, c6, rfl, by omega, by go_num, rfl, by rw [HT.out]; exact hown6, hfw⟩
    · obtain rfl : i = L.length := by omega
      have i2 : ¬ ((L.length : Int) < (L.length : Int)) := by omega
      go_wp2_with fail
      go_ret
      rw [List.take_length] at hor
      exact ⟨a3, c3, rfl, by unfold NmOwn; rw [List.length_map, List.map_map]; exact hor, hf⟩
end Go.Proofs.YtlklijpjacmgpaaGreatDoor
