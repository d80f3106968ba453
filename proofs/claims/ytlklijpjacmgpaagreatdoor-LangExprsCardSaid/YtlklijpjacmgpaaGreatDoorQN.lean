/- CopyTexts. -/
import Derived.Test.YtlklijpjacmgpaaGreatDoorQJ
import Derived.Test.YtlklijpjacmgpaaGreatDoorRows
import Derived.ProofKit
import Derived.SliceStrings
import Derived.SizedLaws
namespace Go.Proofs.YtlklijpjacmgpaaGreatDoor
open Go.RowKit Go.Maps
set_option linter.unusedVariables false
set_option linter.unusedSimpArgs false
attribute [local go_sem ↓] Go.wp_at_zero Go.wp_at_succ

theorem strs_get {w : World} {b off : Nat} {nm : List (List UInt8)} (h : ∀ (i : Nat) (x : List UInt8), nm[i]? = some x → w.cell? ⟨b, off + i, none⟩ = some (.string ⟨x.toArray⟩)) : ∀ j u, (nm.map strV)[j]? = some u → w.cell? ((⟨b, off, none⟩ : Addr).add j) = some u := by
  intro j u hj
  rw [List.getElem?_map] at hj
  cases hx : nm[j]? with
  | none => rw [hx] at hj; cases hj
  | some x =>
    rw [hx] at hj
    simp only [Option.map_some, Option.some.injEq] at hj
    subst hj
    rw [show (⟨b, off, none⟩ : Addr).add j = ⟨b, off + j, none⟩ by unfold Addr.add; split <;> simp_all]
    exact h j x hx
set_option maxRecDepth 100000 in
set_option maxHeartbeats 2000000 in
theorem CopyTexts_calls {w : World} {Nv : Value} {nm : List (List UInt8)} (h : NmIn w Nv nm) (hb : nm.length * 16 ≤ 140737488355328) (h0 : ∀ c, Nv = .slice none 0 c → c = 0) :
    Calls Tryz.prog 7 #[Nv] w fun e w' => ∃ v, e = .returned v ∧ NmIn w' v nm ∧ Fr No w w' := by
  obtain ⟨i0, hi0, hz0, hz1, hz2⟩ := info_parts info_str
  obtain ⟨a, cap, rfl, hcap, h2⟩ := h
  have hn : World.ownsRow w w.heap.size 9 1 (.slice none 0 0) 0 [] := World.ownsRow_nil _ _ _ _
  have hu : (nm.map strV).length = nm.length := List.length_map ..
  have hone : ∀ u ∈ nm.map strV, u.oneCell' = true := by
    intro u hu
    simp only [List.mem_map] at hu
    obtain ⟨x, _, rfl⟩ := hu
    rfl
  have hget : ∀ ad, a = some ad → ∀ j u, (nm.map strV)[j]? = some u → w.cell? (ad.add j) = some u := by
    intro ad e j u hj
    have hj2 : j < nm.length := by have := (List.getElem?_eq_some_iff.1 hj).1; omega
    obtain ⟨b, off, e2, _, hc⟩ := h2 (by omega)
    rw [e] at e2
    cases e2
    exact strs_get hc j u hj
  have hnone : a = none → nm = [] := by
    intro e
    match nm, h2 with
    | [], _ => rfl
    | x :: l, h2 =>
      obtain ⟨b, off, e2, _⟩ := h2 (by simp)
      rw [e] at e2
      cases e2
  clear h2
  have HU := Lib.hid (And.intro hu (And.intro hone (And.intro hget hnone)))
  clear hu hone hget hnone
  go_enter Tryz.func7, Tryz.ntmps7
  cases a with
  | none =>
    obtain rfl := HU.out.2.2.2 rfl
    simp only [List.length_nil] at hcap hb h0 ⊢
    obtain rfl := h0 _ rfl
    clear HU h0
    go_wp2_with (at_builtin; refine wpList_append_own_none rfl _ _ 22 rfl w.heap.size 9 i0 1 Tryz.underlying22 hi0 _ _ _ rfl hn rfl ?_)
    go_ret
    exact ⟨_, rfl, NmIn.own (B := w.heap.size) (World.ownsRow_nil _ _ _ _), Fr.refl _ _⟩
  | some ad =>
    obtain ⟨M, hM⟩ : ∃ M, nm.length = M := ⟨_, rfl⟩
    rw [hM] at hcap hb HU ⊢
    go_wp2_with (at_builtin; refine wpList_append_own _ rfl _ _ 22 rfl w.heap.size 9 i0 (.string ⟨#[]⟩) 1 16 Tryz.underlying22 hi0 hz0 hz1 hz2 rfl (by decide) _ _ _ rfl hn ad M cap (nm.map strV) rfl ?c0 ?c1 ?c2 ?c3 ?c4 ?c5 ?_)
    case c0 => rw [HU.out.1, Nat.mul_one]
    case c1 => exact HU.out.2.2.1 ad rfl
    case c2 => exact HU.out.2.1
    case c3 => unfold maxLen; omega
    case c4 => omega
    case c5 => exact Nat.le_refl _
    intro v2 w2 hown hgr hnil
    obtain ⟨a2, c2, rfl⟩ := own_form hown
    go_wp2_with fail
    go_ret
    subst hM
    exact ⟨_, rfl, NmIn.own (by simpa using hown), (Fr.refl No w).grown hgr (fun k hk => by cases hk)⟩
set_option maxRecDepth 100000 in
open Go.ChangeShapes Go.WideShapes Go.ChangeAt in
theorem nms_of_arg {H : Type} {enc : TypeId × Value → H} {W : World} {base : Nat} {sp : Nat → Bool} {v : Value} {d : DataW H} {p : List MemPlace} (hv : Value.okWide Tryz.prog W .any base 22 v) (h : DataW.Trod enc Tryz.prog W 0 sp true 22 v d p) (hsz : ∀ el spr, d = .slice el spr → (el.length + spr.length) * 16 ≤ reachBytes) : ∃ nm : List (List UInt8), NmIn W v nm ∧ (∀ x ∈ nm, x.length ≤ maxLen) ∧ nm.length * 16 ≤ 140737488355328 ∧ ∀ c, v = .slice none 0 c → c = 0 := by
  obtain ⟨a0, len0, cap0, rfl⟩ := okWide_slice Tryz.underlying22 hv
  obtain ⟨fuel, hf⟩ := h
  rcases open_strings Tryz.underlying22 Tryz.underlying9 (by kernel_rfl) hf with ⟨hcs, _⟩ | ⟨x, l, c, ss, hcs, _, hl, hm, hz, hx, hcell, hwz⟩
  · simp [Value.cells] at hcs
    obtain ⟨rfl, rfl, rfl⟩ := hcs
    exact ⟨[], ⟨none, 0, rfl, Nat.le_refl _, fun h => absurd h (Nat.lt_irrefl 0)⟩, by simp, by simp, fun c h => by cases h; rfl⟩
  · simp [Value.cells] at hcs
    obtain ⟨rfl, rfl, rfl⟩ := hcs
    have hzl : len0 ≤ ss.length := by rw [hz]; split <;> omega
    have hlen : ((ss.take len0).map (fun b => b.data.toList)).length = len0 := by rw [List.length_map, List.length_take]; omega
    simp only [Prod.mk.injEq] at hx
    obtain ⟨rfl, _⟩ := hx
    refine ⟨(ss.take len0).map (fun b => b.data.toList), ⟨some x, cap0, by rw [hlen], by rw [hlen]; exact hl, fun h0 => ?_⟩, ?_, ?_, fun c h => by cases h⟩
    · rw [hlen] at h0
      obtain ⟨b, off, spot⟩ := x
      have h00 := hcell 0 (by omega)
      have hspot : spot = none := by simpa [Addr.add] using World.cell?_spot h00
      subst hspot
      refine ⟨b, off, rfl, ?_, fun i y hy => ?_⟩
      · have hb : b < W.heap.size := by
          unfold World.cell? at h00
          cases hh : W.heap[b]? with
          | none =>
            have e : ((⟨b, off, none⟩ : Addr).add 0).block = b := by unfold Addr.add; split <;> simp_all
            rw [e, hh] at h00
            simp at h00
          | some o => exact (Array.getElem?_eq_some_iff.1 hh).1
        exact hb
      · rw [List.getElem?_map, List.getElem?_take] at hy
        split at hy
        · rename_i hi
          have hc := hcell i (by omega)
          rw [show (⟨b, off, none⟩ : Addr).add i = ⟨b, off + i, none⟩ by unfold Addr.add; split <;> simp_all] at hc
          rw [hc]
          have hi2 : i < ss.length := by omega
          rw [List.getElem?_eq_getElem hi2] at hy
          simp only [Option.map_some, Option.some.injEq] at hy
          subst hy
          simp [List.getD, List.getElem?_eq_getElem hi2]
        · cases hy
    · intro y hy
      obtain ⟨b, hb, rfl⟩ := List.mem_map.1 hy
      have := hwz b (List.mem_of_mem_take hb)
      rwa [← Lib.size_eq] 
    · have h1 := hsz _ _ rfl
      have h2 := reachBytes_lt
      rw [hlen]
      simp only [strs, List.length_map, List.length_take, List.length_drop] at h1
      omega
end Go.Proofs.YtlklijpjacmgpaaGreatDoor
