/- The reference's Text: a number's decimal digits. -/
import Derived.Test.YtlklijpjacmgpaaGreatDoorQG
namespace Go.Proofs.YtlklijpjacmgpaaGreatDoor
open Go.RowKit
set_option linter.unusedVariables false
set_option linter.unusedSimpArgs false
set_option exponentiation.threshold 5000

def dgB (ds : List Nat) : ByteArray := ⟨(ds.map UInt8.ofNat).toArray⟩
theorem dgB_app (a b : List Nat) : dgB a ++ dgB b = dgB (a ++ b) := by
  unfold dgB
  apply ByteArray.ext
  simp
theorem dgB_size (a : List Nat) : (dgB a).size = a.length := by unfold dgB; rw [Lib.size_eq]; simp
def DgS (ds : List Nat) : Prop := ∀ d ∈ ds, 48 ≤ d ∧ d ≤ 57
theorem digVal_app (a b : List Nat) : digVal (a ++ b) = digVal a * 10 ^ b.length + digVal b := by
  rw [digVal_val, digVal_val, digVal_val, List.reverse_append, List.map_append, valB_append, List.length_map, List.length_reverse, Nat.add_comm, Nat.mul_comm]
theorem digVal_one (c : Nat) : digVal [c] = c - 48 := by simp [digVal]
theorem dg_lit {v : Nat} (h : v < 10) : (ByteArray.mk #[48, 49, 50, 51, 52, 53, 54, 55, 56, 57]).extract v (v + 1) = dgB [48 + v] := by
  have : v = 0 ∨ v = 1 ∨ v = 2 ∨ v = 3 ∨ v = 4 ∨ v = 5 ∨ v = 6 ∨ v = 7 ∨ v = 8 ∨ v = 9 := by omega
  rcases this with rfl | rfl | rfl | rfl | rfl | rfl | rfl | rfl | rfl | rfl <;> rfl
theorem dg_step {fs : List Nat} {v d : Nat} (h1 : DgS fs) (h2 : digVal fs + 10 ^ fs.length * v = d) : DgS ((48 + v % 10) :: fs) ∧ digVal ((48 + v % 10) :: fs) + 10 ^ (fs.length + 1) * (v / 10) = d := by
  refine ⟨fun x hx => ?_, ?_⟩
  · rcases List.mem_cons.1 hx with rfl | hx
    · omega
    · exact h1 x hx
  · have e : digVal ((48 + v % 10) :: fs) = (v % 10) * 10 ^ fs.length + digVal fs := by
      have := digVal_app [48 + v % 10] fs
      rw [digVal_one] at this
      simpa using this
    rw [e, ← h2, Nat.pow_succ]
    have e2 : v = v % 10 + 10 * (v / 10) := by omega
    generalize 10 ^ fs.length = P
    have : P * v = P * (v % 10) + P * (10 * (v / 10)) := by rw [← Nat.mul_add, ← e2]
    rw [this, Nat.mul_comm (v % 10) P, Nat.mul_assoc]
    omega
theorem four_step {fs ds L : List Nat} {i d : Nat} (h1 : DgS fs) (hf : fs.length = 4) (h2 : digVal fs = d) (h3 : DgS ds) (hd : ds.length = 4 * i) (h4 : digVal ds = valB 10000 (L.take i)) (hi : L[i]? = some d) : DgS (fs ++ ds) ∧ (fs ++ ds).length = 4 * (i + 1) ∧ digVal (fs ++ ds) = valB 10000 (L.take (i + 1)) := by
  obtain ⟨hl, hg⟩ := List.getElem?_eq_some_iff.1 hi
  refine ⟨fun x hx => ?_, by rw [List.length_append, hf, hd]; omega, ?_⟩
  · rcases List.mem_append.1 hx with hx | hx
    · exact h1 x hx
    · exact h3 x hx
  · rw [digVal_app, h2, h4, hd, List.take_add_one, hi, valB_append]
    have e : (L.take i).length = i := by rw [List.length_take]; omega
    have e2 : (10 : Nat) ^ (4 * i) = 10000 ^ i := by rw [Nat.pow_mul]
    rw [e, e2]
    show d * 10000 ^ i + valB 10000 (L.take i) = valB 10000 (L.take i) + 10000 ^ i * valB 10000 [d]
    have e3 : valB 10000 [d] = d := by simp [valB]
    rw [e3, Nat.mul_comm, Nat.add_comm]
set_option maxRecDepth 100000 in
set_option maxHeartbeats 4000000 in
theorem rText_calls {w : World} {B n : Nat} {a0 : Option Addr} {c0 : Nat} (hl : (dig 10000 n).length ≤ 1000) (h : w.ownsRow B 3 1 (.slice a0 (dig 10000 n).length c0) (dig 10000 n).length (i64s (dig 10000 n))) :
    Calls Tryz.prog 59 #[nV false (.slice a0 (dig 10000 n).length c0)] w fun e w' => e = .returned (.string ⟨(decText n).toArray⟩) ∧ Fr No w w' := by
  have hv := valB_dig (b := 10000) (by omega) n
  have hlt : ∀ x ∈ dig 10000 n, x < 10000 := dig_lt (by omega) n
  have hnz : (dig 10000 n).length = 0 → n = 0 := fun h0 => by rw [List.eq_nil_of_length_eq_zero h0] at hv; simpa [valB] using hv.symm
  obtain ⟨T, hT⟩ : ∃ T, (⟨(decText n).toArray⟩ : ByteArray) = T := ⟨_, rfl⟩
  obtain ⟨L, hL⟩ : ∃ L, dig 10000 n = L := ⟨_, rfl⟩
  rw [hT]
  rw [hL] at hl h hv hlt hnz ⊢
  have hbase : n ≠ 0 → bareL (([] : List Nat).map UInt8.ofNat) = [] := fun _ => rfl
  clear hbase
  have H := Lib.hid (And.intro h (And.intro hv (And.intro hlt (And.intro hnz hT))))
  have hown := h
  clear h hv hlt hnz hT hL
  go_enter Tryz.func59, Tryz.ntmps59
  by_cases h0 : L.length = 0
  · have hL0 : L = [] := List.eq_nil_of_length_eq_zero h0
    have hd0 : (((L.length : Nat) : Int) == 0) = true := by rw [h0]; rfl
    go_wp2_with fail
    go_ret
    refine ⟨ret_str ?_, (Fr.refl No w).alloc _⟩
    rw [← H.out.2.2.2.2, H.out.2.2.2.1 h0]
    rfl
  · have hd0 : (((L.length : Nat) : Int) == 0) = false := by rw [beq_eq_false_iff_ne]; omega
    rcases own_cases hown with ⟨_, hn, _⟩ | ⟨g, cap, hsl, hB, hg, hcap⟩
    · omega
    simp only [Value.slice.injEq] at hsl
    obtain ⟨rfl, _, rfl⟩ := hsl
    have hcells : ∀ i d : Nat, L[i]? = some d → w.cell? ⟨g, i, none⟩ = some (.int .i64 d) := fun i d hd => own_cell hown (i64s_get hd)
    have HC := Lib.hid hcells
    clear hcells hown
    go_wp2_with fail
    go_loopg [3, 4] L.length (fun gk x3 x4 wr => ∃ (i : Nat) (ds : List Nat), i ≤ L.length ∧ gk = L.length - i ∧ x3 = .string (dgB ds) ∧ x4 = .int .i64 i ∧ wr = w.alloc (.cells #[.bool false, .slice (some ⟨g, 0, none⟩) L.length c0] 112 (0, 0)) ∧ DgS ds ∧ ds.length = 4 * i ∧ digVal ds = valB 10000 (L.take i))
    case atStart => exact ⟨0, [], by omega, rfl, rfl, rfl, rfl, fun _ hx => absurd hx (List.not_mem_nil), rfl, rfl⟩
    case round =>
      obtain ⟨i, ds, hi, hgk, rfl, rfl, rfl, hD⟩ := hrel
      have HD := Lib.hid (And.intro hgk hD)
      clear hgk
      have hdl := hD.2.1
      clear hD
      by_cases hil : i < L.length
      · have hx : L[i]? = some (L[i]'hil) := List.getElem?_eq_getElem hil
        obtain ⟨d, hd⟩ : ∃ d, L[i]'hil = d := ⟨_, rfl⟩
        rw [hd] at hx
        have hc := HC.out i d hx
        have hd4 : d < 10000 := H.out.2.2.1 d (List.mem_of_getElem? hx)
        have HX := Lib.hid hx
        clear hx hd
        go_wp2_with fail
        go_loopg [5, 6, 7] 4 (fun gk x5 x6 x7 wr => ∃ (fs : List Nat) (v : Nat), fs.length ≤ 4 ∧ gk = 4 - fs.length ∧ x5 = .int .i64 v ∧ x6 = .string (dgB fs) ∧ x7 = .int .i64 fs.length ∧ wr = w.alloc (.cells #[.bool false, .slice (some ⟨g, 0, none⟩) L.length c0] 112 (0, 0)) ∧ DgS fs ∧ digVal fs + 10 ^ fs.length * v = d ∧ v < 10000)
        case atStart => exact ⟨[], d, by decide, rfl, rfl, rfl, rfl, rfl, fun _ hx => absurd hx (List.not_mem_nil), by simp [digVal], hd4⟩
        case round =>
          obtain ⟨fs, v, hf4, hgf, rfl, rfl, rfl, rfl, hF1, hF2, hv4⟩ := hrel
          have HF := Lib.hid (And.intro hgf (And.intro hF1 hF2))
          clear hgf hF1 hF2
          by_cases hf : fs.length < 4
          · have hs0 := dg_lit (v := v % 10) (Nat.mod_lt _ (by omega))
            have z1 := dgB_size fs
            have z2 : (dgB [48 + v % 10]).size = 1 := dgB_size _
            go_wp2_with fail
            go_roundg (4 - (fs.length + 1))
            case measure => have := HF.out.1; omega
            case rel =>
              have hst := dg_step HF.out.2.1 HF.out.2.2
              exact ⟨(48 + v % 10) :: fs, v / 10, by simp only [List.length_cons]; omega, by simp only [List.length_cons], congrArg (Value.int .i64) (by omega), by rw [dgB_app]; rfl, congrArg (Value.int .i64) (by simp only [List.length_cons]; omega), rfl, hst.1, hst.2, by omega⟩
          · have z1 := dgB_size fs
            have z2 := dgB_size ds
            go_wp2_with fail
            have hf44 : fs.length = 4 := by omega
            have h22 := HF.out.2.2
            rw [hf44] at h22
            have hst := four_step HF.out.2.1 hf44 (d := d) (by omega) HD.out.2.1 HD.out.2.2.1 HD.out.2.2.2 HX.out
            go_roundg (L.length - (i + 1))
            case measure => have := HD.out.1; omega
            case rel => exact ⟨i + 1, fs ++ ds, by omega, rfl, by rw [dgB_app], congrArg (Value.int .i64) (by omega), rfl, hst⟩
      · have hiL : i = L.length := by omega
        subst hiL
        have hb := bareL_eq ds (by intro h; rw [h] at hdl; simp at hdl; omega) HD.out.2.1
        rw [HD.out.2.2.2, List.take_length, H.out.2.1] at hb
        have hfin : bareL (dgB ds).data.toList = decText n := by unfold dgB; simpa using hb
        have hsz := dgB_size ds
        have HFI := Lib.hid hfin
        clear hb hfin
        obtain ⟨S, hS⟩ : ∃ S, dgB ds = S := ⟨_, rfl⟩
        rw [hS] at HFI hsz ⊢
        have HT := Lib.hid H.out.2.2.2.2
        clear hS HD
        go_wp2_with fail
        go_loopg [3] S.size (fun k x3 wr => wr = w.alloc (.cells #[.bool false, .slice (some ⟨g, 0, none⟩) L.length c0] 112 (0, 0)) ∧ ∃ r : ByteArray, r.size = k ∧ r.size ≤ S.size ∧ x3 = .string r ∧ bareL r.data.toList = bareL S.data.toList)
        case atStart => exact ⟨rfl, S, rfl, Nat.le_refl _, rfl, rfl⟩
        case round =>
          obtain ⟨rfl, r, hk, hle, rfl, hb⟩ := hrel
          have HK := Lib.hid hk
          have HB := Lib.hid hb
          clear hk hb
          by_cases h1 : 1 < r.size
          · have hu := (r[0]).toNat_lt
            by_cases h0 : r[0] = 48
            · have hn : (r[0]).toNat = 48 := by rw [h0]; rfl
              have HS := Lib.hid (bare_step h1 h0)
              clear h0
              go_wp2_with fail
              go_roundg (r.size - 1)
              case measure => have := HK.out; omega
              case rel => exact ⟨rfl, _, by simp, by simp; omega, rfl, by rw [← HS.out, HB.out]⟩
            · have hn : (((r[0]).toNat : Int) == 48) = false := by
                simp only [beq_eq_false_iff_ne, ne_eq]
                intro hc
                exact h0 (UInt8.toNat_inj.mp (by simpa using (by omega : (r[0]).toNat = 48)))
              have HS := Lib.hid (bare_stop (r := r) (Or.inr ⟨by omega, h0⟩))
              clear h0
              go_wp2_with fail
              go_ret
              exact ⟨ret_str (by rw [← HT.out, ← HFI.out, ← HB.out, HS.out, Lib.mk_data]), (Fr.refl No w).alloc _⟩
          · have HS := Lib.hid (bare_stop (r := r) (Or.inl (by omega)))
            go_wp2_with fail
            go_ret
            exact ⟨ret_str (by rw [← HT.out, ← HFI.out, ← HB.out, HS.out, Lib.mk_data]), (Fr.refl No w).alloc _⟩
end Go.Proofs.YtlklijpjacmgpaaGreatDoor
