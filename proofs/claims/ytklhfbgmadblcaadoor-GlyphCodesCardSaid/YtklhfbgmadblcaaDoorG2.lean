/- Slices of integers that came in; what GlyphCodes says in plain words. -/
import Derived.Test.YtklhfbgmadblcaaDoorL7
import Derived.Test.YtklhfbgmadblcaaDoorK1
import Derived.ProofKit
import Derived.OpenShut
namespace Go.Proofs.YtklhfbgmadblcaaDoor
open Go.RowKit
set_option linter.unusedVariables false
set_option linter.unusedSimpArgs false

/-- a slice of integers that came in -/
def IsInts (w : World) (v : Value) (z : List Int) : Prop :=
  ∃ a cap, v = .slice a z.length cap ∧ z.length ≤ maxLen ∧ (0 < z.length → ∃ b off, a = some ⟨b, off, none⟩ ∧ ∀ i x, z[i]? = some x → w.cell? ⟨b, off + i, none⟩ = some (.int .i64 x))
set_option maxRecDepth 100000 in
open Go.ChangeShapes Go.WideShapes Go.ChangeAt in
theorem ints_of_arg {H : Type} {enc : TypeId × Value → H} {W : World} {base : Nat} {sp : Nat → Bool} {v : Value} {d : DataW H} {p : List MemPlace} (hv : Value.okWide Tryd.prog W .any base 47 v) (h : DataW.Trod enc Tryd.prog W 0 sp true 47 v d p) : ∃ z, IsInts W v z := by
  obtain ⟨a0, len0, cap0, rfl⟩ := okWide_slice Tryd.underlying47 hv
  obtain ⟨fuel, hf⟩ := h
  rcases open_ints Tryd.underlying47 Tryd.underlying3 (by kernel_rfl) hf with ⟨hcs, _⟩ | ⟨x, l, c, zs, hcs, _, hl, hm, hz, _, hcell, hwz⟩
  · simp [Value.cells] at hcs
    obtain ⟨rfl, rfl, rfl⟩ := hcs
    exact ⟨[], none, 0, rfl, Nat.zero_le _, fun h => absurd h (Nat.lt_irrefl 0)⟩
  · simp [Value.cells] at hcs
    obtain ⟨rfl, rfl, rfl⟩ := hcs
    have hzl : len0 ≤ zs.length := by rw [hz]; split <;> omega
    have hlen : (zs.take len0).length = len0 := by rw [List.length_take]; omega
    refine ⟨zs.take len0, some x, cap0, by rw [hlen], by rw [hlen]; omega, fun h0 => ?_⟩
    rw [hlen] at h0
    obtain ⟨b, off, hx, hc⟩ := ints_at hcell (by omega)
    refine ⟨b, off, by rw [hx], fun i y hy => ?_⟩
    rw [List.getElem?_take] at hy
    split at hy
    · rename_i hi
      rw [hc i (by omega)]
      simp [List.getD, hy]
    · cases hy

/-! the codes of GlyphCodes -/
def codeOf (x : Int) : Nat := (bits .and .i64 x 4611686018427387903).toNat % 1114112
def kept (z : List Int) : List Nat := (z.map codeOf).filter okc
theorem kept_snoc (z : List Int) (x : Int) : kept (z ++ [x]) = kept z ++ (if okc (codeOf x) = true then [codeOf x] else []) := by
  unfold kept
  rw [List.map_append, List.filter_append]
  congr 1
  simp only [List.map_cons, List.map_nil, List.filter_cons, List.filter_nil]
theorem kept_ok (z : List Int) : ∀ c ∈ kept z, okc c = true := by
  intro c hc; unfold kept at hc; rw [List.mem_filter] at hc; exact hc.2
theorem kept_len (z : List Int) : (kept z).length ≤ z.length := by
  unfold kept; exact Nat.le_trans (List.length_filter_le _ _) (by simp)
theorem flat_len4 (cs : List Nat) : (cs.flatMap enc).length ≤ 4 * cs.length := by
  induction cs with
  | nil => simp
  | cons d l ih => have := enc_le d; simp only [List.flatMap_cons, List.length_append, List.length_cons]; omega
theorem okc_code {c : Nat} (h : c < 1114112) : okc c = decide (c < 55296 ∨ 57343 < c) := by
  rw [Bool.eq_iff_iff, okc_iff, decide_eq_true_eq]; omega

/-- what stands at the head of whole code points goes on nothing -/
theorem con_head {ds : List Nat} (hok : ∀ d ∈ ds, okc d = true) : con (ds.flatMap enc)[0]? = none := by
  cases ds with
  | nil => rfl
  | cons d ds =>
    have h := okc_iff.1 (hok d (by simp))
    have key : ∀ b : UInt8, b.toNat / 64 ≠ 2 → con (some b) = none := fun b hb => by simp [con, hb]
    simp only [List.flatMap_cons]
    unfold enc
    repeat' split
    all_goals (simp only [List.cons_append, List.getElem?_cons_zero]; apply key; simp only [UInt8.toNat_ofNat']; omega)
theorem con_tail {x : Nat} (h : x < 64) : con (some (UInt8.ofNat (128 + x))) = some x := con_mk h
/-- a code point without its last byte, and whole ones behind it: none -/
theorem dec_cut {c : Nat} (hc : okc c = true) (h2 : 2 ≤ (enc c).length) {ds : List Nat} (hok : ∀ d ∈ ds, okc d = true) : dec ((enc c).dropLast ++ ds.flatMap enc) = none := by
  have hh := con_head hok
  have hb := okc_iff.1 hc
  generalize ds.flatMap enc = R at *
  have m1 : c / 64 % 64 < 64 := Nat.mod_lt _ (by omega)
  have m2 : c / 4096 % 64 < 64 := Nat.mod_lt _ (by omega)
  unfold enc at h2 ⊢
  split
  · rename_i h; simp [h] at h2
  · rename_i h1
    split
    · rename_i h3
      have e : (UInt8.ofNat (192 + c / 64)).toNat = 192 + c / 64 := by simp only [UInt8.toNat_ofNat']; omega
      simp only [List.dropLast_cons_cons, List.dropLast_singleton, List.cons_append, List.nil_append, dec, e]
      rw [if_neg (by omega), if_pos (by omega), hh]
      rfl
    · rename_i h3
      split
      · rename_i h4
        have e : (UInt8.ofNat (224 + c / 4096)).toNat = 224 + c / 4096 := by simp only [UInt8.toNat_ofNat']; omega
        simp only [List.dropLast_cons_cons, List.dropLast_singleton, List.cons_append, List.nil_append, dec, e, List.getElem?_cons_zero, List.getElem?_cons_succ, con_tail m1]
        rw [if_neg (by omega), if_neg (by omega), if_pos (by omega), hh]
        rfl
      · rename_i h4
        have e : (UInt8.ofNat (240 + c / 262144)).toNat = 240 + c / 262144 := by simp only [UInt8.toNat_ofNat']; omega
        simp only [List.dropLast_cons_cons, List.dropLast_singleton, List.cons_append, List.nil_append, dec, e, List.getElem?_cons_zero, List.getElem?_cons_succ, con_tail m1, con_tail m2]
        rw [if_neg (by omega), if_neg (by omega), if_neg (by omega), if_pos (by omega), hh]
        rfl
theorem glyS_whole {cs : List Nat} (hok : ∀ c ∈ cs, okc c = true) (hl : cs.length ≤ 1000) : glyS (cs.flatMap enc) = .ok (glys start cs) := by
  have := flat_len4 cs
  have T : Txt (cs.flatMap enc) cs [] := ⟨by simp, hok, rfl⟩
  rw [glyS_eq T (by omega)]
  rfl
theorem glyS_tail {cs : List Nat} (hok : ∀ c ∈ cs, okc c = true) {t : List UInt8} (h0 : t ≠ []) (h : dec t = none) (hl : (cs.flatMap enc ++ t).length ≤ 4096) : glyS (cs.flatMap enc ++ t) = .bad 40 (along start cs) := by
  have T : Txt (cs.flatMap enc ++ t) cs t := ⟨rfl, hok, h⟩
  rw [glyS_eq T hl]
  exact if_neg h0
theorem dec_255 (m : List UInt8) : dec (255 :: m) = none := by
  have e : (255 : UInt8).toNat = 255 := rfl
  simp only [dec, e]
  simp
/-- with a byte that never stands -/
theorem codes_one {cs : List Nat} (hok : ∀ c ∈ cs, okc c = true) (hl : cs.length ≤ 1000) (k : Nat) : glyS ((cs.flatMap enc).take (along start (cs.take k)).b ++ [255] ++ (cs.flatMap enc).drop (along start (cs.take k)).b) = .bad 40 (along start (cs.take k)) := by
  have hb := along_b start (cs.take k)
  have h4 := flat_len4 cs
  have e : cs.flatMap enc = (cs.take k).flatMap enc ++ (cs.drop k).flatMap enc := by rw [← List.flatMap_append, List.take_append_drop]
  have e0 : start.b = 0 := rfl
  have hlen := congrArg List.length e
  rw [List.length_append] at hlen
  rw [hb, e0, Nat.zero_add, e, List.take_left, List.drop_left, List.append_assoc, List.cons_append, List.nil_append]
  refine glyS_tail (fun c hc => hok c (List.mem_of_mem_take hc)) (by simp) (dec_255 _) ?_
  simp only [List.length_append, List.length_cons]; omega
/-- with one byte left out -/
theorem codes_two {cs : List Nat} (hok : ∀ c ∈ cs, okc c = true) (hl : cs.length ≤ 1000) {k c : Nat} (hk : cs[k]? = some c) (h2 : 2 ≤ (enc c).length) :
    glyS ((cs.flatMap enc).take ((along start (cs.take k)).b + (enc c).length - 1) ++ (cs.flatMap enc).drop ((along start (cs.take k)).b + (enc c).length)) = .bad 40 (along start (cs.take k)) := by
  have hb := along_b start (cs.take k)
  have h4 := flat_len4 cs
  have e := back_split hk
  have e0 : start.b = 0 := rfl
  have hlen := congrArg List.length e
  simp only [List.length_append] at hlen
  rw [hb, e0, Nat.zero_add, e]
  have t1 : ((cs.take k).flatMap enc ++ (enc c ++ (cs.drop (k + 1)).flatMap enc)).take (((cs.take k).flatMap enc).length + (enc c).length - 1) = (cs.take k).flatMap enc ++ (enc c).dropLast := by
    rw [show ((cs.take k).flatMap enc).length + (enc c).length - 1 = ((cs.take k).flatMap enc).length + ((enc c).length - 1) by omega, List.take_length_add_append, List.take_append_of_le_length (by omega), List.dropLast_eq_take]
  have t2 : ((cs.take k).flatMap enc ++ (enc c ++ (cs.drop (k + 1)).flatMap enc)).drop (((cs.take k).flatMap enc).length + (enc c).length) = (cs.drop (k + 1)).flatMap enc := by
    rw [List.drop_length_add_append, List.drop_left]
  rw [t1, t2, List.append_assoc]
  refine glyS_tail (fun d hd => hok d (List.mem_of_mem_take hd)) ?_ (dec_cut (hok c (List.mem_of_getElem? hk)) h2 (fun d hd => hok d (List.mem_of_mem_drop hd))) ?_
  · intro h
    have := congrArg List.length h
    simp at this; omega
  · simp only [List.length_append, List.length_dropLast]; omega
end Go.Proofs.YtklhfbgmadblcaaDoor
