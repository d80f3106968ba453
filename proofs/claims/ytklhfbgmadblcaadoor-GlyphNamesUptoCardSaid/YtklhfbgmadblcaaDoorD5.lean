/- The program's limbs: Text. -/
import Derived.Test.YtklhfbgmadblcaaDoorD4
import Derived.Laws.IdiomStrings
namespace Go.Proofs.YtklhfbgmadblcaaDoor
open Go.RowKit
set_option linter.unusedVariables false
set_option linter.unusedSimpArgs false

def u8s (xs : List Nat) : List Value := xs.map fun (x : Nat) => Value.int .u8 x
theorem u8s_len (xs : List Nat) : (u8s xs).length = xs.length := by simp [u8s]
theorem u8s_get {xs : List Nat} {j x : Nat} (h : xs[j]? = some x) : (u8s xs)[j]? = some (.int .u8 x) := by simp [u8s, h]
theorem info_u8 : (Tryd.prog.info? 5).map (fun i => (i.zero, i.size, i.bytes)) = some (some (.int .u8 0), 1, 1) := by kernel_rfl
theorem made_zeros8 (n : Nat) : (madeCells (Value.int .u8 0).cells (n * 1)).toList = u8s (zs n) := by
  rw [Nat.mul_one]; exact (toList_madeCells_one _ _).trans (by simp [u8s, zs])

/-- the digits of a number as bytes, the lowest first -/
def bk10 (n : Nat) : List Nat := (dig 10 n).map (48 + ·)
theorem bk10_zero : bk10 0 = [] := by unfold bk10; rw [dig_zero]; rfl
theorem bk10_pos {n : Nat} (h : n ≠ 0) : bk10 n = (48 + n % 10) :: bk10 (n / 10) := by
  unfold bk10; rw [dig_pos (by omega) h]; rfl
theorem bk10_len {xs : List Nat} (h : ∀ x ∈ xs, x < L32) : (bk10 (valB L32 xs)).length ≤ 10 * xs.length := by
  unfold bk10
  rw [List.length_map]
  refine (dig_len_le (by omega)).2 (Nat.lt_of_lt_of_le (valB_lt (by unfold L32; omega) h) ?_)
  rw [Nat.pow_mul]
  exact Nat.pow_le_pow_left (by unfold L32; omega) _
theorem bk10_byte (n : Nat) : ∀ x ∈ bk10 n, 48 ≤ x ∧ x < 58 := by
  intro x hx
  unfold bk10 at hx
  obtain ⟨d, hd, rfl⟩ := List.mem_map.1 hx
  have := dig_lt (b := 10) (by omega) n d hd
  omega
theorem decText_bk (n : Nat) (h : n ≠ 0) : decText n = (bk10 n).reverse.map UInt8.ofNat := by
  unfold decText bk10
  rw [if_neg h]
  simp

/-- nine digits at a time -/
def P9 (i P : Nat) : Prop := (i = 0 ∧ P = 1000000000) ∨ (i = 1 ∧ P = 100000000) ∨ (i = 2 ∧ P = 10000000) ∨ (i = 3 ∧ P = 1000000) ∨ (i = 4 ∧ P = 100000) ∨ (i = 5 ∧ P = 10000) ∨ (i = 6 ∧ P = 1000) ∨ (i = 7 ∧ P = 100) ∨ (i = 8 ∧ P = 10) ∨ (i = 9 ∧ P = 1)
theorem P9.next {i P : Nat} (h : P9 i P) (hi : i < 9) : ∃ P', P = 10 * P' ∧ P9 (i + 1) P' := by
  rcases h with ⟨rfl, rfl⟩ | ⟨rfl, rfl⟩ | ⟨rfl, rfl⟩ | ⟨rfl, rfl⟩ | ⟨rfl, rfl⟩ | ⟨rfl, rfl⟩ | ⟨rfl, rfl⟩ | ⟨rfl, rfl⟩ | ⟨rfl, rfl⟩ | ⟨rfl, rfl⟩
  · exact ⟨100000000, rfl, Or.inr (Or.inl ⟨rfl, rfl⟩)⟩
  · exact ⟨10000000, rfl, Or.inr (Or.inr (Or.inl ⟨rfl, rfl⟩))⟩
  · exact ⟨1000000, rfl, Or.inr (Or.inr (Or.inr (Or.inl ⟨rfl, rfl⟩)))⟩
  · exact ⟨100000, rfl, Or.inr (Or.inr (Or.inr (Or.inr (Or.inl ⟨rfl, rfl⟩))))⟩
  · exact ⟨10000, rfl, Or.inr (Or.inr (Or.inr (Or.inr (Or.inr (Or.inl ⟨rfl, rfl⟩)))))⟩
  · exact ⟨1000, rfl, Or.inr (Or.inr (Or.inr (Or.inr (Or.inr (Or.inr (Or.inl ⟨rfl, rfl⟩))))))⟩
  · exact ⟨100, rfl, Or.inr (Or.inr (Or.inr (Or.inr (Or.inr (Or.inr (Or.inr (Or.inl ⟨rfl, rfl⟩)))))))⟩
  · exact ⟨10, rfl, Or.inr (Or.inr (Or.inr (Or.inr (Or.inr (Or.inr (Or.inr (Or.inr (Or.inl ⟨rfl, rfl⟩))))))))⟩
  · exact ⟨1, rfl, Or.inr (Or.inr (Or.inr (Or.inr (Or.inr (Or.inr (Or.inr (Or.inr (Or.inr ⟨rfl, rfl⟩))))))))⟩
  · omega
theorem P9.nine {P : Nat} (h : P9 9 P) : P = 1 := by unfold P9 at h; omega
theorem P9.le {i P : Nat} (h : P9 i P) : i ≤ 9 ∧ P ≤ 1000000000 := by unfold P9 at h; omega
theorem P9.step {P P' q R : Nat} (h : P = 10 * P') : (q * P + R) % 10 = R % 10 ∧ (q * P + R) / 10 = q * P' + R / 10 := by
  subst h
  have : q * (10 * P') = 10 * (q * P') := by rw [← Nat.mul_assoc, Nat.mul_comm q 10, Nat.mul_assoc]
  rw [this]
  generalize q * P' = Z
  omega

theorem own_obj {w : World} {B : Nat} {e : TypeId} {size : Nat} {v : Value} {n : Nat} {xs : List Value} (h : w.ownsRow B e size v n xs) {k : Nat} (hk : v.ownBlock = some k) : ∃ cur, w.heap[k]? = some (.cells cur e (0, 0)) := by
  obtain ⟨_, h2⟩ := h
  rcases h2 with ⟨h2, _⟩ | ⟨g, cap, cur, hv, _, hh, _⟩
  · rw [h2] at hk; cases hk
  · rw [hv] at hk
    have : g = k := by simpa [Value.ownBlock] using hk
    subst this
    exact ⟨cur, hh⟩
theorem own_types {w : World} {B B' : Nat} {e e' : TypeId} {s s' : Nat} {v v' : Value} {n n' : Nat} {xs xs' : List Value} (h : w.ownsRow B e s v n xs) (h' : w.ownsRow B' e' s' v' n' xs') (he : e ≠ e') {k : Nat} (hk : v.ownBlock = some k) : v'.ownBlock ≠ some k := by
  intro hk'
  obtain ⟨c, hc⟩ := own_obj h hk
  obtain ⟨c', hc'⟩ := own_obj h' hk'
  rw [hc] at hc'
  cases hc'
  exact he rfl

theorem bytes_conv {w : World} {B g n cap : Nat} {xs : List Nat} (h : w.ownsRow B 5 1 (.slice (some ⟨g, 0, none⟩) n cap) n (u8s xs)) (hn : n = xs.length) (hx : ∀ x ∈ xs, x < 256) :
    (convert 73 9 (.slice (some ⟨g, 0, none⟩) n cap)).run Tryd.prog w = .ok (.string ⟨(xs.map UInt8.ofNat).toArray⟩) w := by
  subst hn
  have := run_convert_bytes_back (P := Tryd.prog) w 73 9 5 ⟨g, 0, none⟩ cap (xs.map UInt8.ofNat) Tryd.underlying73 Tryd.underlying5 Tryd.underlying9 (fun j hj => by
    have hj2 : j < xs.length := by simpa using hj
    have hc := h.cells (g := g) rfl j _ (u8s_get (List.getElem?_eq_getElem hj2))
    rw [hc]
    have hb := hx _ (List.getElem_mem hj2)
    simp
    omega)
  simpa using this

theorem rev_step {acc : List Nat} {k x : Nat} (hk : k < acc.length) (hx : acc[k]? = some x) :
    (u8s (zs (acc.length - k) ++ (acc.take k).reverse)).set (acc.length - 1 - k) (.int .u8 x) = u8s (zs (acc.length - (k + 1)) ++ (acc.take (k + 1)).reverse) := by
  have h1 : acc.length - k = (acc.length - (k + 1)) + 1 := by omega
  have h2 : acc.length - 1 - k = acc.length - (k + 1) := by omega
  have h3 : acc.take (k + 1) = acc.take k ++ [x] := by rw [List.take_add_one, hx]; rfl
  rw [h1, h2, h3]
  generalize acc.length - (k + 1) = m
  unfold u8s zs
  rw [List.replicate_succ', List.append_assoc, List.map_append, List.set_append_right _ _ (by simp)]
  simp

/-- what Text's loop holds: the limbs of m, and the digits below -/
structure TxR (w wr : World) (n m : Nat) (acc : List Nat) (a0 : Option Addr) (c0 : Nat) (B : Nat) (a3 : Option Addr) (c3 : Nat) : Prop where
  val : acc ++ bk10 m = bk10 n
  own0 : wr.ownsRow B 52 1 (.slice a0 (dig L32 m).length c0) (dig L32 m).length (u32s (dig L32 m))
  own3 : wr.ownsRow w.heap.size 5 1 (.slice a3 acc.length c3) acc.length (u8s acc)
  fr : Fr No w wr

set_option maxRecDepth 100000 in
set_option maxHeartbeats 2000000 in
theorem Text_calls (B : Nat) (a0 : Option Addr) (c0 : Nat) (xs : List Nat) (w : World) (hl : xs.length ≤ 100000) (hx : ∀ x ∈ xs, x < L32) (h : w.ownsRow B 52 1 (.slice a0 xs.length c0) xs.length (u32s xs)) :
    Calls Tryd.prog 46 #[.slice a0 xs.length c0] w fun e w' => e = .returned (.string ⟨(decText (valB L32 xs)).toArray⟩) ∧ Fr No w w' := by
  obtain ⟨i0, hi, hz0, hz1, hz2⟩ := info_parts info_u8
  have hT := trimT_eq (b := L32) (by unfold L32; omega) hx
  have hbl := bk10_len hx
  obtain ⟨n, hn⟩ : ∃ n, valB L32 xs = n := ⟨_, rfl⟩
  rw [hn] at hT hbl ⊢
  have hdl : (dig L32 n).length ≤ xs.length := by
    rw [← hT]
    obtain ⟨k, hk, he, _⟩ := trimT_prefix xs
    rw [he, List.length_take]; omega
  have HT := Lib.hid hT
  have HX := Lib.hid hx
  clear hT hx hn
  go_enter Tryd.func46, Tryd.ntmps46
  go_wp2_with fail
  refine (short_calls B _ xs _ (by omega) h).mono ?_
  rintro e w1 ⟨a1, c1, rfl, ho1, hb1, hq1⟩
  rw [HT.out] at ho1 ⊢
  have hf1 := hq1.fr No
  by_cases h0 : n = 0
  · subst h0
    rw [dig_zero] at ho1 ⊢
    go_wp2_with fail
    go_ret
    exact ⟨rfl, hf1⟩
  · have hdp : 0 < (dig L32 n).length := by rw [dig_pos (by unfold L32; omega) h0]; simp
    have hd0 : (((dig L32 n).length : Int) == 0) = false := by rw [beq_eq_false_iff_ne]; omega
    have HN := Lib.hid h0
    clear h0
    go_wp2_with fail
    go_loopg [0, 3] n (fun r x0 x3 wr => ∃ (m : Nat) (acc : List Nat) (a0 : Option Addr) (c0 B' : Nat) (a3 : Option Addr) (c3 : Nat), r = m ∧ m ≤ n ∧ x0 = .slice a0 (dig L32 m).length c0 ∧ x3 = .slice a3 acc.length c3 ∧ TxR w wr n m acc a0 c0 B' a3 c3)
    case atStart => exact ⟨n, [], a1, c1, B, none, 0, rfl, Nat.le_refl _, rfl, rfl, ⟨rfl, ho1, World.ownsRow_nil _ _ _ _, hf1⟩⟩
    case round =>
      obtain ⟨m, acc, a0, c0, B', a3, c3, hr, hmn, rfl, rfl, hV, ho0, ho3, hf⟩ := hrel
      have HR := Lib.hid hr
      have HV := Lib.hid hV
      have hal : acc.length ≤ 10 * xs.length := by have := congrArg List.length hV; rw [List.length_append] at this; omega
      clear hr hV
      by_cases hm : m = 0
      · subst hm
        rw [dig_zero] at *
        have hacc : acc = bk10 n := by have := HV.out; rw [bk10_zero] at this; simpa using this
        have haL : 0 < acc.length := by rw [hacc, bk10_pos HN.out]; simp
        have HA := Lib.hid hacc
        clear hacc
        rcases own_cases ho3 with ⟨_, hn0, _⟩ | ⟨g3, cap3, hsl, hB3, hg3, hcap3⟩
        · omega
        simp only [Value.slice.injEq] at hsl
        obtain ⟨rfl, _, rfl⟩ := hsl
        go_wp2_with ((at_make; go_loud (refine wpList_make_full _ rfl _ _ 73 rfl wr.heap.size 5 i0 (.int .u8 0) 1 Tryd.underlying73 hi hz0 hz1 .i64 .i64 acc.length acc.length acc.length rfl rfl rfl rfl ?c2 ?c3 (Nat.le_refl _) ?_; (case c2 => (rw [hz2]; omega)); (case c3 => (unfold maxLen; omega)); intro w4 hown4 hgr4; rw [made_zeros8] at hown4)))
        have ho34 := own_fr ho3 ((Fr.refl No wr).grown hgr4 (fun _ h _ => by cases h)) (fun _ _ x => x)
        have hf4 := hf.grown hgr4 (fun _ h _ => by cases h)
        obtain ⟨g5, hg5⟩ : ∃ g5, wr.heap.size = g5 := ⟨_, rfl⟩
        rw [hg5] at hown4 hg3 ⊢
        have hle5 : w.heap.size ≤ g5 := by rw [← hg5]; exact hf.size
        have H5 := Lib.hid hg5
        clear hg5 ho3 hf hgr4
        go_loopg [49] acc.length (fun r2 x49 wr2 => ∃ k : Nat, r2 = acc.length - k ∧ k ≤ acc.length ∧ x49 = .int .i64 k ∧ wr2.ownsRow g5 5 1 (.slice (some ⟨g5, 0, none⟩) acc.length acc.length) acc.length (u8s (zs (acc.length - k) ++ (acc.take k).reverse)) ∧ wr2.ownsRow w.heap.size 5 1 (.slice (some ⟨g3, 0, none⟩) acc.length c3) acc.length (u8s acc) ∧ Fr No w wr2)
        case atStart => exact ⟨0, by simp, by omega, rfl, by simpa using hown4, ho34, hf4⟩
        case round =>
          obtain ⟨k, hr2, hk, rfl, hoo, ho3, hf⟩ := hrel
          have HR2 := Lib.hid hr2
          clear hr2
          by_cases hlt : k < acc.length
          · have hxk : acc[k]? = some (acc[k]'hlt) := List.getElem?_eq_getElem hlt
            obtain ⟨X, hX⟩ : ∃ X, acc[k]'hlt = X := ⟨_, rfl⟩
            rw [hX] at hxk
            have hc := own_cell ho3 (u8s_get hxk)
            have hzl : (zs (acc.length - k) ++ (acc.take k).reverse)[acc.length - 1 - k]? = some 0 := by
              rw [List.getElem?_append_left (by rw [zs, List.length_replicate]; omega), zs, List.getElem?_replicate, if_pos (by omega)]
            have hs := own_cell hoo (u8s_get hzl)
            have hfz := hoo.frozenAt (acc.length - 1 - k)
            have HO := Lib.hid hoo
            have HXK := Lib.hid hxk
            clear hX hxk hzl hoo
            have hsub : ((acc.length : Int) - 1 - (k : Int)) = ((acc.length - 1 - k : Nat) : Int) := by omega
            obtain ⟨J, hJ⟩ : ∃ J, acc.length - 1 - k = J := ⟨_, rfl⟩
            have hJl : J < acc.length := by omega
            rw [hJ] at hsub hs hfz
            have HJ := Lib.hid hJ
            clear hJ
            go_wp2_with fail
            have hsto := HO.out.stored J (.int .u8 (X : Int))
            go_roundg (acc.length - (k + 1))
            case measure => rw [HR2.out]; omega
            case rel =>
              have h5 := hsto.1
              have h6 := rev_step hlt HXK.out
              rw [HJ.out] at h6
              rw [h6] at h5
              refine ⟨k + 1, rfl, by omega, by push_cast; rfl, h5, own_fr ho3 ((Fr.refl (· = g5) wr).setCell (a := ⟨g5, J, none⟩) _ (fun _ => rfl)) (fun k hk => ?_), hf.setCell _ (fun h => by simp at h; omega)⟩
              have : g3 = k := by simpa [Value.ownBlock] using hk
              omega
          · obtain rfl : k = acc.length := by omega
            rw [Nat.sub_self, List.take_length] at hoo
            have hcv := bytes_conv (xs := acc.reverse) (by simpa [zs] using hoo) (by simp) (fun x hx => by have := bk10_byte n x (by rw [← HA.out]; simpa using hx); omega)
            have HO := Lib.hid hoo
            clear hoo
            go_wp2_with fail
            go_ret
            refine ⟨ret_str ?_, hf⟩
            rw [decText_bk n HN.out, HA.out, List.map_reverse]
      · have hmp : 0 < (dig L32 m).length := by rw [dig_pos (by unfold L32; omega) hm]; simp
        have hml : (dig L32 m).length ≤ xs.length := by
          refine Nat.le_trans ((dig_len_le (by unfold L32; omega)).2 (Nat.lt_of_le_of_lt hmn ((dig_len_le (by unfold L32; omega)).1 (Nat.le_refl (dig L32 n).length)))) hdl
        have HM := Lib.hid hm
        clear hm
        go_wp2_with fail
        have hby := byLimb_calls B' a0 c0 (dig L32 m) 1000000000 wr (by omega) (by omega) (by unfold L32; omega) (dig_lt (by unfold L32; omega) m) ho0
        rw [valB_dig (by unfold L32; omega)] at hby
        refine hby.mono ?_
        rintro e w2 ⟨a4, c4, rfl, ho4, hf4⟩
        clear hby
        have hf5 := hf.callNo hf4
        have ho5 := own_fr ho3 hf4 (fun _ _ x => x)
        have hmd := Nat.div_add_mod m 1000000000
        have hmr : m % 1000000000 < 1000000000 := Nat.mod_lt _ (by omega)
        have hq : m / 1000000000 < m := by have := HM.out; omega
        obtain ⟨q, hqe⟩ : ∃ q, m / 1000000000 = q := ⟨_, rfl⟩
        obtain ⟨R0, hR0⟩ : ∃ R0, m % 1000000000 = R0 := ⟨_, rfl⟩
        rw [hqe, hR0] at hmd
        rw [hqe] at hq ho4 ⊢
        rw [hR0] at hmr ⊢
        have HQ := Lib.hid (And.intro hmd hq)
        clear hqe hR0 hmd hq
        go_wp2_with fail
        go_loopg [3, 4, 5] 9 (fun r2 x3 x4 x5 wr2 => ∃ (i R P : Nat) (acc : List Nat) (a3 : Option Addr) (c3 : Nat), r2 = 9 - i ∧ x5 = .int .i64 i ∧ x4 = .int .u32 R ∧ P9 i P ∧ R < P ∧ x3 = .slice a3 acc.length c3 ∧ acc ++ bk10 (q * P + R) = bk10 n ∧ wr2.ownsRow wr.heap.size 52 1 (.slice a4 (dig L32 q).length c4) (dig L32 q).length (u32s (dig L32 q)) ∧ wr2.ownsRow w.heap.size 5 1 (.slice a3 acc.length c3) acc.length (u8s acc) ∧ Fr No w wr2)
        case atStart =>
          refine ⟨0, R0, 1000000000, acc, a3, c3, rfl, rfl, rfl, Or.inl ⟨rfl, rfl⟩, hmr, rfl, ?_, ho4, ho5, hf5⟩
          rw [Nat.mul_comm, HQ.out.1]; exact HV.out
        case round =>
          obtain ⟨i, R, P, acc, a3, c3, hr2, rfl, rfl, hP, hRP, rfl, hV2, ho4, ho3, hf⟩ := hrel
          have HR2 := Lib.hid hr2
          have HV2 := Lib.hid hV2
          have hal2 : acc.length ≤ 10 * xs.length := by have := congrArg List.length hV2; rw [List.length_append] at this; omega
          have hPl := hP.le
          clear hr2 hV2
          by_cases hi9 : i < 9
          · have z1 : decide ((i : Int) < 9) = true := by simp; omega
            by_cases hR0 : 0 < R
            · have z2 : decide (0 < R) = true := by simpa using hR0
              have hnz : q * P + R ≠ 0 := by omega
              have HNZ := Lib.hid hnz
              clear hnz
              have hlt3 := ho3.lt
              have HT3 := Lib.hid hlt3
              have HO4 := Lib.hid ho4
              clear hlt3
              have hsz := hf.size
              go_wp2_with ((at_builtin; refine wpList_append_own _ rfl _ _ 73 rfl w.heap.size 5 i0 (.int .u8 0) 1 1 Tryd.underlying73 hi hz0 hz1 hz2 rfl (by decide) _ _ _ rfl (ho3.alloc _) ⟨wr.heap.size, 0, none⟩ 1 1 [.int .u8 (48 + (R : Int) % 10)] rfl rfl ?c1 ?c2 ?c3 ?c4 ?c5 ?_; (case c1 => exact new_one _ _ _); (case c2 => exact one_cell rfl); (case c3 => (unfold maxLen; omega)); (case c4 => omega); (case c5 => (simp; omega)); intro v6 w6 hown6 hgr6 _))
              obtain ⟨a6, c6, rfl⟩ := own_form hown6
              obtain ⟨P', hP', hP2⟩ := hP.next hi9
              obtain ⟨k1, k2⟩ := P9.step (q := q) (R := R) hP'
              have hV3 := HV2.out
              rw [bk10_pos HNZ.out, k1, k2] at hV3
              go_roundg (9 - (i + 1))
              case measure => rw [HR2.out]; omega
              case rel =>
                refine ⟨i + 1, R / 10, P', acc ++ [48 + R % 10], a6, c6, rfl, by push_cast; rfl, by push_cast; rfl, hP2, by omega, by simp, by simpa using hV3, ?_, ?_, ?_⟩
                · exact (ho4.alloc _).kept hgr6 (by
                    cases hv : (Value.slice a4 (dig L32 q).length c4).ownBlock with
                    | none => exact Or.inl rfl
                    | some k => exact Or.inr (fun hc => own_types ho4 ho3 (by decide) hv hc.symm))
                · simpa [u8s] using hown6
                · exact (hf.alloc _).grown hgr6 (fun k hk hlt => by have := (HT3.out _ hk).1; omega)
            · have z2 : decide (0 < R) = false := by simpa using hR0
              have hRz : R = 0 := by omega
              by_cases hq0 : q = 0
              · have z3 : decide (0 < (dig L32 q).length) = false := by rw [hq0, dig_zero]; rfl
                have HQ0 := Lib.hid (And.intro hq0 hRz)
                clear hq0 hRz hR0
                go_wp2_with fail
                go_roundg q
                case measure => have := HQ.out; have := HR.out; omega
                case rel =>
                  have hq1 := HQ.out
                  refine ⟨q, acc, a4, c4, _, a3, c3, rfl, by omega, rfl, rfl, ⟨?_, ho4, ho3, hf⟩⟩
                  have hV3 := HV2.out
                  rw [show q * P + R = q by rw [HQ0.out.1, HQ0.out.2]; simp] at hV3
                  exact hV3
              · have z3 : decide (0 < (dig L32 q).length) = true := by rw [dig_pos (by unfold L32; omega) hq0]; simp
                have hPP : 0 < P := by unfold P9 at hP; omega
                have hqp : 0 < q * P := Nat.mul_pos (by omega) hPP
                clear hRz hR0 hq0
                have hnz : q * P + R ≠ 0 := by omega
                have HNZ := Lib.hid hnz
                clear hnz
                have hlt3 := ho3.lt
                have HT3 := Lib.hid hlt3
                have HO4 := Lib.hid ho4
                clear hlt3
                have hsz := hf.size
                go_wp2_with ((at_builtin; refine wpList_append_own _ rfl _ _ 73 rfl w.heap.size 5 i0 (.int .u8 0) 1 1 Tryd.underlying73 hi hz0 hz1 hz2 rfl (by decide) _ _ _ rfl (ho3.alloc _) ⟨wr.heap.size, 0, none⟩ 1 1 [.int .u8 (48 + (R : Int) % 10)] rfl rfl ?c1 ?c2 ?c3 ?c4 ?c5 ?_; (case c1 => exact new_one _ _ _); (case c2 => exact one_cell rfl); (case c3 => (unfold maxLen; omega)); (case c4 => omega); (case c5 => (simp; omega)); intro v6 w6 hown6 hgr6 _))
                obtain ⟨a6, c6, rfl⟩ := own_form hown6
                obtain ⟨P', hP', hP2⟩ := hP.next hi9
                obtain ⟨k1, k2⟩ := P9.step (q := q) (R := R) hP'
                have hV3 := HV2.out
                rw [bk10_pos HNZ.out, k1, k2] at hV3
                go_roundg (9 - (i + 1))
                case measure => rw [HR2.out]; omega
                case rel =>
                  refine ⟨i + 1, R / 10, P', acc ++ [48 + R % 10], a6, c6, rfl, by push_cast; rfl, by push_cast; rfl, hP2, by omega, by simp, by simpa using hV3, ?_, ?_, ?_⟩
                  · exact (ho4.alloc _).kept hgr6 (by
                      cases hv : (Value.slice a4 (dig L32 q).length c4).ownBlock with
                      | none => exact Or.inl rfl
                      | some k => exact Or.inr (fun hc => own_types ho4 ho3 (by decide) hv hc.symm))
                  · simpa [u8s] using hown6
                  · exact (hf.alloc _).grown hgr6 (fun k hk hlt => by have := (HT3.out _ hk).1; omega)
          · have z1 : decide ((i : Int) < 9) = false := by simp; omega
            have h9 : i = 9 := by have := hPl.1; omega
            subst h9
            have hP1 := hP.nine
            have hR0 : R = 0 := by omega
            have HP := Lib.hid (And.intro hP1 hR0)
            clear hP1 hR0
            go_wp2_with fail
            go_roundg q
            case measure => have := HQ.out; have := HR.out; omega
            case rel =>
              have hq1 := HQ.out
              refine ⟨q, acc, a4, c4, _, a3, c3, rfl, by omega, rfl, rfl, ⟨?_, ho4, ho3, hf⟩⟩
              have hV3 := HV2.out
              rw [show q * P + R = q by rw [HP.out.1, HP.out.2]; simp] at hV3
              exact hV3
end Go.Proofs.YtklhfbgmadblcaaDoor
