/- The program's limbs: Parse. -/
import Derived.Test.YtklhfbgmadblcaaDoorD3
import Derived.Lib.OthersKept
namespace Go.Proofs.YtklhfbgmadblcaaDoor
open Go.RowKit
set_option linter.unusedVariables false
set_option linter.unusedSimpArgs false

def Pw (M : Nat) : Prop := M = 1 ∨ M = 10 ∨ M = 100 ∨ M = 1000 ∨ M = 10000 ∨ M = 100000 ∨ M = 1000000 ∨ M = 10000000 ∨ M = 100000000

theorem byte_at {s : ByteArray} {pre post : List Nat} {c : Nat} (hs : s.data.toList = (pre ++ c :: post).map UInt8.ofNat) (hc : c < 256) : ∃ h : pre.length < s.size, (s[pre.length]'h).toNat = c := by
  have hl : s.size = (pre ++ c :: post).length := by rw [Lib.size_eq, hs, List.length_map]
  have hlt : pre.length < s.size := by rw [hl]; simp
  refine ⟨hlt, ?_⟩
  have h1 : s[pre.length]'hlt = s.data.toList[pre.length]'(by rw [← Lib.size_eq]; exact hlt) := rfl
  have h2 : s.data.toList[pre.length]? = some (UInt8.ofNat c) := by rw [hs]; simp
  have h3 := List.getElem?_eq_some_iff.1 h2
  obtain ⟨h4, h5⟩ := h3
  rw [h1, h5]
  simp only [UInt8.toNat_ofNat']
  omega

/-- what Parse's loop has read -/
structure PsR (w wr : World) (s : ByteArray) (it : Nat) (pre : List Nat) (xs : List Nat) (N M : Nat) (a : Option Addr) (c : Nat) : Prop where
  own : wr.ownsRow w.heap.size 52 1 (.slice a xs.length c) xs.length (u32s xs)
  lt : ∀ x ∈ xs, x < L32
  len : xs.length ≤ pre.length
  val : digVal pre = valB L32 xs * M + N
  it : wr.heap[it]? = some (.stringIter s pre.length)
  fr : Fr No w wr

theorem Fr.iterAt {S : Nat → Prop} {w0 w : World} (h : Fr S w0 w) {k : Nat} (hk : k < w0.heap.size → S k) (s : ByteArray) (pos : Nat) : Fr S w0 (w.iterAt k s pos) :=
  ⟨h.os, h.tape, h.output, by rw [Lib.iterAt_size]; exact h.size, fun i hi hn => by rw [Lib.iterAt_other w k i s pos (fun e => by subst e; exact hn (hk hi))]; exact h.block i hi hn⟩
theorem own_iter {w : World} {B : Nat} {e : TypeId} {size : Nat} {v : Value} {n : Nat} {xs : List Value} (h : w.ownsRow B e size v n xs) {k : Nat} (hk : ∀ g, v.ownBlock = some g → g ≠ k) (s : ByteArray) (pos : Nat) : (w.iterAt k s pos).ownsRow B e size v n xs :=
  own_fr h ((Fr.refl (· = k) w).iterAt (fun _ => rfl) s pos) hk

theorem PsR.ne {w wr : World} {s : ByteArray} {it : Nat} {pre xs : List Nat} {N M : Nat} {a : Option Addr} {c : Nat} (h : PsR w wr s it pre xs N M a c) : ∀ k, (Value.slice a xs.length c).ownBlock = some k → k ≠ it := by
  rintro k hk rfl
  rcases own_cases h.own with ⟨h1, _, _⟩ | ⟨g, cap, h1, h2, h3, h4⟩
  · rw [h1] at hk; cases hk
  · rw [h1] at hk
    have hg : g = k := by simpa [Value.ownBlock] using hk
    subst hg
    obtain ⟨_, ho⟩ := h.own
    rcases ho with ⟨ho, _⟩ | ⟨g', cap', cur, hv, hg', hh, r⟩
    · rw [ho] at h1; cases h1
    · rw [h1] at hv
      simp only [Value.slice.injEq, Option.some.injEq, Addr.mk.injEq] at hv
      obtain ⟨⟨rfl, _⟩, _⟩ := hv
      rw [h.it] at hh
      cases hh

set_option maxRecDepth 100000 in
set_option maxHeartbeats 2000000 in
theorem Parse_calls (s : ByteArray) (ds : List Nat) (hs : s.data.toList = ds.map UInt8.ofNat) (hd : ∀ d ∈ ds, 48 ≤ d ∧ d ≤ 57) (h0 : ds ≠ []) (hl : ds.length ≤ 4096) (w : World) :
    Calls Tryd.prog 63 #[.string s] w fun e w' => ∃ a c, e = .returned (.tuple #[.slice a (dig L32 (digVal ds)).length c, .int .i64 0]) ∧
      w'.ownsRow w.heap.size 52 1 (.slice a (dig L32 (digVal ds)).length c) (dig L32 (digVal ds)).length (u32s (dig L32 (digVal ds))) ∧ Fr No w w' := by
  obtain ⟨i0, hi, hz0, hz1, hz2⟩ := info_parts info_u32
  have hsz : s.size = ds.length := by rw [Lib.size_eq, hs, List.length_map]
  have hpos : 0 < ds.length := List.length_pos_iff.2 h0
  have hne : s.data.toList ≠ [] := by rw [hs]; simpa using h0
  have hE : s.toList.isEmpty = false := by
    rw [ByteArray.toList_eq]
    cases hq : s.data.toList with
    | nil => exact absurd hq hne
    | cons _ _ => rfl
  have hd5 : decide ((5120 : Int) < (ds.length : Int)) = false := by simp; omega
  have HD := Lib.hid hd
  have HS := Lib.hid hs
  clear hd hs h0 hne
  go_enter Tryd.func63, Tryd.ntmps63
  go_wp2_with ((at_make; go_loud (refine wpList_make_own _ rfl _ _ 51 rfl w.heap.size 52 i0 (.int .u32 0) 1 Tryd.underlying51 hi hz0 hz1 .i64 .i64 _ (ds.length / 9 + 1) rfl rfl ?c2 ?c3 ?c4 (Nat.le_refl _) ?_; (case c2 => omega); (case c3 => (rw [hz2]; omega)); (case c4 => (unfold maxLen; omega)); intro w1 hown hgr)))
  have hit0 := World.iter_heap w1 s 0
  go_loopg [4, 5, 6] ds.length (fun r x4 x5 x6 wr => ∃ (pre post xs : List Nat) (N M : Nat) (a : Option Addr) (c : Nat), ds = pre ++ post ∧ r = post.length ∧ x4 = .slice a xs.length c ∧ x5 = .int .u32 N ∧ x6 = .int .u32 M ∧ Pw M ∧ N < M ∧ PsR w wr s w1.heap.size pre xs N M a c)
  case atStart =>
    refine ⟨[], ds, [], 0, 1, _, _, rfl, rfl, rfl, rfl, rfl, Or.inl rfl, by omega, ⟨?_, ?_, by simp, rfl, hit0, ?_⟩⟩
    · exact hown.alloc _
    · intro x hx; cases hx
    · exact ((Fr.refl No w).grown hgr (fun _ h _ => by cases h)).alloc _
  case round =>
    obtain ⟨pre, post, xs, N, M, a, c, h1, h2, rfl, rfl, rfl, hpw, hNM, hP⟩ := hrel
    cases post with
    | nil =>
      have hz : ¬ pre.length < s.size := by
        rw [hsz, h1]; simp
      have hnx : ∀ ty, (Instr.next (.pointer (some ⟨w1.heap.size, 0, none⟩)) true ty).run Tryd.prog wr = _ := fun ty => Lib.run_next_end_at _ _ _ _ ty hP.it hz
      have A := Lib.hid h1
      clear h1 h2
      have hM : M < L32 := by unfold Pw at hpw; simp only [L32]; omega
      have hxl : xs.length ≤ 1000000 := by have := hP.len; have := congrArg List.length A.out; simp at this; omega
      go_wp2_with fail
      refine (grow_calls w.heap.size a c xs M N wr hxl hM (by omega) hP.lt hP.fr.size hP.own).mono ?_
      rintro e w2 ⟨a2, c2, rfl, ho2, hf2⟩
      have hgl := growA_len M N xs
      have hT := trimT_eq (b := L32) (by unfold L32; omega) (growA_lt (c := N) hM (by omega) hP.lt)
      have hV : digVal ds = valB L32 xs * M + N := by rw [← hP.val, A.out, List.append_nil]
      rw [growA_val, ← hV] at hT
      have hf3 : Fr No w w2 := hP.fr.call hf2 (fun k hk hkb => by have := (hP.own.lt k hkb).1; omega)
      have HT := Lib.hid hT
      clear hT hV
      generalize growA M N xs = ys at *
      go_wp2_with fail
      refine (short_calls w.heap.size _ ys _ (by omega) ho2).mono ?_
      rintro e w3 ⟨a3, c3, rfl, ho3, hb3, hq3⟩
      go_wp2_with fail
      go_ret2
      rw [HT.out] at ho3 ⊢
      exact ⟨a3, c3, rfl, ho3, hf3.qd hq3⟩
    | cons d post =>
      have hdd := HD.out d (by rw [h1]; simp)
      obtain ⟨hlt, hby⟩ := byte_at (c := d) (by rw [HS.out, h1]) (by omega)
      have hnx : ∀ ty, (Instr.next (.pointer (some ⟨w1.heap.size, 0, none⟩)) true ty).run Tryd.prog wr = _ := fun ty => Lib.run_next_ascii_at _ _ _ _ ty hP.it hlt (by omega)
      rw [hby] at hnx
      have hit2 := Lib.iterAt_heap wr w1.heap.size s pre.length (pre.length + 1) hP.it
      have A := Lib.hid (And.intro h1 h2)
      have ho2 := own_iter hP.own hP.ne s (pre.length + 1)
      have hitn : w.heap.size ≤ w1.heap.size := hgr.size
      have hf2 : Fr No w (wr.iterAt w1.heap.size s (pre.length + 1)) := hP.fr.iterAt (fun h => by omega) s _
      obtain ⟨_, hlt2, hlen2, hval2, _, _⟩ := hP
      have HX := Lib.hid (And.intro hlt2 (And.intro hlen2 hval2))
      clear h1 h2 hby hlt2 hlen2 hval2
      generalize wr.iterAt w1.heap.size s (pre.length + 1) = w2 at hnx hit2 ho2 hf2
      have hM8 : M ≤ 100000000 := by unfold Pw at hpw; omega
      have hwz : ((d : Int) - 48) % 4294967296 = (d : Int) - 48 := by omega
      have hsnoc : digVal (pre ++ [d]) = digVal pre * 10 + (d - 48) := digVal_snoc pre d
      obtain ⟨D, hDD⟩ : ∃ D : Nat, d = D + 48 := ⟨d - 48, by omega⟩
      subst hDD
      have HSN := Lib.hid hsnoc
      clear hsnoc
      by_cases hlast : M = 100000000
      · have hb : ((10 * (M : Int)) == 1000000000) = true := by simp; omega
        have hxl : xs.length ≤ 1000000 := by have := HX.out.2.1; have := congrArg List.length A.out.1; simp at this; omega
        have HL := Lib.hid hlast
        have HPW := Lib.hid hpw
        clear hlast hpw
        have hg := grow_calls w.heap.size a c xs (10 * M) (10 * N + D) w2 hxl (by simp only [L32]; omega) (by simp only [L32]; omega) HX.out.1 hf2.size ho2
        have e1 : ((10 * M : Nat) : Int) = 10 * (M : Int) := by omega
        have e2 : ((10 * N + D : Nat) : Int) = 10 * (N : Int) + (D : Int) := by omega
        rw [e1, e2] at hg
        have HE := Lib.hid (And.intro e1 e2)
        clear e1 e2
        go_wp2_with fail
        refine hg.mono ?_
        rintro e w3 ⟨a2, c2, rfl, ho3, hf3⟩
        have hne : (Value.slice a xs.length c).ownBlock ≠ some w1.heap.size := by
          intro hk
          rcases own_cases ho2 with ⟨h1, _, _⟩ | ⟨g, cap, h1, h2, h3, h4⟩
          · rw [h1] at hk; cases hk
          · rw [h1] at hk
            have hg2 : g = w1.heap.size := by simpa [Value.ownBlock] using hk
            subst hg2
            obtain ⟨_, ho⟩ := ho2
            rcases ho with ⟨ho, _⟩ | ⟨g', cap', cur, hv, hg', hh, r⟩
            · rw [ho] at h1; cases h1
            · rw [h1] at hv
              simp only [Value.slice.injEq, Option.some.injEq, Addr.mk.injEq] at hv
              obtain ⟨⟨hgg, _⟩, _⟩ := hv
              rw [← hgg, hit2] at hh
              cases hh
        have hit3 : w3.heap[w1.heap.size]? = some (.stringIter s (pre.length + 1)) := (hf3.block _ (Array.getElem?_eq_some_iff.1 hit2).1 hne).trans hit2
        have hf4 : Fr No w w3 := hf2.call hf3 (fun k hk hkb => by have := (ho2.lt k hkb).1; omega)
        go_wp2_with fail
        obtain ⟨b1, b2⟩ := A.out
        obtain ⟨x1, x2, x3⟩ := HX.out
        have hgl := growA_len (10 * M) (10 * N + D) xs
        have hgv := growA_val (10 * M) (10 * N + D) xs
        have hgt := growA_lt (m := 10 * M) (c := 10 * N + D) (by simp only [L32]; omega) (by simp only [L32]; omega) x1
        go_roundg post.length
        case measure => rw [b2]; simp
        case rel =>
          refine ⟨pre ++ [D + 48], post, _, 0, 1, a2, c2, by rw [b1]; simp, rfl, rfl, rfl, rfl, Or.inl rfl, by omega, ⟨ho3, hgt, by simp; omega, ?_, by simpa using hit3, hf4⟩⟩
          rw [HSN.out, x3, hgv]
          simp only [Nat.add_sub_cancel, Nat.mul_one, Nat.add_zero]
          rw [Nat.add_mul]
          have : valB L32 xs * (10 * M) = valB L32 xs * M * 10 := by rw [Nat.mul_comm 10 M, Nat.mul_assoc]
          omega
      · have hb : ((10 * (M : Int)) == 1000000000) = false := by simp; omega
        have HL := Lib.hid hlast
        have HPW := Lib.hid hpw
        clear hlast hpw
        go_wp2_with fail
        obtain ⟨b1, b2⟩ := A.out
        obtain ⟨x1, x2, x3⟩ := HX.out
        go_roundg post.length
        case measure => rw [b2]; simp
        case rel =>
          refine ⟨pre ++ [D + 48], post, xs, 10 * N + D, 10 * M, a, c, by rw [b1]; simp, rfl, rfl, by push_cast; rfl, by push_cast; rfl, ?_, by omega, ⟨ho2, x1, by simp; omega, ?_, by simpa using hit2, hf2⟩⟩
          · have h1 := HPW.out
            have h2 := HL.out
            unfold Pw at *
            omega
          · rw [HSN.out, x3]
            simp only [Nat.add_sub_cancel]
            rw [Nat.add_mul]
            have : valB L32 xs * (10 * M) = valB L32 xs * M * 10 := by rw [Nat.mul_comm 10 M, Nat.mul_assoc]
            omega
end Go.Proofs.YtklhfbgmadblcaaDoor
