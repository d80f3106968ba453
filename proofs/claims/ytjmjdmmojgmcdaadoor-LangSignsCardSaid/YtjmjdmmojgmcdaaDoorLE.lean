/- whole.made, whole.Parse of digits. -/
import Derived.Test.YtjmjdmmojgmcdaaDoorLD
import Derived.Test.YtjmjdmmojgmcdaaDoorGc
namespace Go.Proofs.YtjmjdmmojgmcdaaDoor
open Go.RowKit
set_option linter.unusedVariables false
set_option linter.unusedSimpArgs false
attribute [local go_sem ↓] Go.wp_at_zero Go.wp_at_succ

/-- a whole number's value -/
abbrev whV (neg : Bool) (a : Option Addr) (n c : Nat) : Value := .agg #[.bool neg, .slice a n c]
theorem load_wh {w : World} {g : Nat} {cs : Array Value} (hg : Blk w g (.cells cs 64 (0, 0))) (hs : cs.size = 2) : (loadVar 64 ⟨g, 0, none⟩).run Tryd.prog w = .ok (.agg cs) w :=
  run_loadVar_row w g _ _ cs _ _ hg Tryd.underlying64 rfl (by rw [hs]; kernel_rfl)

theorem results_ct {fn : Func} {p q : Tmp} {t1 : TypeId} (h : fn.results = #[.cell p t1, .tmp q]) (tmps : Array Value) (w : World) (g1 : Nat) (cs1 : Array Value)
    (hp : tmps.getD p undef = .pointer (some ⟨g1, 0, none⟩)) (L1 : (loadVar t1 ⟨g1, 0, none⟩).run Tryd.prog w = .ok (.agg cs1) w) :
    (results fn tmps).run Tryd.prog w = .ok (.tuple #[.agg cs1, tmps.getD q undef]) w := by
  have hp' : tmps[p]?.getD undef = .pointer (some ⟨g1, 0, none⟩) := by simpa using hp
  simp only [results, h]
  simp [hp', asAddr, L1, Sem.run_bind, Result.andThen]

set_option maxRecDepth 100000 in
set_option maxHeartbeats 1000000 in
theorem made_calls (neg : Bool) (a : Option Addr) (n c : Nat) (w : World) :
    Calls Tryd.prog 73 #[.bool neg, .slice a n c] w fun e w' => e = .returned (whV (neg && decide (0 < n)) a n c) ∧ Fr No w w' := by
  cases neg with
  | false =>
    go_enter Tryd.func73, Tryd.ntmps73
    go_wp2_with fail
    exact bodyPost_ret (results_cell rfl _ _ _ _ rfl (load_wh (Blk.new w (.cells #[.bool false, .slice a n c] 64 (0, 0))) rfl)) rfl ⟨rfl, (Fr.refl No w).alloc _⟩
  | true =>
    go_enter Tryd.func73, Tryd.ntmps73
    go_wp2_with fail
    exact bodyPost_ret (results_cell rfl _ _ _ _ rfl (load_wh (Blk.new w (.cells #[.bool (decide (0 < n)), .slice a n c] 64 (0, 0))) rfl)) rfl ⟨by simp, (Fr.refl No w).alloc _⟩

set_option maxRecDepth 100000 in
set_option maxHeartbeats 1000000 in
theorem wParse_calls (s : ByteArray) (ds : List Nat) (hs : s.data.toList = ds.map UInt8.ofNat) (hd : ∀ d ∈ ds, 48 ≤ d ∧ d ≤ 57) (h0 : ds ≠ []) (hl : ds.length ≤ 4096) (w : World) :
    Calls Tryd.prog 47 #[.string s] w fun e w' => ∃ a c, e = .returned (.tuple #[whV false a (dig L32 (digVal ds)).length c, .int .i64 0]) ∧
      w'.ownsRow w.heap.size 159 1 (.slice a (dig L32 (digVal ds)).length c) (dig L32 (digVal ds)).length (u32s (dig L32 (digVal ds))) ∧ Fr No w w' := by
  obtain ⟨d, r, rfl⟩ : ∃ d r, ds = d :: r := by cases ds with | nil => exact absurd rfl h0 | cons d r => exact ⟨d, r, rfl⟩
  have hdd := hd d (by simp)
  go_enter Tryd.func47, Tryd.ntmps47
  go_wp2_with fail
  have hit0 := World.iter_heap (w.alloc (.cells #[.bool false, .slice none 0 0] 64 (0, 0))) s 0
  rw [show (w.alloc (.cells #[.bool false, .slice none 0 0] 64 (0, 0))).heap.size = w.heap.size + 1 by (show (w.heap.push _).size = _; simp)] at hit0
  have hf0 : Fr No w ((w.alloc (.cells #[.bool false, .slice none 0 0] 64 (0, 0))).iter s 0) := ((Fr.refl No w).alloc _).alloc _
  have hb0 : Blk ((w.alloc (.cells #[.bool false, .slice none 0 0] 64 (0, 0))).iter s 0) w.heap.size (.cells #[.bool false, .slice none 0 0] 64 (0, 0)) := (Blk.new w _).alloc _
  obtain ⟨W, hW⟩ : ∃ W, (w.alloc (.cells #[.bool false, .slice none 0 0] 64 (0, 0))).iter s 0 = W := ⟨_, rfl⟩
  rw [hW] at hit0 hf0 hb0 ⊢
  obtain ⟨hlt, hby⟩ : ∃ h : 0 < s.size, (s[0]'h).toNat = d := byte_at (pre := []) (c := d) (post := r) (s := s) hs (by omega)
  have hnx : ∀ ty, (Instr.next (.pointer (some ⟨w.heap.size + 1, 0, none⟩)) true ty).run Tryd.prog W = _ := fun ty => Lib.run_next_ascii_at _ _ _ _ ty hit0 hlt (by omega)
  rw [hby] at hnx
  have hit2 := Lib.iterAt_heap W (w.heap.size + 1) s 0 (0 + 1) hit0
  have hf2 : Fr No w (W.iterAt (w.heap.size + 1) s (0 + 1)) := hf0.iterAt (fun h => by omega) s _
  have HS := Lib.hid (And.intro hs (And.intro hd (And.intro h0 hl)))
  clear hs hd h0 hl hW
  go_loopg [0, 4] 1 (fun r x0 x4 wr => x0 = .string s ∧ x4 = .bool false ∧ wr = W)
  case atStart => exact ⟨rfl, rfl, rfl⟩
  case round =>
    obtain ⟨rfl, rfl, rfl⟩ := hrel
    have n1 : ((d : Int) == 45) = false := by rw [beq_eq_false_iff_ne]; omega
    have n2 : ((d : Int) == 8722) = false := by rw [beq_eq_false_iff_ne]; omega
    go_wp2_with fail
    have hb2 : Blk (wr.iterAt (w.heap.size + 1) s 1) w.heap.size (.cells #[.bool false, .slice none 0 0] 64 (0, 0)) := hb0.fr ((Fr.refl (· = w.heap.size + 1) wr).iterAt (fun _ => rfl) s 1) (by omega)
    obtain ⟨q1, q2, q3, q4⟩ := HS.out
    refine (Parse_calls s (d :: r) q1 q2 q3 q4 _).mono ?_
    rintro e w2 ⟨a, c, rfl, ho, hf3⟩
    have hb3 := hb2.fr hf3 (fun x => x)
    have hf4 := hf2.callNo hf3
    have ho2 := own_mono (B' := w.heap.size + 1) ho hb2.lt
    obtain ⟨n, hn⟩ : ∃ n, (dig L32 (digVal (d :: r))).length = n := ⟨_, rfl⟩
    obtain ⟨us, hus⟩ : ∃ us, u32s (dig L32 (digVal (d :: r))) = us := ⟨_, rfl⟩
    rw [hn, hus] at ho2
    rw [hn]
    have HN := Lib.hid (And.intro hn hus)
    clear hn hus q1 q2 q3 q4 hit0 hit2 hnx hb0 hf0 hf2 hb2 ho hf3
    go_wp2_with fail
    refine (made_calls false a n c _).mono ?_
    rintro e w3 ⟨rfl, hf5⟩
    have hb5 := hb3.fr hf5 (fun x => x)
    have hf6 := hf4.callNo hf5
    have ho3 := own_fr ho2 hf5 (fun _ _ x => x)
    have R := Blk.all hb5
    have Z := Blk.frees hb5
    go_wp2_with fail
    have hW := (hb5.setOff 0 (.bool false)).setOff 1 (.slice a n c)
    have hne : (Value.slice a n c).ownBlock ≠ some w.heap.size := fun hk => by have := (ho3.lt _ hk).1; omega
    have h0 : ∀ i, (⟨w.heap.size, i, none⟩ : Addr).block < w.heap.size → No (⟨w.heap.size, i, none⟩ : Addr).block := fun i h => absurd h (Nat.lt_irrefl _)
    refine bodyPost_ret (results_ct rfl _ _ _ _ rfl (load_wh hW rfl)) rfl ⟨a, c, by rw [HN.out.1]; rfl, ?_, (hf6.setCell (a := ⟨w.heap.size, 0, none⟩) _ (h0 0)).setCell (a := ⟨w.heap.size, 1, none⟩) _ (h0 1)⟩
    rw [HN.out.1, HN.out.2]
    exact own_mono (ownsRow_setCell_other (ownsRow_setCell_other ho3 hne _) hne _) (Nat.le_succ _)
end Go.Proofs.YtjmjdmmojgmcdaaDoor
