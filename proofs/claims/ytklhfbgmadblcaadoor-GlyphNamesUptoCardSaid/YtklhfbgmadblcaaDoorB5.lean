/- The reference's Scan. -/
import Derived.Test.YtklhfbgmadblcaaDoorB4
namespace Go.Proofs.YtklhfbgmadblcaaDoor
open Go.RowKit
set_option linter.unusedVariables false
set_option linter.unusedSimpArgs false

def tokC (x : Tok) : List Value := [.int .i64 x.kind, .string ⟨x.text.toArray⟩, .int .i64 x.at_.b, .int .i64 x.at_.g, .int .i64 x.at_.l, .int .i64 x.at_.c]
def toksV (l : List Tok) : List Value := l.flatMap tokC
theorem toksV_len (l : List Tok) : (toksV l).length = l.length * 6 := by
  induction l with
  | nil => rfl
  | cons x l ih => simp only [toksV, List.flatMap_cons, List.length_append, List.length_cons] at ih ⊢; rw [ih]; simp [tokC]; omega
theorem info_tok : (Tryd.prog.info? 37).map (fun i => (i.zero, i.size, i.bytes)) = some (some (.agg #[.int .i64 0, .string ⟨#[]⟩, .int .i64 0, .int .i64 0, .int .i64 0, .int .i64 0]), 6, 56) := by kernel_rfl

theorem new_row (w : World) (cs : Array Value) (t : TypeId) : ∀ j u, cs.toList[j]? = some u → (w.alloc (.cells cs t (0, 0))).cell? ((⟨w.heap.size, 0, none⟩ : Addr).add j) = some u := by
  intro j u h
  have hb := Blk.new w (.cells cs t (0, 0))
  have := hb.cell j u (by simpa using h)
  by_cases h0 : j = 0
  · subst h0; simpa [Addr.add] using this
  · simpa [Addr.add, h0] using this

theorem new_row2 {w : World} {cs : Array Value} {t : TypeId} {m : Nat} (hm : w.heap.size = m) : ∀ j u, cs.toList[j]? = some u → (w.alloc (.cells cs t (0, 0))).cell? ((⟨m, 0, none⟩ : Addr).add j) = some u := by
  subst hm; exact new_row w cs t
theorem tokC_one (x : Tok) : ∀ u ∈ tokC x, u.oneCell' = true := by
  intro u hu
  simp only [tokC, List.mem_cons, List.not_mem_nil, or_false] at hu
  rcases hu with rfl | rfl | rfl | rfl | rfl | rfl <;> rfl

theorem decText_ne (n : Nat) : decText n ≠ [] := by
  unfold decText
  split
  · simp
  · rename_i h
    simp [dig_pos (b := 10) (by omega) h]
theorem takeWhile_pos {p : Nat → Bool} {c : Nat} {r : List Nat} (h : p c = true) : 1 ≤ ((c :: r).takeWhile p).length := by
  rw [List.takeWhile_cons_of_pos h]; simp
theorem takeWhile_le (p : Nat → Bool) (l : List Nat) : (l.takeWhile p).length ≤ l.length := (List.takeWhile_sublist p).length_le
/-- a token takes something, and is no end -/
theorem tk_ok {c : Nat} {r : List Nat} {k : Int} {x : List UInt8} {m : Nat} (h : tk (c :: r) = .ok k x m) : 1 ≤ m ∧ m ≤ (c :: r).length ∧ (k = 1 ∨ k = 2 ∨ k = 3) := by
  simp only [tk] at h
  split at h
  · rename_i h2
    split at h
    · cases h
    · cases h
      exact ⟨takeWhile_pos (by unfold part; simp [h2]), takeWhile_le _ _, Or.inl rfl⟩
  · split at h
    · rename_i h3
      split at h
      · cases h
      · cases h
        exact ⟨takeWhile_pos (by unfold digit; simp [h3]), takeWhile_le _ _, Or.inr (Or.inl rfl)⟩
    · split at h
      · repeat' split at h
        all_goals first
          | (cases h; refine ⟨by omega, ?_, Or.inr (Or.inr rfl)⟩; simp)
          | cases h
        rename_i hh
        cases r with
        | nil => cases hh
        | cons y r => simp
      · cases h

theorem tk_bad {c : Nat} {r : List Nat} {n : Int} (h : tk (c :: r) = .bad n) : n = 42 ∨ n = 2 ∨ n = 41 := by
  simp only [tk] at h
  repeat' split at h
  all_goals first
    | (cases h; simp; done)
    | cases h

/-- what Scan hands back -/
def ScanOut (w : World) (r : Res) (e : Ending) (w' : World) : Prop :=
  match r with
  | .bad n p => e = .returned (.tuple #[.slice none 0 0, .int .i64 n, .agg (plA p)]) ∧ Fr No w w'
  | .ok l => ∃ a c, e = .returned (.tuple #[.slice a l.length c, .int .i64 0, .agg (plA zeroPl)]) ∧ w'.ownsRow w.heap.size 37 6 (.slice a l.length c) l.length (toksV l) ∧ Fr No w w'

theorem pl_exit {w wr : World} {q : Pl} (h : Blk wr w.heap.size (plO q)) (hf : Fr No w wr) (p : Pl) (W : World)
    (hW : W = (((wr.setCell ⟨w.heap.size, 0, none⟩ (.int .i64 p.b)).setCell ⟨w.heap.size, 1, none⟩ (.int .i64 p.g)).setCell ⟨w.heap.size, 2, none⟩ (.int .i64 p.l)).setCell ⟨w.heap.size, 3, none⟩ (.int .i64 p.c)) :
    Blk W w.heap.size (plO p) ∧ Fr No w W := by
  subst hW
  refine ⟨(((h.setOff 0 _).setOff 1 _).setOff 2 _).setOff 3 _, ?_⟩
  exact (((hf.setCell _ (by simp)).setCell _ (by simp)).setCell _ (by simp)).setCell _ (by simp)

/-- the tokens of a text -/
def scanOf (cs : List Nat) (t : List UInt8) : Res := scan (!t.isEmpty) (cs.length + 1) [] cs

set_option maxRecDepth 100000 in
set_option maxHeartbeats 4000000 in
theorem rScan_long (s : ByteArray) (w : World) (h : 4096 < s.size) (hmax : s.size ≤ maxLen) :
    Calls Tryd.prog 18 #[.string s] w (ScanOut w (.bad 2 zeroPl)) := by
  unfold maxLen at hmax
  go_enter Tryd.func18, Tryd.ntmps18
  go_wp2_with fail
  have e1 : Blk _ w.heap.size (plO zeroPl) := Blk.new w (plO zeroPl)
  exact bodyPost_ret (results_ttc rfl _ _ _ _ rfl (load_pl e1 rfl)) rfl ⟨rfl, (Fr.refl No w).alloc _⟩

def ScRel (s : ByteArray) (w wr : World) (b : Nat) (brk : Bool) (t : List UInt8) (R : Res) (gk : Nat) (x5 : Value) : Prop :=
  ∃ (pre cs : List Nat) (acc : List Tok) (a : Option Addr) (ca : Nat), x5 = .slice a acc.length ca ∧ Txt s.data.toList (pre ++ cs) t ∧ R = Res.pre acc (scan brk gk pre cs) ∧ cs.length < gk ∧ acc.length + gk ≤ 4097 ∧
    wr.ownsRow (b + 1) 37 6 (.slice a acc.length ca) acc.length (toksV acc) ∧ Rd wr b s pre ∧ Fr No w wr ∧ Blk wr w.heap.size (plO zeroPl)

set_option maxRecDepth 100000 in
set_option maxHeartbeats 4000000 in
theorem rScan_short (s : ByteArray) (w : World) (hS : s.size ≤ 4096) {cs : List Nat} {t : List UInt8} (T : Txt s.data.toList cs t) :
    Calls Tryd.prog 18 #[.string s] w (ScanOut w (scanOf cs t)) := by
  obtain ⟨i0, hi, hz0, hz1, hz2⟩ := info_parts info_tok
  have hcs : cs.length ≤ 4096 := by have := T.len_le; rw [← Lib.size_eq] at this; omega
  have hd : decide ((4096 : Int) < (s.size : Int)) = false := by simp; omega
  go_enter Tryd.func18, Tryd.ntmps18
  go_wp2_with fail
  refine (Begin_calls s _).mono ?_
  rintro e w1 ⟨b, rfl, hrd, hble, hf1⟩
  have hblk : Blk w1 w.heap.size (plO zeroPl) := (Blk.new w (plO zeroPl)).fr hf1 (fun x => x)
  have hblt := hrd.lt
  have hb2 : w.heap.size < b := by simp at hble; omega
  have hf := ((Fr.refl No w).alloc _).callNo hf1
  clear hf1 hble
  go_wp2_with fail
  go_loopg [5] (cs.length + 1) (fun gk x5 wr => b < wr.heap.size ∧ ScRel s w wr b (!t.isEmpty) t (scanOf cs t) gk x5)
  case atStart => exact ⟨hblt, [], cs, [], none, 0, rfl, T, by rw [Res.pre_nil]; rfl, by omega, by simp; omega, World.ownsRow_nil _ _ _ _, hrd, hf, hblk⟩
  case round =>
    obtain ⟨hbs, pre, cs1, acc, a, ca, rfl, T1, hR, hlen, hacc, ho, hrd, hf, hblk⟩ := hrel
    obtain ⟨n, rfl⟩ : ∃ n, gk = n + 1 := ⟨gk - 1, by omega⟩
    have HR := Lib.hid hR
    clear hR
    go_wp2_with fail
    refine (spaces_calls T1 hS hrd).mono ?_
    rintro e w2 ⟨rfl, hrd2, hfr2⟩
    have hblk2 := hblk.fr hfr2 (by omega)
    have ho2 := own_fr ho hfr2 (fun k hk => by have := (ho.lt k hk).1; omega)
    have hf2 := hf.call hfr2 (fun k hk hkb => by omega)
    have hbs2 : b < w2.heap.size := Nat.lt_of_lt_of_le hbs hfr2.size
    clear hblk ho hf hrd hfr2 hbs
    have hsa := skipped_append cs1
    have T2 : Txt s.data.toList ((pre ++ skipped cs1) ++ skipC false cs1) t := by rw [List.append_assoc, hsa]; exact T1
    have hl2 := skipC_le cs1 false
    cases hsk : skipC false cs1 with
    | nil =>
      rw [hsk] at hsa T2
      cases hB : (!t.isEmpty) with
      | true =>
        have HS := Lib.hid (And.intro hsa (And.intro hsk hB))
        have e40 : spErr true [] = 40 := rfl
        rw [e40]
        clear hsa hsk hB e40
        have g4_0 : w2.cell? ⟨w.heap.size, 0, none⟩ = some (.int .i64 0) := hblk2.cell 0 _ rfl
        have f4_0 := hblk2.free 0
        have g4_1 : w2.cell? ⟨w.heap.size, 1, none⟩ = some (.int .i64 0) := hblk2.cell 1 _ rfl
        have f4_1 := hblk2.free 1
        have g4_2 : w2.cell? ⟨w.heap.size, 2, none⟩ = some (.int .i64 0) := hblk2.cell 2 _ rfl
        have f4_2 := hblk2.free 2
        have g4_3 : w2.cell? ⟨w.heap.size, 3, none⟩ = some (.int .i64 0) := hblk2.cell 3 _ rfl
        have f4_3 := hblk2.free 3
        have r1 : w2.cell? ⟨b, 1, none⟩ = some (.int .i64 (along start (pre ++ skipped cs1)).b) := Blk.cell hrd2 1 _ rfl
        have r2 : w2.cell? ⟨b, 2, none⟩ = some (.int .i64 (along start (pre ++ skipped cs1)).g) := Blk.cell hrd2 2 _ rfl
        have r3 : w2.cell? ⟨b, 3, none⟩ = some (.int .i64 (along start (pre ++ skipped cs1)).l) := Blk.cell hrd2 3 _ rfl
        have r4 : w2.cell? ⟨b, 4, none⟩ = some (.int .i64 (along start (pre ++ skipped cs1)).c) := Blk.cell hrd2 4 _ rfl
        have hne : b ≠ w.heap.size := by omega
        have hne2 : w.heap.size ≠ b := by omega
        go_wp2_with fail
        go_region
        go_wp2_with fail
        obtain ⟨e1, e2⟩ := pl_exit hblk2 hf2 _ _ rfl
        refine bodyPost_ret (results_ttc rfl _ _ _ _ rfl (load_pl e1.drew rfl)) rfl ?_
        obtain ⟨a1, a2, a3⟩ := HS.out
        have hres : scanOf cs t = .bad 40 (along start (pre ++ skipped cs1)) := by
          rw [HR.out]
          simp only [scan, a2, a3, if_true, Res.pre]
          rw [show skipped cs1 = cs1 by simpa using a1]
        unfold ScanOut
        rw [hres]
        exact ⟨rfl, e2.drew⟩
      | false =>
        have ht : t = [] := by simpa using hB
        have HS := Lib.hid (And.intro hsa (And.intro hsk hB))
        have e0 : spErr false [] = 0 := rfl
        rw [e0]
        clear hsk hB e0
        go_wp2_with fail
        refine (rtoken_calls T2 hS hrd2 (fun _ => ht)).mono ?_
        intro e w3 hto
        unfold TokOut at hto
        simp only [tk] at hto
        obtain ⟨rfl, hrd3, hfr3⟩ := hto
        simp only [tokA, plA]
        have hblk3 := hblk2.fr hfr3 (by omega)
        have ho3 := own_fr ho2 hfr3 (fun k hk => by have := (ho2.lt k hk).1; omega)
        have hf3 := hf2.call hfr3 (fun k hk hkb => by omega)
        have hbs3 : b < w3.heap.size := Nat.lt_of_lt_of_le hbs2 hfr3.size
        clear hblk2 ho2 hf2 hrd2 hfr3 hbs2 hrd3
        have g4_0 : w3.cell? ⟨w.heap.size, 0, none⟩ = some (.int .i64 0) := hblk3.cell 0 _ rfl
        have f4_0 := hblk3.free 0
        have g4_1 : w3.cell? ⟨w.heap.size, 1, none⟩ = some (.int .i64 0) := hblk3.cell 1 _ rfl
        have f4_1 := hblk3.free 1
        have g4_2 : w3.cell? ⟨w.heap.size, 2, none⟩ = some (.int .i64 0) := hblk3.cell 2 _ rfl
        have f4_2 := hblk3.free 2
        have g4_3 : w3.cell? ⟨w.heap.size, 3, none⟩ = some (.int .i64 0) := hblk3.cell 3 _ rfl
        have f4_3 := hblk3.free 3
        go_wp2_with ((at_builtin; refine wpList_append_own _ rfl _ _ 25 rfl (b + 1) 37 i0 (.agg #[.int .i64 0, .string ⟨#[]⟩, .int .i64 0, .int .i64 0, .int .i64 0, .int .i64 0]) 6 56 Tryd.underlying25 hi hz0 hz1 hz2 rfl (by decide) _ _ _ rfl (((ho3.alloc _).alloc _).alloc _) ⟨w3.heap.size + 1 + 1, 0, none⟩ 1 1 (tokC ⟨0, [], along start (pre ++ skipped cs1)⟩) rfl rfl ?c1 ?c2 ?c3 ?c4 ?c5 ?_; (case c1 => exact new_row2 (by simp)); (case c2 => exact tokC_one _); (case c3 => (unfold maxLen; omega)); (case c4 => omega); (case c5 => (simp; omega)); intro v6 w6 hown6 hgr6 _; have g8 := hgr6.cell ((((Blk.new w3 (Obj.cells #[.int .i64 0, .string ⟨#[]⟩, .int .i64 (along start (pre ++ skipped cs1)).b, .int .i64 (along start (pre ++ skipped cs1)).g, .int .i64 (along start (pre ++ skipped cs1)).l, .int .i64 (along start (pre ++ skipped cs1)).c] 37)).alloc (Obj.cells (plA (along start (pre ++ skipped cs1))) 27)).alloc (Obj.cells #[.int .i64 0, .string ⟨#[]⟩, .int .i64 (along start (pre ++ skipped cs1)).b, .int .i64 (along start (pre ++ skipped cs1)).g, .int .i64 (along start (pre ++ skipped cs1)).l, .int .i64 (along start (pre ++ skipped cs1)).c] 37)).cell 0 (.int .i64 0) rfl) (fun e => by have := (ho3.lt _ e.symm).2; simp at this); have hblk6 : Blk w6 w.heap.size (plO zeroPl) := (hgr6.block _ (((hblk3.alloc _).alloc _).alloc _).lt (fun e => by have := (ho3.lt _ e.symm).1; omega)).trans (((hblk3.alloc _).alloc _).alloc _); have f6 := (((hf3.alloc (Obj.cells #[.int .i64 0, .string ⟨#[]⟩, .int .i64 (along start (pre ++ skipped cs1)).b, .int .i64 (along start (pre ++ skipped cs1)).g, .int .i64 (along start (pre ++ skipped cs1)).l, .int .i64 (along start (pre ++ skipped cs1)).c] 37)).alloc (Obj.cells (plA (along start (pre ++ skipped cs1))) 27)).alloc (Obj.cells #[.int .i64 0, .string ⟨#[]⟩, .int .i64 (along start (pre ++ skipped cs1)).b, .int .i64 (along start (pre ++ skipped cs1)).g, .int .i64 (along start (pre ++ skipped cs1)).l, .int .i64 (along start (pre ++ skipped cs1)).c] 37)).grown hgr6 (fun k hk hlt => by have := (ho3.lt _ hk).1; omega); clear g4_0 g4_1 g4_2 g4_3 f4_0 f4_1 f4_2 f4_3; have g4_0 := hblk6.cell 0 (.int .i64 0) rfl; have g4_1 := hblk6.cell 1 (.int .i64 0) rfl; have g4_2 := hblk6.cell 2 (.int .i64 0) rfl; have g4_3 := hblk6.cell 3 (.int .i64 0) rfl; have f4_0 := hblk6.free 0; have f4_1 := hblk6.free 1; have f4_2 := hblk6.free 2; have f4_3 := hblk6.free 3))
        obtain ⟨a6, c6, rfl⟩ := own_form hown6
        obtain ⟨e1, e2⟩ := pl_exit hblk6 f6 zeroPl _ rfl
        have hown7 := (own_fr hown6 ((Fr.refl (· = w.heap.size) w6).setCell (a := ⟨w.heap.size, 0, none⟩) (.int .i64 0) (fun _ => rfl)) (fun k hk => by have := (hown6.lt _ hk).1; omega))
        have hown8 := (own_fr hown7 ((Fr.refl (· = w.heap.size) _).setCell (a := ⟨w.heap.size, 1, none⟩) (.int .i64 0) (fun _ => rfl)) (fun k hk => by have := (hown6.lt _ hk).1; omega))
        have hown9 := (own_fr hown8 ((Fr.refl (· = w.heap.size) _).setCell (a := ⟨w.heap.size, 2, none⟩) (.int .i64 0) (fun _ => rfl)) (fun k hk => by have := (hown6.lt _ hk).1; omega))
        have hownA := (own_fr hown9 ((Fr.refl (· = w.heap.size) _).setCell (a := ⟨w.heap.size, 3, none⟩) (.int .i64 0) (fun _ => rfl)) (fun k hk => by have := (hown6.lt _ hk).1; omega))
        refine bodyPost_ret (results_ttc rfl _ _ _ _ rfl (load_pl e1 rfl)) rfl ?_
        obtain ⟨a1, a2, a3⟩ := HS.out
        have hres : scanOf cs t = .ok (acc ++ [⟨0, [], along start (pre ++ skipped cs1)⟩]) := by
          rw [HR.out]
          simp only [scan, a2, a3, Res.pre]
          rw [show skipped cs1 = cs1 by simpa using a1]
          rfl
        unfold ScanOut
        rw [hres]
        refine ⟨a6, c6, by rw [List.length_append]; rfl, ?_, e2⟩
        have := own_mono hownA (B' := w.heap.size) (by omega)
        simpa [toksV] using this
    | cons c r =>
      have e0 : ∀ B, spErr B (c :: r) = 0 := fun _ => rfl
      rw [e0]
      rw [hsk] at hsa T2 hl2
      have HS := Lib.hid (And.intro hsa hsk)
      clear hsa hsk e0
      simp only [List.length_cons] at hl2
      go_wp2_with fail
      refine (rtoken_calls T2 hS hrd2 (fun h => by cases h)).mono ?_
      intro e w3 hto
      unfold TokOut at hto
      cases htk : tk (c :: r) with
      | bad m =>
        rw [htk] at hto
        obtain ⟨k, x, rfl, hfr3⟩ := hto
        have hm := tk_bad htk
        have hm0 : (m != 0) = true := by simp; omega
        have HTK := Lib.hid htk
        simp only [tokA, plA]
        have hblk3 := hblk2.fr hfr3 (by omega)
        have hf3 := hf2.call hfr3 (fun k hk hkb => by omega)
        clear hblk2 ho2 hf2 hrd2 hfr3 hbs2 htk hm
        have hw0 : w.heap.size < w3.heap.size := hblk3.lt
        have hsz3 : ((w3.alloc (Obj.cells #[.int .i64 k, .string x, .int .i64 (along start (pre ++ skipped cs1)).b, .int .i64 (along start (pre ++ skipped cs1)).g, .int .i64 (along start (pre ++ skipped cs1)).l, .int .i64 (along start (pre ++ skipped cs1)).c] 37)).heap.size = w3.heap.size + 1) := by simp
        have hB := Blk.new (w3.alloc (Obj.cells #[.int .i64 k, .string x, .int .i64 (along start (pre ++ skipped cs1)).b, .int .i64 (along start (pre ++ skipped cs1)).g, .int .i64 (along start (pre ++ skipped cs1)).l, .int .i64 (along start (pre ++ skipped cs1)).c] 37)) (Obj.cells #[.int .i64 (along start (pre ++ skipped cs1)).b, .int .i64 (along start (pre ++ skipped cs1)).g, .int .i64 (along start (pre ++ skipped cs1)).l, .int .i64 (along start (pre ++ skipped cs1)).c] 27)
        rw [hsz3] at hB
        have hblk4 := (hblk3.alloc (Obj.cells #[.int .i64 k, .string x, .int .i64 (along start (pre ++ skipped cs1)).b, .int .i64 (along start (pre ++ skipped cs1)).g, .int .i64 (along start (pre ++ skipped cs1)).l, .int .i64 (along start (pre ++ skipped cs1)).c] 37)).alloc (Obj.cells #[.int .i64 (along start (pre ++ skipped cs1)).b, .int .i64 (along start (pre ++ skipped cs1)).g, .int .i64 (along start (pre ++ skipped cs1)).l, .int .i64 (along start (pre ++ skipped cs1)).c] 27)
        have hf4 := (hf3.alloc (Obj.cells #[.int .i64 k, .string x, .int .i64 (along start (pre ++ skipped cs1)).b, .int .i64 (along start (pre ++ skipped cs1)).g, .int .i64 (along start (pre ++ skipped cs1)).l, .int .i64 (along start (pre ++ skipped cs1)).c] 37)).alloc (Obj.cells #[.int .i64 (along start (pre ++ skipped cs1)).b, .int .i64 (along start (pre ++ skipped cs1)).g, .int .i64 (along start (pre ++ skipped cs1)).l, .int .i64 (along start (pre ++ skipped cs1)).c] 27)
        clear hblk3 hf3 hsz3
        go_wp2_with fail
        generalize ((w3.alloc (Obj.cells #[.int .i64 k, .string x, .int .i64 (along start (pre ++ skipped cs1)).b, .int .i64 (along start (pre ++ skipped cs1)).g, .int .i64 (along start (pre ++ skipped cs1)).l, .int .i64 (along start (pre ++ skipped cs1)).c] 37)).alloc (Obj.cells #[.int .i64 (along start (pre ++ skipped cs1)).b, .int .i64 (along start (pre ++ skipped cs1)).g, .int .i64 (along start (pre ++ skipped cs1)).l, .int .i64 (along start (pre ++ skipped cs1)).c] 27)) = w4 at hB hblk4 hf4 ⊢
        have g4_0 : w4.cell? ⟨w.heap.size, 0, none⟩ = some (.int .i64 0) := hblk4.cell 0 _ rfl
        have f4_0 := hblk4.free 0
        have g4_1 : w4.cell? ⟨w.heap.size, 1, none⟩ = some (.int .i64 0) := hblk4.cell 1 _ rfl
        have f4_1 := hblk4.free 1
        have g4_2 : w4.cell? ⟨w.heap.size, 2, none⟩ = some (.int .i64 0) := hblk4.cell 2 _ rfl
        have f4_2 := hblk4.free 2
        have g4_3 : w4.cell? ⟨w.heap.size, 3, none⟩ = some (.int .i64 0) := hblk4.cell 3 _ rfl
        have f4_3 := hblk4.free 3
        have p0 : w4.cell? ⟨w3.heap.size + 1, 0, none⟩ = some (.int .i64 (along start (pre ++ skipped cs1)).b) := hB.cell 0 _ rfl
        have p1 : w4.cell? ⟨w3.heap.size + 1, 1, none⟩ = some (.int .i64 (along start (pre ++ skipped cs1)).g) := hB.cell 1 _ rfl
        have p2 : w4.cell? ⟨w3.heap.size + 1, 2, none⟩ = some (.int .i64 (along start (pre ++ skipped cs1)).l) := hB.cell 2 _ rfl
        have p3 : w4.cell? ⟨w3.heap.size + 1, 3, none⟩ = some (.int .i64 (along start (pre ++ skipped cs1)).c) := hB.cell 3 _ rfl
        have hne : w.heap.size ≠ w3.heap.size + 1 := by omega
        have hne2 : w3.heap.size + 1 ≠ w.heap.size := by omega
        go_region
        go_wp2_with fail
        obtain ⟨e1, e2⟩ := pl_exit hblk4 hf4 _ _ rfl
        refine bodyPost_ret (results_ttc rfl _ _ _ _ rfl (load_pl e1.drew rfl)) rfl ?_
        obtain ⟨a1, a2⟩ := HS.out
        have hres : scanOf cs t = .bad m (along start (pre ++ skipped cs1)) := by
          rw [HR.out]
          simp only [scan, a2, HTK.out, Res.pre]
        unfold ScanOut
        rw [hres]
        exact ⟨rfl, e2.drew⟩
      | ok k x m =>
        rw [htk] at hto
        obtain ⟨rfl, hrd3, hfr3⟩ := hto
        obtain ⟨m1, m2, hk⟩ := tk_ok htk
        have hk0 : (k == 0) = false := by simp; omega
        have HTK := Lib.hid htk
        simp only [tokA, plA]
        have hblk3 := hblk2.fr hfr3 (by omega)
        have ho3 := own_fr ho2 hfr3 (fun k hk => by have := (ho2.lt k hk).1; omega)
        have hf3 := hf2.call hfr3 (fun k hk hkb => by omega)
        have hbs3 : b < w3.heap.size := Nat.lt_of_lt_of_le hbs2 hfr3.size
        clear hblk2 ho2 hf2 hrd2 hfr3 hbs2 htk hk
        have g4_0 : w3.cell? ⟨w.heap.size, 0, none⟩ = some (.int .i64 0) := hblk3.cell 0 _ rfl
        have f4_0 := hblk3.free 0
        have g4_1 : w3.cell? ⟨w.heap.size, 1, none⟩ = some (.int .i64 0) := hblk3.cell 1 _ rfl
        have f4_1 := hblk3.free 1
        have g4_2 : w3.cell? ⟨w.heap.size, 2, none⟩ = some (.int .i64 0) := hblk3.cell 2 _ rfl
        have f4_2 := hblk3.free 2
        have g4_3 : w3.cell? ⟨w.heap.size, 3, none⟩ = some (.int .i64 0) := hblk3.cell 3 _ rfl
        have f4_3 := hblk3.free 3
        go_wp2_with ((at_builtin; refine wpList_append_own _ rfl _ _ 25 rfl (b + 1) 37 i0 (.agg #[.int .i64 0, .string ⟨#[]⟩, .int .i64 0, .int .i64 0, .int .i64 0, .int .i64 0]) 6 56 Tryd.underlying25 hi hz0 hz1 hz2 rfl (by decide) _ _ _ rfl (((ho3.alloc _).alloc _).alloc _) ⟨w3.heap.size + 1 + 1, 0, none⟩ 1 1 (tokC ⟨k, x, along start (pre ++ skipped cs1)⟩) rfl rfl ?c1 ?c2 ?c3 ?c4 ?c5 ?_; (case c1 => exact new_row2 (by simp)); (case c2 => exact tokC_one _); (case c3 => (unfold maxLen; omega)); (case c4 => omega); (case c5 => (simp; omega)); intro v6 w6 hown6 hgr6 _; have g8 := hgr6.cell ((((Blk.new w3 (Obj.cells #[.int .i64 k, .string ⟨x.toArray⟩, .int .i64 (along start (pre ++ skipped cs1)).b, .int .i64 (along start (pre ++ skipped cs1)).g, .int .i64 (along start (pre ++ skipped cs1)).l, .int .i64 (along start (pre ++ skipped cs1)).c] 37)).alloc (Obj.cells (plA (along start (pre ++ skipped cs1))) 27)).alloc (Obj.cells #[.int .i64 k, .string ⟨x.toArray⟩, .int .i64 (along start (pre ++ skipped cs1)).b, .int .i64 (along start (pre ++ skipped cs1)).g, .int .i64 (along start (pre ++ skipped cs1)).l, .int .i64 (along start (pre ++ skipped cs1)).c] 37)).cell 0 (.int .i64 k) rfl) (fun e => by have := (ho3.lt _ e.symm).2; simp at this); have hblk6 : Blk w6 w.heap.size (plO zeroPl) := (hgr6.block _ (((hblk3.alloc _).alloc _).alloc _).lt (fun e => by have := (ho3.lt _ e.symm).1; omega)).trans (((hblk3.alloc _).alloc _).alloc _); have f6 := (((hf3.alloc (Obj.cells #[.int .i64 k, .string ⟨x.toArray⟩, .int .i64 (along start (pre ++ skipped cs1)).b, .int .i64 (along start (pre ++ skipped cs1)).g, .int .i64 (along start (pre ++ skipped cs1)).l, .int .i64 (along start (pre ++ skipped cs1)).c] 37)).alloc (Obj.cells (plA (along start (pre ++ skipped cs1))) 27)).alloc (Obj.cells #[.int .i64 k, .string ⟨x.toArray⟩, .int .i64 (along start (pre ++ skipped cs1)).b, .int .i64 (along start (pre ++ skipped cs1)).g, .int .i64 (along start (pre ++ skipped cs1)).l, .int .i64 (along start (pre ++ skipped cs1)).c] 37)).grown hgr6 (fun k hk hlt => by have := (ho3.lt _ hk).1; omega); clear g4_0 g4_1 g4_2 g4_3 f4_0 f4_1 f4_2 f4_3; have g4_0 := hblk6.cell 0 (.int .i64 0) rfl; have g4_1 := hblk6.cell 1 (.int .i64 0) rfl; have g4_2 := hblk6.cell 2 (.int .i64 0) rfl; have g4_3 := hblk6.cell 3 (.int .i64 0) rfl; have f4_0 := hblk6.free 0; have f4_1 := hblk6.free 1; have f4_2 := hblk6.free 2; have f4_3 := hblk6.free 3))
        obtain ⟨a6, c6, rfl⟩ := own_form hown6
        obtain ⟨a1, a2⟩ := HS.out
        go_roundg n
        case measure => omega
        case rel =>
          refine ⟨Nat.lt_of_lt_of_le (by simp; omega) hgr6.size, pre ++ skipped cs1 ++ (c :: r).take m, (c :: r).drop m, acc ++ [⟨k, x, along start (pre ++ skipped cs1)⟩], a6, c6, by simp, ?_, ?_, ?_, ?_, ?_, ?_, f6, hblk6⟩
          · rw [List.append_assoc (pre ++ skipped cs1), List.take_append_drop]; exact T2
          · rw [HR.out]
            simp only [scan, a2, HTK.out]
            rw [Res.pre_cons]
          · simp only [List.length_drop, List.length_cons]; omega
          · simp; omega
          · simpa [toksV] using hown6
          · exact (((hrd3.alloc _).alloc _).alloc _).fr (Fr.grown (S := fun q => (Value.slice a acc.length ca).ownBlock = some q) (Fr.refl _ _) hgr6 (fun q hq _ => hq)) (fun hq => by have := (ho3.lt _ hq).1; omega)
end Go.Proofs.YtklhfbgmadblcaaDoor
