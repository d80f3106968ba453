/- Parse. -/
import Derived.Test.YtlklijpjacmgpaaGreatDoorLR
import Derived.Test.YtlklijpjacmgpaaGreatDoorLU
namespace Go.Proofs.YtlklijpjacmgpaaGreatDoor
open Go.RowKit Go.Maps
set_option linter.unusedVariables false
set_option linter.unusedSimpArgs false
attribute [local go_sem ↓] Go.wp_at_zero Go.wp_at_succ

theorem decls_nz : ∀ (n : Nat) (bs : List Bg) (r : List Tok) (c : Int) (p : Pl), Good r → r.length < n → declsS n bs r = .error (c, p) → c ≠ 0
  | 0, bs, r, c, p, g, hn, h => by omega
  | n + 1, bs, r, c, p, g, hn, h => by
    cases h59 : isT [59] r with
    | true =>
      simp only [declsS] at h
      rw [if_pos h59] at h
      cases h
    | false =>
      rw [declsS_step _ _ _ h59] at h
      by_cases hb : bs = []
      · rw [if_pos hb] at h
        simp only at h
        split at h
        · rename_i h1; cases h; exact decl_nz h1
        · rename_i b r3 h1
          have q := decl_len g h1
          exact decls_nz n _ _ c p q.1 (by omega) h
      · rw [if_neg hb] at h
        split at h
        · rename_i h1; cases h; exact must_nz h1
        · rename_i r2 h1
          have q1 := must_len g h1
          split at h
          · rename_i h2; cases h; exact decl_nz h2
          · rename_i b r3 h2
            have q := decl_len q1.1 h2
            exact decls_nz n _ _ c p q.1 (by omega) h
theorem decls_len : ∀ (n : Nat) (bs bs2 : List Bg) (r r2 : List Tok), Good r → declsS n bs r = .ok (bs2, r2) → Good r2 ∧ r2.length ≤ r.length
  | 0, bs, bs2, r, r2, g, h => by simp [declsS] at h
  | n + 1, bs, bs2, r, r2, g, h => by
    cases h59 : isT [59] r with
    | true =>
      simp only [declsS] at h
      rw [if_pos h59] at h
      cases h
      exact ⟨g.pass, g.pass_le⟩
    | false =>
      rw [declsS_step _ _ _ h59] at h
      by_cases hb : bs = []
      · rw [if_pos hb] at h
        simp only at h
        split at h
        · cases h
        · rename_i b r3 h1
          have q := decl_len g h1
          have q2 := decls_len n _ _ _ _ q.1 h
          exact ⟨q2.1, by omega⟩
      · rw [if_neg hb] at h
        split at h
        · cases h
        · rename_i r2 h1
          have q1 := must_len g h1
          split at h
          · cases h
          · rename_i b r3 h2
            have q := decl_len q1.1 h2
            have q2 := decls_len n _ _ _ _ q.1 h
            exact ⟨q2.1, by omega⟩
theorem prog_nz {n : Nat} {r : List Tok} {c : Int} {p : Pl} (g : Good r) (hn : 8 * r.length + 10 ≤ n) (h : progS n r = .error (c, p)) : c ≠ 0 := by
  unfold progS at h
  split at h
  · rename_i h1; cases h; exact must_nz h1
  · rename_i r1 h1
    have q1 := must_len g h1
    split at h
    · rename_i h2; cases h; exact decls_nz _ _ _ _ _ q1.1 (by omega) h2
    · rename_i bs r2 h2
      have q2 := decls_len _ _ _ _ _ q1.1 h2
      split at h
      · rename_i h3; cases h; exact (st_nz _ n).row q2.1 (by omega) h3
      · split at h
        · cases h
        · cases h; decide
theorem parse_nz {s : List UInt8} {c : Int} {p : Pl} (h : parseS s = .error (c, p)) : c ≠ 0 := by
  unfold parseS at h
  split at h
  · rename_i n q hs; cases h; exact scanS_bad_ne hs
  · rename_i toks hs
    obtain ⟨g, _⟩ := scanS_good hs
    exact prog_nz g (Nat.le_refl _) h
def ParseOut (w : World) (res : Except Er Pg) (e : Ending) (w' : World) : Prop :=
  Fr No w w' ∧ match res with
    | .error (c, p) => e = .returned (.tuple #[.pointer none, .int .i64 c, .agg (plA p)])
    | .ok g => ∃ P, e = .returned (.tuple #[.pointer (some ⟨P, 0, none⟩), .int .i64 0, .agg (plA zeroPl)]) ∧ w.heap.size ≤ P ∧ PgIs w' w.heap.size P g
set_option maxRecDepth 100000 in
set_option maxHeartbeats 4000000 in
theorem parse_calls {w : World} (s : ByteArray) (hs : s.size ≤ maxLen) (hT : Tb w) :
    Calls Tryz.prog 11 #[.string s] w (ParseOut w (parseS s.data.toList)) := by
  have hmf : ∀ (fn : Fn) (first cap : Array Value) (w : World), (Instr.makeFunc fn first cap).run Tryz.prog w = .ok (.func fn first cap) w := fun _ _ _ _ => rfl
  obtain ⟨res, hres⟩ : ∃ res, parseS s.data.toList = res := ⟨_, rfl⟩
  have hnz : ∀ c p, res = .error (c, p) → c ≠ 0 := fun c p h => parse_nz (hres.trans h)
  have HR := Lib.hid (And.intro hres hnz)
  rw [hres]
  clear hres hnz
  go_enter Tryz.func11, Tryz.ntmps11
  go_wp2_with fail
  have hD0 := ((Blk.new w (plaO zeroPl)).alloc (pgO zeroPl (.slice none 0 0) (.slice none 0 0))).alloc (.cells #[.pointer (some ⟨w.heap.size + 1, 0, none⟩)] 35 (0, 0))
  have hP0 := (Blk.new (w.alloc (plaO zeroPl)) (pgO zeroPl (.slice none 0 0) (.slice none 0 0))).alloc (.cells #[.pointer (some ⟨w.heap.size + 1, 0, none⟩)] 35 (0, 0))
  have hV0 := Blk.new ((w.alloc (plaO zeroPl)).alloc (pgO zeroPl (.slice none 0 0) (.slice none 0 0))) (.cells #[.pointer (some ⟨w.heap.size + 1, 0, none⟩)] 35 (0, 0))
  have hF0 : Fr No w _ := (((Fr.refl No w).alloc (plaO zeroPl)).alloc (pgO zeroPl (.slice none 0 0) (.slice none 0 0))).alloc (.cells #[.pointer (some ⟨w.heap.size + 1, 0, none⟩)] 35 (0, 0))
  rw [alloc_size] at hP0
  rw [alloc_size, alloc_size] at hV0
  have hT0 := hT.no hF0
  refine (readP_calls s hs hT0 hP0 hV0 (by omega)).mono ?_
  rintro e w1 ⟨hf1, hm1⟩
  have hsz1 := hf1.size
  rw [alloc_size, alloc_size, alloc_size] at hsz1
  have hD1 := hD0.fr hf1 (by omega)
  have hV1 := hV0.fr hf1 (by omega)
  have hF1 : Fr No w w1 := hF0.call hf1 (fun k hk e => by omega)
  rw [HR.out.1] at hm1
  clear hD0 hP0 hV0 hF0 hT0 hf1
  obtain ⟨D, hD⟩ : ∃ D, w.heap.size = D := ⟨_, rfl⟩
  rw [hD] at hD1 hV1 hsz1 hm1 ⊢
  have HD := Lib.hid hD
  clear hD
  cases hres : res with
  | error ep =>
    rw [hres] at hm1
    obtain ⟨c, p⟩ := ep
    simp only at hm1
    have hc := HR.out.2 c p hres
    have hc1 : (c != 0) = true := by simpa using hc
    have HC := Lib.hid hc
    subst hm1
    clear hc
    unfold plA
    go_wp2_with fail
    have hN := Blk.new w1 (plaO p)
    have hDa := hD1.alloc (plaO p)
    have hFa := hF1.alloc (plaO p)
    obtain ⟨W2, hW2⟩ : ∃ W2, w1.alloc (plaO p) = W2 := ⟨_, rfl⟩
    obtain ⟨N, hNe⟩ : ∃ N, w1.heap.size = N := ⟨_, rfl⟩
    rw [hW2] at hN hDa hFa
    rw [hNe] at hN hsz1
    have HW := Lib.hid (And.intro hW2 hNe)
    clear hW2 hNe
    have RN : ∀ i, W2.cell? ⟨N, i, none⟩ = (#[.int .i64 p.b, .int .i64 p.g, .int .i64 p.l, .int .i64 p.c] : Array Value)[i]? := Blk.all hN
    have RD : ∀ i, W2.cell? ⟨D, i, none⟩ = (#[.int .i64 0, .int .i64 0, .int .i64 0, .int .i64 0] : Array Value)[i]? := Blk.all hDa
    have ZD : ∀ i, W2.frozen? ⟨D, i, none⟩ = false := Blk.frees hDa
    have e1 := HW.out.1
    unfold plaO at e1
    rw [e1, HW.out.2]
    clear e1
    go_region
    all_goals go_wp2_with fail
    have hD3 : Blk _ D (plaO p) := set4 hDa (.int .i64 p.b) (.int .i64 p.g) (.int .i64 p.l) (.int .i64 p.c)
    have hF3 := fr4 hFa (N := D) (fun i h => absurd h (Nat.not_lt.2 (Nat.le_of_eq HD.out))) (.int .i64 p.b) (.int .i64 p.g) (.int .i64 p.l) (.int .i64 p.c)
    rw [hres]
    exact bodyPost_ret (results_ttc rfl _ _ _ _ rfl (load_place hD3.drew)) rfl ⟨hF3.drew, rfl⟩
  | ok g =>
    rw [hres] at hm1
    obtain ⟨rfl, hPg⟩ := hm1
    unfold plA
    have hDl : D < w1.heap.size := by omega
    have hVl : D + 1 + 1 < w1.heap.size := by omega
    have RV : ∀ i, w1.cell? ⟨D + 1 + 1, i, none⟩ = (#[.pointer (some ⟨D + 1, 0, none⟩)] : Array Value)[i]? := Blk.all hV1
    have RD : ∀ i, w1.cell? ⟨D, i, none⟩ = (#[.int .i64 0, .int .i64 0, .int .i64 0, .int .i64 0] : Array Value)[i]? := Blk.all hD1
    have ZD : ∀ i, w1.frozen? ⟨D, i, none⟩ = false := Blk.frees hD1
    rw [alloc_size, alloc_size, alloc_size, HD.out] at hPg
    have hD3a : Blk _ D (plaO zeroPl) := set4 hD1 (.int .i64 0) (.int .i64 0) (.int .i64 0) (.int .i64 0)
    have hD3 := hD3a.alloc (plaO zeroPl)
    have hF3 := (fr4 hF1 (N := D) (fun i h => absurd h (Nat.not_lt.2 (Nat.le_of_eq HD.out))) (.int .i64 0) (.int .i64 0) (.int .i64 0) (.int .i64 0)).alloc (plaO zeroPl)
    have hfk := (fr4 (Fr.refl (· = D) w1) (N := D) (fun _ _ => rfl) (.int .i64 0) (.int .i64 0) (.int .i64 0) (.int .i64 0)).alloc (plaO zeroPl)
    have HRS := Lib.hid hres
    have hPg3 := (hPg.keep hfk (by omega) (fun k hk e => by omega)).mono (show D ≤ D + 1 + 1 + 1 by omega)
    clear hres
    go_wp2_with fail
    rw [HRS.out]
    refine bodyPost_ret (results_ttc rfl _ _ _ _ rfl (load_place hD3)) rfl ⟨hF3, D + 1, rfl, by rw [HD.out]; omega, ?_⟩
    rw [HD.out]
    exact hPg3
end Go.Proofs.YtlklijpjacmgpaaGreatDoor
