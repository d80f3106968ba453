/- short, assign, mark; Statements' values; assign; cond; assign; mark. -/
import Derived.Test.YtlklijpjacmgpaaGreatDoorLG
import Derived.Test.YtlklijpjacmgpaaGreatDoorShelf
import Derived.Deep.DeepCutAuto
import Derived.Deep.CutBlock
import Derived.Deep.Cut
import Derived.Maps.Own
import Derived.Maps.OwnOps
import Derived.Maps.Views
import Derived.Maps.OwnSet
namespace Go.Proofs.YtlklijpjacmgpaaGreatDoor
open Go.RowKit
set_option linter.unusedVariables false
set_option linter.unusedSimpArgs false
attribute [local go_sem ↓] Go.wp_at_zero Go.wp_at_succ

theorem decode_flat {s : ByteArray} {pos c : Nat} {cs : List Nat} (hc : okc c = true) (h : s.data.toList.drop pos = (c :: cs).flatMap enc) : pos < s.size ∧ Utf8.decode s pos = (c, (enc c).length) ∧ s.data.toList.drop (pos + (enc c).length) = cs.flatMap enc := by
  have hl := congrArg List.length h
  have hcp := enc_pos c
  have hsz := Lib.size_eq s
  simp only [List.length_drop, List.flatMap_cons, List.length_append] at hl
  have hlt : pos < s.size := by omega
  refine ⟨hlt, ?_, by rw [← List.drop_drop, h, List.flatMap_cons, List.drop_left]⟩
  obtain ⟨b, r, hbr⟩ : ∃ b r, s.data.toList.drop pos = b :: r := by
    cases hq : s.data.toList.drop pos with
    | nil => rw [hq] at h; have := congrArg List.length h; simp at this; omega
    | cons b r => exact ⟨b, r, rfl⟩
  have h1 := decode_head ⟨(s.data.toList.drop pos).toArray⟩ b r (by simpa using hbr)
  have e : Utf8.decode ⟨(s.data.toList.drop pos).toArray⟩ 0 = Utf8.decode s pos := by
    rw [Lib.decode_at, Lib.decode_at]
    have hs2 : (⟨(s.data.toList.drop pos).toArray⟩ : ByteArray).size = s.size - pos := by rw [Lib.size_eq, Lib.size_eq]; simp
    have hg : ∀ i, (⟨(s.data.toList.drop pos).toArray⟩ : ByteArray).get! i = s.get! (pos + i) := fun i => by
      rw [get_bang, get_bang]; simp
    simp only [hs2, hg, Nat.zero_add, Nat.sub_zero, Nat.add_zero]
  rw [← e, h1, ← hbr, h, List.flatMap_cons, dec_enc hc]
  rfl
theorem cpsOf_eq {x : List UInt8} {cs : List Nat} (hx : x = cs.flatMap enc) (hok : ∀ c ∈ cs, okc c = true) : cpsOf x = cs :=
  (Txt.uniq (Txt.ex x).choose_spec.choose_spec (⟨by simp [hx], hok, rfl⟩ : Txt x cs [])).1
theorem shortS_eq {x : List UInt8} {cs : List Nat} (hx : x = cs.flatMap enc) (hok : ∀ c ∈ cs, okc c = true) : shortS x = (!cs.contains 176 && decide (cs.length < 16)) := by
  unfold shortS
  rw [cpsOf_eq hx hok]

set_option maxRecDepth 100000 in
set_option maxHeartbeats 2000000 in
theorem lshort_calls (x : List UInt8) (cs : List Nat) (hx : x = cs.flatMap enc) (hok : ∀ c ∈ cs, okc c = true) (hl : x.length ≤ 2000) (w : World) :
    Calls Tryz.prog 67 #[.string ⟨x.toArray⟩] w fun e w' => e = .returned (.bool (shortS x)) ∧ Fr No w w' := by
  obtain ⟨R, hR⟩ : ∃ R, shortS x = R := ⟨_, rfl⟩
  rw [hR]
  rw [shortS_eq hx hok] at hR
  obtain ⟨s, hs⟩ : ∃ s : ByteArray, (⟨x.toArray⟩ : ByteArray) = s := ⟨_, rfl⟩
  have hsl : s.data.toList = cs.flatMap enc := by rw [← hs, ← hx]
  have hsz : s.size ≤ 2000 := by rw [← hs, Lib.size_eq]; exact hl
  have hrc := runeCount_of s cs hok hsl
  have hcl := flat_len_le cs
  rw [← hx] at hcl
  rw [hs]
  have HS := Lib.hid (And.intro hsl (And.intro hok (And.intro hR hrc)))
  clear hR hrc hsl hok hs hx
  go_enter Tryz.func67, Tryz.ntmps67
  go_wp2_with fail
  have hit0 := World.iter_heap w s 0
  have hf0 : Fr No w (w.iter s 0) := (Fr.refl No w).alloc _
  go_loopg [] cs.length (fun gk wr => ∃ (pre post : List Nat), cs = pre ++ post ∧ gk = post.length ∧ 176 ∉ pre ∧ wr.heap[w.heap.size]? = some (.stringIter s (pre.flatMap enc).length) ∧ Fr No w wr)
  case atStart => exact ⟨[], cs, rfl, rfl, by simp, hit0, hf0⟩
  case round =>
    obtain ⟨pre, post, hcs, hgk, hnp, hit, hf⟩ := hrel
    clear hit0 hf0
    cases post with
    | nil =>
      have hnx : ∀ ty, (Instr.next (.pointer (some ⟨w.heap.size, 0, none⟩)) true ty).run Tryz.prog wr = _ := fun ty => Lib.run_next_end_at _ _ _ _ ty hit (by rw [Lib.size_eq, HS.out.1, hcs, List.append_nil]; omega)
      have e : R = decide (cs.length < 16) := by
        rw [← HS.out.2.2.1, hcs, List.append_nil]
        simp [hnp]
      have HE := Lib.hid e
      clear e hcs hgk hnp
      go_wp2_with fail
      refine (Tryz.utf8_RuneCountInString s wr (by omega)).mono ?_
      rintro e w2 ⟨rfl, pos, rfl⟩
      rw [HS.out.2.2.2]
      go_wp2_with fail
      go_ret
      exact ⟨by rw [HE.out]; simp; omega, hf.alloc _⟩
    | cons c post =>
      have hokc := HS.out.2.1 c (by rw [hcs]; simp)
      obtain ⟨p, hp⟩ : ∃ p, (pre.flatMap enc).length = p := ⟨_, rfl⟩
      obtain ⟨m, hm⟩ : ∃ m, (enc c).length = m := ⟨_, rfl⟩
      obtain ⟨hlt, hdec, hnext⟩ := decode_flat (s := s) (pos := (pre.flatMap enc).length) (c := c) (cs := post) hokc (by rw [HS.out.1, hcs, List.flatMap_append, List.drop_left])
      rw [hp] at hit hlt hdec
      rw [hm] at hdec
      have hnx : ∀ ty, (Instr.next (.pointer (some ⟨w.heap.size, 0, none⟩)) true ty).run Tryz.prog wr = _ := fun ty => Lib.run_next_any_at _ _ _ _ ty hit hlt
      rw [hdec] at hnx
      simp only at hnx
      have hit2 := Lib.iterAt_heap wr w.heap.size s _ (p + m) hit
      have hf2 : Fr No w (wr.iterAt w.heap.size s (p + m)) := hf.iterAt (fun h => absurd h (Nat.lt_irrefl _)) s _
      have HC := Lib.hid (And.intro hcs (And.intro hgk (And.intro hnp (And.intro hp hm))))
      clear hcs hgk hnp hokc hnext hdec hlt hp hm
      by_cases h176 : c = 176
      · have e : R = false := by
          rw [← HS.out.2.2.1, HC.out.1, h176]
          simp
        have HE := Lib.hid e
        have b1 : ((c : Int) == 176) = true := by rw [h176]; rfl
        clear e h176
        go_wp2_with fail
        go_ret
        exact ⟨by rw [HE.out]; rfl, hf2⟩
      · have b1 : ((c : Int) == 176) = false := by rw [beq_eq_false_iff_ne]; omega
        have H176 := Lib.hid h176
        clear h176
        go_wp2_with fail
        go_roundg post.length
        case measure => rw [HC.out.2.1]; simp
        case rel => exact ⟨pre ++ [c], post, by rw [HC.out.1]; simp, rfl, by simp [HC.out.2.2.1]; exact fun h => H176.out h.symm, by rw [List.flatMap_append, List.length_append, HC.out.2.2.2.1, show ([c].flatMap enc).length = m by rw [← HC.out.2.2.2.2]; simp]; exact hit2, hf2⟩
end Go.Proofs.YtlklijpjacmgpaaGreatDoor

namespace Go.Proofs.YtlklijpjacmgpaaGreatDoor
open Go.RowKit
set_option linter.unusedVariables false
set_option linter.unusedSimpArgs false
attribute [local go_sem ↓] Go.wp_at_zero Go.wp_at_succ

/-! the values of statements -/
mutual
def SmIs (w : World) (B : Nat) : Sm → Value → Prop
  | .set p k x none, v => v = .iface 220 (.agg #[.int .i64 p.b, .int .i64 p.g, .int .i64 p.l, .int .i64 p.c, .int .i64 k, .string ⟨x.toArray⟩, .nilIface])
  | .set p k x (some n), v => ∃ y, NdIs w B n y ∧ v = .iface 220 (.agg #[.int .i64 p.b, .int .i64 p.g, .int .i64 p.l, .int .i64 p.c, .int .i64 k, .string ⟨x.toArray⟩, y])
  | .skip p, v => v = .iface 204 (.agg #[.int .i64 p.b, .int .i64 p.g, .int .i64 p.l, .int .i64 p.c])
  | .stop p, v => v = .iface 205 (.agg #[.int .i64 p.b, .int .i64 p.g, .int .i64 p.l, .int .i64 p.c])
  | .mark p x, v => v = .iface 222 (.agg #[.int .i64 p.b, .int .i64 p.g, .int .i64 p.l, .int .i64 p.c, .string ⟨x.toArray⟩])
  | .choose p bs, v => ∃ a n c vs, w.ownsRow B 165 5 (.slice a n c) n vs ∧ BlsAre w B bs vs ∧ v = .iface 163 (.agg #[.int .i64 p.b, .int .i64 p.g, .int .i64 p.l, .int .i64 p.c, .slice a n c])
  | .loop p b, v => ∃ a n c vs, w.ownsRow B 141 1 (.slice a n c) n vs ∧ SmsAre w B b vs ∧ v = .iface 166 (.agg #[.int .i64 p.b, .int .i64 p.g, .int .i64 p.l, .int .i64 p.c, .slice a n c])
  | .iff p l r eq t e, v => ∃ y z a n c vs ev, NdIs w B l y ∧ NdIs w B r z ∧ w.ownsRow B 141 1 (.slice a n c) n vs ∧ SmsAre w B t vs ∧ ElsIs w B e ev ∧ v = .iface 173 (.agg #[.int .i64 p.b, .int .i64 p.g, .int .i64 p.l, .int .i64 p.c, y, z, .bool eq, .slice a n c, ev])
  | .whil p l r eq b, v => ∃ y z a n c vs, NdIs w B l y ∧ NdIs w B r z ∧ w.ownsRow B 141 1 (.slice a n c) n vs ∧ SmsAre w B b vs ∧ v = .iface 170 (.agg #[.int .i64 p.b, .int .i64 p.g, .int .i64 p.l, .int .i64 p.c, y, z, .bool eq, .slice a n c])
def SmsAre (w : World) (B : Nat) : Sms → List Value → Prop
  | .nil, vs => vs = []
  | .cons s r, vs => ∃ v us, vs = v :: us ∧ SmIs w B s v ∧ SmsAre w B r us
def BlsAre (w : World) (B : Nat) : Bls → List Value → Prop
  | .nil, vs => vs = []
  | .cons p b r, vs => ∃ a n c bs us, vs = [.int .i64 p.b, .int .i64 p.g, .int .i64 p.l, .int .i64 p.c, .slice a n c] ++ us ∧ w.ownsRow B 141 1 (.slice a n c) n bs ∧ SmsAre w B b bs ∧ BlsAre w B r us
def ElsIs (w : World) (B : Nat) : Els → Value → Prop
  | .none, v => v = .pointer none
  | .some p b, v => ∃ g a n c vs, v = .pointer (some ⟨g, 0, none⟩) ∧ B ≤ g ∧ Blk w g (.cells #[.int .i64 p.b, .int .i64 p.g, .int .i64 p.l, .int .i64 p.c, .slice a n c] 165 (0, 0)) ∧ w.ownsRow B 141 1 (.slice a n c) n vs ∧ SmsAre w B b vs
end
theorem NdIs.keep {S : Nat → Prop} {B : Nat} {w w' : World} (f : Fr S w w') (hS : ∀ k, B ≤ k → ¬ S k) : ∀ {n : Nd} {v : Value}, NdIs w B n v → NdIs w' B n v
  | .num n, v, ⟨a, c, h1, h2⟩ => ⟨a, c, h1, own_fr h2 f (fun k hk => hS k (h2.lt k hk).1)⟩
  | .name i x, v, h => h
  | .minus a, v, ⟨y, h1, h2⟩ => ⟨y, NdIs.keep f hS h1, h2⟩
  | .two op l r, v, ⟨y, z, h1, h2, h3⟩ => ⟨y, z, NdIs.keep f hS h1, NdIs.keep f hS h2, h3⟩
mutual
theorem SmIs.keep {S : Nat → Prop} {B : Nat} {w w' : World} (f : Fr S w w') (hS : ∀ k, B ≤ k → ¬ S k) : ∀ (s : Sm) (v : Value), SmIs w B s v → SmIs w' B s v
  | .set p k x none, v, h => by simp only [SmIs] at h ⊢; exact h
  | .set p k x (some n), v, h => by
    simp only [SmIs] at h ⊢
    obtain ⟨y, h1, h2⟩ := h
    exact ⟨y, h1.keep f hS, h2⟩
  | .skip p, v, h => by simp only [SmIs] at h ⊢; exact h
  | .stop p, v, h => by simp only [SmIs] at h ⊢; exact h
  | .mark p x, v, h => by simp only [SmIs] at h ⊢; exact h
  | .choose p bs, v, h => by
    simp only [SmIs] at h ⊢
    obtain ⟨a, n, c, vs, h1, h2, h3⟩ := h
    exact ⟨a, n, c, vs, own_fr h1 f (fun k hk => hS k (h1.lt k hk).1), BlsAre.keep f hS bs vs h2, h3⟩
  | .loop p b, v, h => by
    simp only [SmIs] at h ⊢
    obtain ⟨a, n, c, vs, h1, h2, h3⟩ := h
    exact ⟨a, n, c, vs, own_fr h1 f (fun k hk => hS k (h1.lt k hk).1), SmsAre.keep f hS b vs h2, h3⟩
  | .iff p l r eq t e, v, h => by
    simp only [SmIs] at h ⊢
    obtain ⟨y, z, a, n, c, vs, ev, h1, h2, h3, h4, h5, h6⟩ := h
    exact ⟨y, z, a, n, c, vs, ev, h1.keep f hS, h2.keep f hS, own_fr h3 f (fun k hk => hS k (h3.lt k hk).1), SmsAre.keep f hS t vs h4, ElsIs.keep f hS e ev h5, h6⟩
  | .whil p l r eq b, v, h => by
    simp only [SmIs] at h ⊢
    obtain ⟨y, z, a, n, c, vs, h1, h2, h3, h4, h6⟩ := h
    exact ⟨y, z, a, n, c, vs, h1.keep f hS, h2.keep f hS, own_fr h3 f (fun k hk => hS k (h3.lt k hk).1), SmsAre.keep f hS b vs h4, h6⟩
theorem SmsAre.keep {S : Nat → Prop} {B : Nat} {w w' : World} (f : Fr S w w') (hS : ∀ k, B ≤ k → ¬ S k) : ∀ (l : Sms) (vs : List Value), SmsAre w B l vs → SmsAre w' B l vs
  | .nil, vs, h => by simp only [SmsAre] at h ⊢; exact h
  | .cons s r, vs, h => by
    simp only [SmsAre] at h ⊢
    obtain ⟨v, us, h1, h2, h3⟩ := h
    exact ⟨v, us, h1, SmIs.keep f hS s v h2, SmsAre.keep f hS r us h3⟩
theorem BlsAre.keep {S : Nat → Prop} {B : Nat} {w w' : World} (f : Fr S w w') (hS : ∀ k, B ≤ k → ¬ S k) : ∀ (l : Bls) (vs : List Value), BlsAre w B l vs → BlsAre w' B l vs
  | .nil, vs, h => by simp only [BlsAre] at h ⊢; exact h
  | .cons p b r, vs, h => by
    simp only [BlsAre] at h ⊢
    obtain ⟨a, n, c, bs, us, h1, h2, h3, h4⟩ := h
    exact ⟨a, n, c, bs, us, h1, own_fr h2 f (fun k hk => hS k (h2.lt k hk).1), SmsAre.keep f hS b bs h3, BlsAre.keep f hS r us h4⟩
theorem ElsIs.keep {S : Nat → Prop} {B : Nat} {w w' : World} (f : Fr S w w') (hS : ∀ k, B ≤ k → ¬ S k) : ∀ (l : Els) (v : Value), ElsIs w B l v → ElsIs w' B l v
  | .none, v, h => by simp only [ElsIs] at h ⊢; exact h
  | .some p b, v, h => by
    simp only [ElsIs] at h ⊢
    obtain ⟨g, a, n, c, vs, h1, h2, h3, h4, h5⟩ := h
    exact ⟨g, a, n, c, vs, h1, h2, h3.fr f (hS g h2), own_fr h4 f (fun k hk => hS k (h4.lt k hk).1), SmsAre.keep f hS b vs h5⟩
end

mutual
theorem SmIs.mono {B B' : Nat} {w : World} (hb : B' ≤ B) : ∀ (s : Sm) (v : Value), SmIs w B s v → SmIs w B' s v
  | .set p k x none, v, h => by simp only [SmIs] at h ⊢; exact h
  | .set p k x (some n), v, h => by
    simp only [SmIs] at h ⊢
    obtain ⟨y, h1, h2⟩ := h
    exact ⟨y, h1.mono hb, h2⟩
  | .skip p, v, h => by simp only [SmIs] at h ⊢; exact h
  | .stop p, v, h => by simp only [SmIs] at h ⊢; exact h
  | .mark p x, v, h => by simp only [SmIs] at h ⊢; exact h
  | .choose p bs, v, h => by
    simp only [SmIs] at h ⊢
    obtain ⟨a, n, c, vs, h1, h2, h3⟩ := h
    exact ⟨a, n, c, vs, own_mono h1 hb, BlsAre.mono hb bs vs h2, h3⟩
  | .loop p b, v, h => by
    simp only [SmIs] at h ⊢
    obtain ⟨a, n, c, vs, h1, h2, h3⟩ := h
    exact ⟨a, n, c, vs, own_mono h1 hb, SmsAre.mono hb b vs h2, h3⟩
  | .iff p l r eq t e, v, h => by
    simp only [SmIs] at h ⊢
    obtain ⟨y, z, a, n, c, vs, ev, h1, h2, h3, h4, h5, h6⟩ := h
    exact ⟨y, z, a, n, c, vs, ev, h1.mono hb, h2.mono hb, own_mono h3 hb, SmsAre.mono hb t vs h4, ElsIs.mono hb e ev h5, h6⟩
  | .whil p l r eq b, v, h => by
    simp only [SmIs] at h ⊢
    obtain ⟨y, z, a, n, c, vs, h1, h2, h3, h4, h6⟩ := h
    exact ⟨y, z, a, n, c, vs, h1.mono hb, h2.mono hb, own_mono h3 hb, SmsAre.mono hb b vs h4, h6⟩
theorem SmsAre.mono {B B' : Nat} {w : World} (hb : B' ≤ B) : ∀ (l : Sms) (vs : List Value), SmsAre w B l vs → SmsAre w B' l vs
  | .nil, vs, h => by simp only [SmsAre] at h ⊢; exact h
  | .cons s r, vs, h => by
    simp only [SmsAre] at h ⊢
    obtain ⟨v, us, h1, h2, h3⟩ := h
    exact ⟨v, us, h1, SmIs.mono hb s v h2, SmsAre.mono hb r us h3⟩
theorem BlsAre.mono {B B' : Nat} {w : World} (hb : B' ≤ B) : ∀ (l : Bls) (vs : List Value), BlsAre w B l vs → BlsAre w B' l vs
  | .nil, vs, h => by simp only [BlsAre] at h ⊢; exact h
  | .cons p b r, vs, h => by
    simp only [BlsAre] at h ⊢
    obtain ⟨a, n, c, bs, us, h1, h2, h3, h4⟩ := h
    exact ⟨a, n, c, bs, us, h1, own_mono h2 hb, SmsAre.mono hb b bs h3, BlsAre.mono hb r us h4⟩
theorem ElsIs.mono {B B' : Nat} {w : World} (hb : B' ≤ B) : ∀ (l : Els) (v : Value), ElsIs w B l v → ElsIs w B' l v
  | .none, v, h => by simp only [ElsIs] at h ⊢; exact h
  | .some p b, v, h => by
    simp only [ElsIs] at h ⊢
    obtain ⟨g, a, n, c, vs, h1, h2, h3, h4, h5⟩ := h
    exact ⟨g, a, n, c, vs, h1, Nat.le_trans hb h2, h3, own_mono h4 hb, SmsAre.mono hb b vs h5⟩
end
theorem NdIs.apart {B N : Nat} {w w' : World} {cs : Array Value} {t : TypeId} {fz : Nat × Nat} (hN : Blk w N (.cells cs t fz)) (ht : t ≠ 57) (f : Fr (· = N) w w') : ∀ {n : Nd} {v : Value}, NdIs w B n v → NdIs w' B n v
  | .num n, v, ⟨a, c, h1, h2⟩ => ⟨a, c, h1, own_fr h2 f (fun k hk e => by
      subst e
      obtain ⟨cur, hc⟩ := own_obj h2 hk
      have h' : w.heap[k]? = _ := hN
      rw [hc] at h'
      simp only [Option.some.injEq, Obj.cells.injEq] at h'
      exact ht h'.2.1.symm)⟩
  | .name i x, v, h => h
  | .minus a, v, ⟨y, h1, h2⟩ => ⟨y, NdIs.apart hN ht f h1, h2⟩
  | .two op l r, v, ⟨y, z, h1, h2, h3⟩ => ⟨y, z, NdIs.apart hN ht f h1, NdIs.apart hN ht f h2, h3⟩
theorem Rdr.far {w w5 w6 : World} {b N : Nat} {lv nv mv nv' mv' : Value} {o o' : Nat} {toks r r' : List Tok} (h : Rdr w b lv nv mv o toks r) (hR : Rdr w5 b lv nv' mv' o' toks r') (hN : w.heap.size ≤ N) (f : Fr (· = N) w5 w6) : Rdr w6 b lv nv' mv' o' toks r' := by
  obtain ⟨_, _, _, hb0, g0, c0, e0, _, hg0, _⟩ := h
  obtain ⟨i, x, a, hb, g, c, e1, hgb, hgl, hc⟩ := hR
  rw [e1] at e0
  simp only [Value.slice.injEq, Option.some.injEq, Addr.mk.injEq, and_true, true_and] at e0
  have hbl := hb0.lt
  refine ⟨i, x, a, hb.fr f (by omega), g, c, e1, hgb, Nat.lt_of_lt_of_le hgl f.size, fun i x hx k hk => ?_⟩
  rw [← hc i x hx k hk]
  exact World.cell?_of_block (f.block g hgl (by have := e0.1; omega))
theorem load_cond {w : World} {g : Nat} {cs : Array Value} (hg : Blk w g (.cells cs 168 (0, 0))) (hs : cs.size = 3) : (loadVar 168 ⟨g, 0, none⟩).run Tryz.prog w = .ok (.agg cs) w :=
  run_loadVar_row w g _ _ cs _ _ hg Tryz.underlying168 rfl (by rw [hs]; kernel_rfl)

/-- a head's value -/
abbrev plV (p : Pl) : Value := .agg #[.int .i64 p.b, .int .i64 p.g, .int .i64 p.l, .int .i64 p.c]

set_option maxRecDepth 100000 in
set_option maxHeartbeats 4000000 in
theorem cond_rdr {w : World} {b : Nat} {lv nv mv : Value} {o : Nat} {toks r : List Tok} {nm : List (List UInt8)} {n : Nat} (hl : toks.length ≤ 5000) (hnl : nm.length ≤ 1000) (ho : o ≤ 16) (hm : 4 * r.length + 3 ≤ n) (h : Rdr w b lv nv mv o toks r) (hn : NmAt w b nv nm) :
    Calls Tryz.prog 112 #[.pointer (some ⟨b, 0, none⟩)] w fun e w' => Fr (· = b) w w' ∧ match condS n nm o r with
      | .error (c, p) => Threw c p e
      | .ok ((l, q, eq), r1) => ∃ y z, e = .returned (.agg #[y, z, .bool eq]) ∧ NdIs w' w.heap.size l y ∧ NdIs w' w.heap.size q z ∧ Rdr w' b lv nv mv o toks r1 := by
  have hg := h.good
  obtain ⟨res, hres⟩ : ∃ res, condS n nm o r = res := ⟨_, rfl⟩
  rw [hres]
  simp only [condS] at hres
  go_enter Tryz.func112, Tryz.ntmps112
  go_wp2_with fail
  have hbl : b < w.heap.size := by obtain ⟨_, _, _, hb, _⟩ := h; exact hb.lt
  have C0 := Blk.new w (.cells #[.nilIface, .nilIface, .bool false] 168 (0, 0))
  have h0 := h.no ((Fr.refl No w).alloc (.cells #[.nilIface, .nilIface, .bool false] 168 (0, 0)))
  have hn0 := hn.no ((Fr.refl No w).alloc (.cells #[.nilIface, .nilIface, .bool false] 168 (0, 0)))
  have hf0 : Fr (· = b) w (w.alloc (.cells #[.nilIface, .nilIface, .bool false] 168 (0, 0))) := (Fr.refl _ w).alloc _
  refine (sum_rdr (n := n) hl hnl ho hm h0 hn0).mono ?_
  rintro e w1 ⟨hf1, hm1⟩
  have hn1 := hn0.no hf1
  have hf2 := hf0.call hf1 (fun _ _ x => x)
  have hsz0 := hf0.size
  have C1 := C0.fr hf1 (by omega)
  clear hn h0 hn0 C0 hf0 hf1
  have H := Lib.hid h
  clear h
  cases hu : sumS n nm o r with
  | error ep =>
    rw [hu] at hm1 hres
    obtain ⟨c, p⟩ := ep
    simp only [Threw] at hm1
    subst hm1 hres
    go_wp2_with fail
    exact ⟨rfl, hf2, rfl⟩
  | ok ar =>
    rw [hu] at hm1 hres
    obtain ⟨a0, r1⟩ := ar
    obtain ⟨v0, rfl, hN0', hR0⟩ := hm1
    have hN0 := hN0'.mono hsz0
    obtain ⟨ty0, vc0, rfl⟩ := hN0.form
    clear hN0'
    simp only at hres
    have hlt := ((ex_len nm n).su hg hu)
    have hg1 := hlt.1
    go_wp2_with fail
    refine (is_rdr (by omega) [61] hR0).mono ?_
    rintro e w2 ⟨rfl, hR2, hf3⟩
    have hn2 := hn1.no hf3
    have hf4 := hf2.call hf3 (fun _ _ x => x)
    have C2 := C1.fr hf3 (by omega)
    have hN2 := hN0.fr hbl hf3
    clear hR0 hn1 hf2 C1 hN0 hf3
    cases h61 : isT [61] r1 with
    | true =>
      rw [if_pos h61] at hres
      rw [h61] at hR2
      simp only [if_true] at hR2
      have hl2 := isT_lt hg1 h61
      have hR3 := hR2
      have hn3 := hn2
      have hf6 := hf4
      have C4 := C2
      have hN4 := hN2
      generalize hr2 : passT r1 = r2 at *
      clear hR2 hn2 hf4 C2 hN2
      go_wp2_with fail
      refine (sum_rdr (n := n) hl hnl ho (by omega) hR3 hn3).mono ?_
      rintro e w5 ⟨hf7, hm7⟩
      have hf8 := hf6.call hf7 (fun _ _ x => x)
      have C5 := C4.fr hf7 (by omega)
      have hN5 := hN4.fr hbl hf7
      cases hv : sumS n nm o r2 with
      | error ep =>
        rw [hv] at hm7 hres
        obtain ⟨c, p⟩ := ep
        simp only [Threw] at hm7
        subst hm7 hres
        go_wp2_with fail
        exact ⟨rfl, hf8, rfl⟩
      | ok ar =>
        rw [hv] at hm7 hres
        obtain ⟨a3, r3⟩ := ar
        obtain ⟨v3, rfl, hN6, hR6⟩ := hm7
        obtain ⟨ty3, vc3, rfl⟩ := hN6.form
        subst hres
        have R := Blk.all C5
        have Z := Blk.frees C5
        go_wp2_with fail
        have C6 := ((C5.setOff 0 (.iface ty0 (.agg vc0))).setOff 1 (.iface ty3 (.agg vc3))).setOff 2 (.bool true)
        have q0 : ∀ i, (⟨w.heap.size, i, none⟩ : Addr).block < w.heap.size → (⟨w.heap.size, i, none⟩ : Addr).block = b := fun i h => absurd h (Nat.lt_irrefl _)
        have hf9 := ((hf8.setCell (a := ⟨w.heap.size, 0, none⟩) (.iface ty0 (.agg vc0)) (q0 0)).setCell (a := ⟨w.heap.size, 1, none⟩) (.iface ty3 (.agg vc3)) (q0 1)).setCell (a := ⟨w.heap.size, 2, none⟩) (.bool true) (q0 2)
        have hfk := (((Fr.refl (· = w.heap.size) w5).setCell (a := ⟨w.heap.size, 0, none⟩) (.iface ty0 (.agg vc0)) (fun _ => rfl)).setCell (a := ⟨w.heap.size, 1, none⟩) (.iface ty3 (.agg vc3)) (fun _ => rfl)).setCell (a := ⟨w.heap.size, 2, none⟩) (.bool true) (fun _ => rfl)
        refine bodyPost_ret (results_cell rfl _ _ _ _ rfl (load_cond C6 rfl)) rfl ⟨hf9, _, _, rfl, hN5.apart C5 (by decide) hfk, (hN6.mono hf6.size).apart C5 (by decide) hfk, H.out.far hR6 (Nat.le_refl _) hfk⟩
    | false =>
      rw [if_neg (by simp [h61])] at hres
      rw [h61] at hR2
      simp only [Bool.false_eq_true, if_false] at hR2
      cases hne : isT [33, 61] r1 with
      | false =>
        have e : mustS [33, 61] r1 = .error (80, (hereT r1).at_) := by unfold mustS; rw [if_neg (by simp [hne])]
        rw [e] at hres
        subst hres
        go_wp2_with fail
        refine (must_no (by omega) [33, 61] hR2 hne).mono ?_
        rintro e w3 ⟨ht, hf5⟩
        simp only [Threw] at ht
        subst ht
        go_wp2_with fail
        exact ⟨rfl, hf4.call hf5 (fun _ _ x => x), rfl⟩
      | true =>
        have e : mustS [33, 61] r1 = .ok (passT r1) := by unfold mustS; rw [if_pos hne]
        rw [e] at hres
        simp only at hres
        have hl2 := isT_lt hg1 hne
        go_wp2_with fail
        refine (must_yes (by omega) [33, 61] hR2 hne).mono ?_
        rintro e w3 ⟨rfl, hR3, hf5⟩
        have hn3 := hn2.no hf5
        have hf6 := hf4.call hf5 (fun _ _ x => x)
        have C4 := C2.fr hf5 (by omega)
        have hN4 := hN2.fr hbl hf5
        generalize hr2 : passT r1 = r2 at *
        clear hR2 hn2 hf4 C2 hN2 hf5
        go_wp2_with fail
        refine (sum_rdr (n := n) hl hnl ho (by omega) hR3 hn3).mono ?_
        rintro e w5 ⟨hf7, hm7⟩
        have hf8 := hf6.call hf7 (fun _ _ x => x)
        have C5 := C4.fr hf7 (by omega)
        have hN5 := hN4.fr hbl hf7
        cases hv : sumS n nm o r2 with
        | error ep =>
          rw [hv] at hm7 hres
          obtain ⟨c, p⟩ := ep
          simp only [Threw] at hm7
          subst hm7 hres
          go_wp2_with fail
          exact ⟨rfl, hf8, rfl⟩
        | ok ar =>
          rw [hv] at hm7 hres
          obtain ⟨a3, r3⟩ := ar
          obtain ⟨v3, rfl, hN6, hR6⟩ := hm7
          obtain ⟨ty3, vc3, rfl⟩ := hN6.form
          subst hres
          have R := Blk.all C5
          have Z := Blk.frees C5
          go_wp2_with fail
          have C6 := ((C5.setOff 0 (.iface ty0 (.agg vc0))).setOff 1 (.iface ty3 (.agg vc3))).setOff 2 (.bool false)
          have q0 : ∀ i, (⟨w.heap.size, i, none⟩ : Addr).block < w.heap.size → (⟨w.heap.size, i, none⟩ : Addr).block = b := fun i h => absurd h (Nat.lt_irrefl _)
          have hf9 := ((hf8.setCell (a := ⟨w.heap.size, 0, none⟩) (.iface ty0 (.agg vc0)) (q0 0)).setCell (a := ⟨w.heap.size, 1, none⟩) (.iface ty3 (.agg vc3)) (q0 1)).setCell (a := ⟨w.heap.size, 2, none⟩) (.bool false) (q0 2)
          have hfk := (((Fr.refl (· = w.heap.size) w5).setCell (a := ⟨w.heap.size, 0, none⟩) (.iface ty0 (.agg vc0)) (fun _ => rfl)).setCell (a := ⟨w.heap.size, 1, none⟩) (.iface ty3 (.agg vc3)) (fun _ => rfl)).setCell (a := ⟨w.heap.size, 2, none⟩) (.bool false) (fun _ => rfl)
          refine bodyPost_ret (results_cell rfl _ _ _ _ rfl (load_cond C6 rfl)) rfl ⟨hf9, _, _, rfl, hN5.apart C5 (by decide) hfk, (hN6.mono hf6.size).apart C5 (by decide) hfk, H.out.far hR6 (Nat.le_refl _) hfk⟩
end Go.Proofs.YtlklijpjacmgpaaGreatDoor

namespace Go.Proofs.YtlklijpjacmgpaaGreatDoor
open Go.RowKit
set_option linter.unusedVariables false
set_option linter.unusedSimpArgs false
attribute [local go_sem ↓] Go.wp_at_zero Go.wp_at_succ

theorem all_fr {w w' : World} {N : Nat} {cs : Array Value} (h : ∀ i, w.cell? ⟨N, i, none⟩ = cs[i]?) (hlt : N < w.heap.size) (f : Fr No w w') : ∀ i, w'.cell? ⟨N, i, none⟩ = cs[i]? := fun i => by
  rw [← h i]; exact World.cell?_of_block (f.block N hlt (fun x => x))
theorem all_al {w : World} {N : Nat} {cs : Array Value} {o : Obj} (h : ∀ i, w.cell? ⟨N, i, none⟩ = cs[i]?) (hlt : N < w.heap.size) : ∀ i, (w.alloc o).cell? ⟨N, i, none⟩ = cs[i]? :=
  all_fr h hlt ((Fr.refl No w).alloc o)
theorem all_ald {w : World} {N : Nat} {cs : Array Value} {o : Obj} (h : ∀ i, w.drew.cell? ⟨N, i, none⟩ = cs[i]?) (hlt : N < w.heap.size) : ∀ i, (w.alloc o).drew.cell? ⟨N, i, none⟩ = cs[i]? :=
  all_fr (w := w.drew) h hlt ((Fr.refl No w.drew).alloc o)
theorem all_far {w : World} {G N j : Nat} {v : Value} {cs : Array Value} (h : ∀ i, w.cell? ⟨N, i, none⟩ = cs[i]?) (hne : N ≠ G) : ∀ i, (w.setCell ⟨G, j, none⟩ v).cell? ⟨N, i, none⟩ = cs[i]? := fun i => by
  rw [← h i]; exact World.cell?_of_block (Below.heap_setCell _ _ _ _ hne)
theorem set7 {w : World} {N : Nat} {t : TypeId} {a0 a1 a2 a3 a4 a5 a6 : Value} (h : Blk w N (.cells #[a0, a1, a2, a3, a4, a5, a6] t (0, 0))) (v0 v1 v2 v3 v4 v5 v6 : Value) :
    Blk (((((((w.setCell ⟨N, 0, none⟩ v0).setCell ⟨N, 1, none⟩ v1).setCell ⟨N, 2, none⟩ v2).setCell ⟨N, 3, none⟩ v3).setCell ⟨N, 4, none⟩ v4).setCell ⟨N, 5, none⟩ v5).setCell ⟨N, 6, none⟩ v6) N (.cells #[v0, v1, v2, v3, v4, v5, v6] t (0, 0)) := by
  have h1 : Blk _ N (.cells #[v0, a1, a2, a3, a4, a5, a6] t (0, 0)) := h.setOff 0 v0
  have h2 : Blk _ N (.cells #[v0, v1, a2, a3, a4, a5, a6] t (0, 0)) := h1.setOff 1 v1
  have h3 : Blk _ N (.cells #[v0, v1, v2, a3, a4, a5, a6] t (0, 0)) := h2.setOff 2 v2
  have h4 : Blk _ N (.cells #[v0, v1, v2, v3, a4, a5, a6] t (0, 0)) := h3.setOff 3 v3
  have h5 : Blk _ N (.cells #[v0, v1, v2, v3, v4, a5, a6] t (0, 0)) := h4.setOff 4 v4
  have h6 : Blk _ N (.cells #[v0, v1, v2, v3, v4, v5, a6] t (0, 0)) := h5.setOff 5 v5
  have h7 : Blk _ N (.cells #[v0, v1, v2, v3, v4, v5, v6] t (0, 0)) := h6.setOff 6 v6
  exact h7
theorem fr7 {S : Nat → Prop} {w0 w : World} {N : Nat} (h : Fr S w0 w) (hN : w0.heap.size ≤ N) (v0 v1 v2 v3 v4 v5 v6 : Value) : Fr S w0 (((((((w.setCell ⟨N, 0, none⟩ v0).setCell ⟨N, 1, none⟩ v1).setCell ⟨N, 2, none⟩ v2).setCell ⟨N, 3, none⟩ v3).setCell ⟨N, 4, none⟩ v4).setCell ⟨N, 5, none⟩ v5).setCell ⟨N, 6, none⟩ v6) := by
  have h0 : ∀ i, (⟨N, i, none⟩ : Addr).block < w0.heap.size → S (⟨N, i, none⟩ : Addr).block := fun i h => absurd h (Nat.not_lt.2 hN)
  exact ((((((h.setCell v0 (h0 0)).setCell v1 (h0 1)).setCell v2 (h0 2)).setCell v3 (h0 3)).setCell v4 (h0 4)).setCell v5 (h0 5)).setCell v6 (h0 6)
/-- a head in memory -/
def plO' (p : Pl) : Obj := .cells #[.int .i64 p.b, .int .i64 p.g, .int .i64 p.l, .int .i64 p.c] 160 (0, 0)
/-- an assignment in memory -/
def stO (p : Pl) (v : Int) (x : List UInt8) (y : Value) : Obj := .cells #[.int .i64 p.b, .int .i64 p.g, .int .i64 p.l, .int .i64 p.c, .int .i64 v, .string ⟨x.toArray⟩, y] 220 (0, 0)

set_option maxRecDepth 100000 in
set_option maxHeartbeats 4000000 in
theorem assign_rdr {w : World} {b : Nat} {lv nv mv : Value} {o : Nat} {toks r : List Tok} {nm : List (List UInt8)} {n : Nat} (hl : toks.length ≤ 5000) (hnl : nm.length ≤ 1000) (ho : o ≤ 16) (hm : 4 * r.length + 3 ≤ n) (h : Rdr w b lv nv mv o toks r) (hn : NmAt w b nv nm) :
    Calls Tryz.prog 109 #[.pointer (some ⟨b, 0, none⟩), plV (hereT r).at_] w fun e w' => Fr (· = b) w w' ∧ match assignS n nm o r with
      | .error (c, p) => Threw c p e
      | .ok (s, r1) => ∃ v, e = .returned v ∧ SmIs w' w.heap.size s v ∧ Rdr w' b lv nv mv o toks r1 := by
  have hg := h.good
  obtain ⟨res, hres⟩ : ∃ res, assignS n nm o r = res := ⟨_, rfl⟩
  rw [hres]
  simp only [assignS] at hres
  obtain ⟨K, hK⟩ : ∃ K, (hereT r).kind = K := ⟨_, rfl⟩
  obtain ⟨T, hT⟩ : ∃ T, (hereT r).text = T := ⟨_, rfl⟩
  obtain ⟨p, hp⟩ : ∃ p, (hereT r).at_ = p := ⟨_, rfl⟩
  rw [hT, hp] at hres
  rw [hp]
  go_enter Tryz.func109, Tryz.ntmps109
  go_upto_region 1 with (fail)
  have hbl : b < w.heap.size := by obtain ⟨_, _, _, hb, _⟩ := h; exact hb.lt
  obtain ⟨W0, N0, hE, hN0, hB0, h0, hn0, hf0, hlt0⟩ : ∃ W0 N0, w.alloc (.cells #[.int .i64 p.b, .int .i64 p.g, .int .i64 p.l, .int .i64 p.c] 160) = W0 ∧ w.heap.size = N0 ∧ Blk W0 N0 (plO' p) ∧ Rdr W0 b lv nv mv o toks r ∧ NmAt W0 b nv nm ∧ Fr (· = b) w W0 ∧ N0 < W0.heap.size := ⟨_, _, rfl, rfl, Blk.new w (plO' p), h.no ((Fr.refl No w).alloc _), hn.no ((Fr.refl No w).alloc _), (Fr.refl _ w).alloc _, by simp⟩
  rw [hE, hN0]
  rw [hN0] at hbl
  have H := Lib.hid (And.intro h hn)
  clear h hn hE
  go_cut [5] (fun s5 wx => ∃ G, s5 = .pointer (some ⟨G, 0, none⟩) ∧ N0 ≤ G ∧ Blk wx G (stO p 0 T .nilIface) ∧ Rdr wx b lv nv mv o toks r ∧ NmAt wx b nv nm ∧ Fr (· = b) w wx)
  case first =>
    have hA0 : ∀ i, W0.drew.cell? ⟨N0, i, none⟩ = (#[Value.int .i64 p.b, .int .i64 p.g, .int .i64 p.l, .int .i64 p.c] : Array Value)[i]? := Blk.all hB0.drew
    have hA : Rdr W0.drew b lv nv mv o toks r := h0.no ((Fr.refl No W0).drew)
    have hB : ∀ ob, Rdr (W0.alloc ob).drew b lv nv mv o toks r := fun ob => h0.no (((Fr.refl No W0).alloc ob).drew)
    have hft := fld_text
    have hne1 : W0.heap.size ≠ N0 := by omega
    have hne2 : N0 ≠ W0.heap.size := by omega
    have HH := Lib.hid (And.intro h0 (And.intro hn0 hf0))
    clear hB0 h0 hn0 hf0
    go_region_held3 (fun w' => ∀ i, w'.cell? ⟨N0, i, none⟩ = (#[Value.int .i64 p.b, .int .i64 p.g, .int .i64 p.l, .int .i64 p.c] : Array Value)[i]?) (with_reducible (first | exact hA0 | exact all_ald hA0 hlt0 | exact hAG | exact all_al hAG hltG | ((repeat (refine all_far ?_ (by assumption))); first | exact hA0 | exact all_ald hA0 hlt0 | exact hAG | exact all_al hAG hltG | assumption))) (first | (go_at_call 30; refine (here_rdr hA).mono ?_; rintro e w' ⟨rfl, hR', hfp⟩; have hAG : ∀ i, w'.cell? ⟨N0, i, none⟩ = (#[Value.int .i64 p.b, .int .i64 p.g, .int .i64 p.l, .int .i64 p.c] : Array Value)[i]? := all_fr hA0 (by simp; omega) hfp; have hszG := hfp.size; have hneG1 : w'.heap.size ≠ N0 := (by simp at hszG; omega); have hneG2 : N0 ≠ w'.heap.size := hneG1.symm; have hltG : N0 < w'.heap.size := (by simp at hszG; omega); simp only [tokC]; rw [hT]) | (go_at_call 30; refine (here_rdr (hB _)).mono ?_; rintro e w' ⟨rfl, hR', hfp⟩; have hAG : ∀ i, w'.cell? ⟨N0, i, none⟩ = (#[Value.int .i64 p.b, .int .i64 p.g, .int .i64 p.l, .int .i64 p.c] : Array Value)[i]? := all_fr (all_ald hA0 hlt0) (by simp; omega) hfp; have hfzG : ∀ i, w'.frozen? ⟨W0.heap.size, i, none⟩ = false := Blk.frees (Blk.fr (Blk.drew (Blk.new W0 (.cells #[.int .i64 0, .int .i64 0, .int .i64 0, .int .i64 0, .int .i64 0, .string ⟨#[]⟩, .nilIface] 220 (0, 0)))) hfp (fun x => x)); have hclG : ∀ i, w'.cell? ⟨W0.heap.size, i, none⟩ = (#[Value.int .i64 0, .int .i64 0, .int .i64 0, .int .i64 0, .int .i64 0, .string ⟨#[]⟩, .nilIface] : Array Value)[i]? := Blk.all (Blk.fr (Blk.drew (Blk.new W0 (.cells #[.int .i64 0, .int .i64 0, .int .i64 0, .int .i64 0, .int .i64 0, .string ⟨#[]⟩, .nilIface] 220 (0, 0)))) hfp (fun x => x)); have hszG := hfp.size; have hneG1 : w'.heap.size ≠ N0 := (by simp at hszG; omega); have hneG2 : N0 ≠ w'.heap.size := hneG1.symm; have hltG : N0 < w'.heap.size := (by simp at hszG; omega); simp only [tokC]; rw [hT]))
    all_goals go_wp2_with fail
    all_goals go_meet
    · have hN := ((Fr.refl No W0).drew.callNo hfp).alloc (stO p 0 T .nilIface)
      exact ⟨w'.heap.size, rfl, by omega, Blk.new w' (stO p 0 T .nilIface), HH.out.1.no hN, HH.out.2.1.no hN, HH.out.2.2.callNo hN⟩
    · have hN := fr7 (((Fr.refl No W0).alloc _).drew.callNo hfp) (Nat.le_refl W0.heap.size) (.int .i64 p.b) (.int .i64 p.g) (.int .i64 p.l) (.int .i64 p.c) (.int .i64 0) (.string ⟨T.toArray⟩) .nilIface
      have hB7 := set7 (Blk.fr (Blk.drew (Blk.new W0 (.cells #[.int .i64 0, .int .i64 0, .int .i64 0, .int .i64 0, .int .i64 0, .string ⟨#[]⟩, .nilIface] 220 (0, 0)))) hfp (fun x => x)) (.int .i64 p.b) (.int .i64 p.g) (.int .i64 p.l) (.int .i64 p.c) (.int .i64 0) (.string ⟨T.toArray⟩) .nilIface
      exact ⟨W0.heap.size, rfl, by omega, hB7, HH.out.1.no hN, HH.out.2.1.no hN, HH.out.2.2.callNo hN⟩
  case rest =>
    obtain ⟨G, rfl, hNG, hBG, hR, hn, hf⟩ := hcut
    clear h0 hn0 hf0 hB0 hlt0
    have RG := Blk.all hBG
    have ZG := Blk.frees hBG
    obtain ⟨i, x, ha, hb, ht⟩ := hR
    go_wp2_with fail
    refine (variable_rdr (by omega) T hb hn).mono ?_
    rintro e w1 ⟨rfl, hf1⟩
    have hR1 : Rdr w1 b lv nv mv o toks r := ⟨i, x, ha, hb.fr hf1 (fun x => x), ht.no hf1⟩
    have hB1 := hBG.fr hf1 (fun x => x)
    have hf2 := hf.callNo hf1
    clear ha hb ht hBG hn hf hf1 RG ZG
    have hGw : w.heap.size ≤ G := by omega
    have hbG : b ≠ G := by omega
    have gg : ∀ i, (⟨G, i, none⟩ : Addr).block < w.heap.size → (⟨G, i, none⟩ : Addr).block = b := fun i h => absurd h (Nat.not_lt.2 hGw)
    have RG := Blk.all hB1
    have ZG := Blk.frees hB1
    obtain ⟨V, hV⟩ : ∃ V, varI nm T = V := ⟨_, rfl⟩
    rw [hV]
    go_wp2_with fail
    have hfG := (Fr.refl (· = G) w1).setCell (a := ⟨G, 4, none⟩) (.int .i64 V) (fun _ => rfl)
    have hR2 := H.out.1.far hR1 hGw hfG
    have hf3 := hf2.setCell (a := ⟨G, 4, none⟩) (.int .i64 V) (gg 4)
    have hB2 : Blk _ G (stO p V T .nilIface) := hB1.setOff 4 (.int .i64 V)
    generalize w1.setCell ⟨G, 4, none⟩ (.int .i64 V) = w2 at *
    clear RG ZG hB1 hf2 hfG hR1
    cases hv : varS nm T with
    | none =>
      rw [hv] at hres
      simp only at hres
      subst hres
      have e : V = -1 := by rw [← hV]; unfold varI; rw [hv]
      subst e
      rw [show decide ((0 : Int) ≤ -1) = false from rfl]
      refine (need_rdr hR2 81).mono ?_
      rintro e w3 ⟨ht, hf4⟩
      rw [hp] at ht
      simp only [Threw] at ht
      subst ht
      go_wp2_with fail
      exact ⟨rfl, hf3.callNo hf4, rfl⟩
    | some k =>
      rw [hv] at hres
      simp only at hres
      have e : V = (k : Int) := by rw [← hV]; unfold varI; rw [hv]
      subst e
      rw [show decide ((0 : Int) ≤ (k : Int)) = true by simp]
      refine (need_true b _ _).mono ?_
      rintro e w3 ⟨rfl, rfl⟩
      go_wp2_with fail
      refine (pass_rdr (by omega) hR2).mono ?_
      rintro e w3 ⟨rfl, hR3, hf4⟩
      have hf5 := hf3.call hf4 (fun _ _ x => x)
      have hB3 := hB2.fr hf4 (by omega)
      simp only [tokC]
      clear hR2 hf3 hB2 hf4
      have hg3 := hR3.good
      have hle3 := hg.pass_le
      generalize hrp : passT r = r3 at *
      go_wp2_with fail
      cases hm1 : isT [58, 61] r3 with
      | false =>
        have e : mustS [58, 61] r3 = .error (80, (hereT r3).at_) := by unfold mustS; rw [if_neg (by simp [hm1])]
        rw [e] at hres
        subst hres
        refine (must_no (by omega) [58, 61] hR3 hm1).mono ?_
        rintro e w4 ⟨ht, hf6⟩
        simp only [Threw] at ht
        subst ht
        go_wp2_with fail
        exact ⟨rfl, hf5.call hf6 (fun _ _ x => x), rfl⟩
      | true =>
        have e : mustS [58, 61] r3 = .ok (passT r3) := by unfold mustS; rw [if_pos hm1]
        rw [e] at hres
        simp only at hres
        refine (must_yes (by omega) [58, 61] hR3 hm1).mono ?_
        rintro e w4 ⟨rfl, hR4, hf6⟩
        have hf7 := hf5.call hf6 (fun _ _ x => x)
        have hB4 := hB3.fr hf6 (by omega)
        have hg4 := hg3.pass
        have hl4 := isT_lt hg3 hm1
        clear hR3 hf5 hB3 hf6
        generalize hrq : passT r3 = r4 at *
        go_wp2_with fail
        refine (is_rdr (by omega) any_ hR4).mono ?_
        rintro e w5 ⟨rfl, hR5, hf8⟩
        have hf9 := hf7.call hf8 (fun _ _ x => x)
        have hB5 := hB4.fr hf8 (by omega)
        clear hR4 hf7 hB4 hf8
        cases hany : isT any_ r4 with
        | true =>
          rw [if_pos hany] at hres
          rw [hany] at hR5
          simp only [if_true] at hR5
          have hg5 := hg4.pass
          generalize hrs : passT r4 = r5 at *
          go_wp2_with fail
          cases hsc : isT [59] r5 with
          | false =>
            have e : mustS [59] r5 = .error (80, (hereT r5).at_) := by unfold mustS; rw [if_neg (by simp [hsc])]
            rw [e] at hres
            subst hres
            refine (must_no (by omega) [59] hR5 hsc).mono ?_
            rintro e w6 ⟨ht, hfA⟩
            simp only [Threw] at ht
            subst ht
            go_wp2_with fail
            exact ⟨rfl, hf9.call hfA (fun _ _ x => x), rfl⟩
          | true =>
            have e : mustS [59] r5 = .ok (passT r5) := by unfold mustS; rw [if_pos hsc]
            rw [e] at hres
            subst hres
            refine (must_yes (by omega) [59] hR5 hsc).mono ?_
            rintro e w6 ⟨rfl, hR6, hfA⟩
            have hB6 := hB5.fr hfA (by omega)
            have RG := Blk.all hB6
            go_wp2_with fail
            go_ret
            exact ⟨hf9.call hfA (fun _ _ x => x), _, rfl, by simp only [SmIs]; rfl, hR6⟩
        | false =>
          rw [if_neg (by simp [hany])] at hres
          rw [hany] at hR5
          simp only [Bool.false_eq_true, if_false] at hR5
          go_wp2_with fail
          refine (sum_rdr (n := n) hl hnl ho (by omega) hR5 (H.out.2.no hf9)).mono ?_
          rintro e w6 ⟨hfA, hmA⟩
          have hfB := hf9.call hfA (fun _ _ x => x)
          have hB6 := hB5.fr hfA (by omega)
          cases hu : sumS n nm o r4 with
          | error ep =>
            rw [hu] at hmA hres
            obtain ⟨c, q⟩ := ep
            simp only [Threw] at hmA
            subst hmA hres
            go_wp2_with fail
            exact ⟨rfl, hfB, rfl⟩
          | ok ar =>
            rw [hu] at hmA hres
            obtain ⟨a5, r5⟩ := ar
            obtain ⟨v5, rfl, hN5', hR6⟩ := hmA
            have hN5 := hN5'.mono hf9.size
            obtain ⟨ty5, vc5, rfl⟩ := hN5.form
            clear hN5'
            simp only at hres
            have RG := Blk.all hB6
            have ZG := Blk.frees hB6
            clear hR5 hB5 hf9 hfA
            go_wp2_with fail
            have hfG := (Fr.refl (· = G) w6).setCell (a := ⟨G, 6, none⟩) (.iface ty5 (.agg vc5)) (fun _ => rfl)
            have hR7 := H.out.1.far hR6 hGw hfG
            have hfC := hfB.setCell (a := ⟨G, 6, none⟩) (.iface ty5 (.agg vc5)) (gg 6)
            have hN7 := hN5.apart hB6 (by decide) hfG
            have hB7 : Blk _ G (stO p k T (.iface ty5 (.agg vc5))) := hB6.setOff 6 (.iface ty5 (.agg vc5))
            generalize w6.setCell ⟨G, 6, none⟩ (.iface ty5 (.agg vc5)) = w7 at *
            clear RG ZG hB6 hR6 hfB hfG hN5
            cases hsc : isT [59] r5 with
            | false =>
              have e : mustS [59] r5 = .error (80, (hereT r5).at_) := by unfold mustS; rw [if_neg (by simp [hsc])]
              rw [e] at hres
              subst hres
              refine (must_no (by omega) [59] hR7 hsc).mono ?_
              rintro e w8 ⟨ht, hfA⟩
              simp only [Threw] at ht
              subst ht
              go_wp2_with fail
              exact ⟨rfl, hfC.call hfA (fun _ _ x => x), rfl⟩
            | true =>
              have e : mustS [59] r5 = .ok (passT r5) := by unfold mustS; rw [if_pos hsc]
              rw [e] at hres
              subst hres
              refine (must_yes (by omega) [59] hR7 hsc).mono ?_
              rintro e w8 ⟨rfl, hR8, hfA⟩
              have hB8 := hB7.fr hfA (by omega)
              have hN8 := hN7.fr (by omega) hfA
              have RG := Blk.all hB8
              go_wp2_with fail
              go_ret
              exact ⟨hfC.call hfA (fun _ _ x => x), _, rfl, by simp only [SmIs]; exact ⟨_, hN8.mono (by omega), rfl⟩, hR8⟩
end Go.Proofs.YtlklijpjacmgpaaGreatDoor

namespace Go.Proofs.YtlklijpjacmgpaaGreatDoor
open Go.RowKit Go.Maps
set_option linter.unusedVariables false
set_option linter.unusedSimpArgs false
attribute [local go_sem ↓] Go.wp_at_zero Go.wp_at_succ

theorem mkLaw : Keyed Tryz.prog 9 := string_keyed Tryz.underlying9
theorem mkZero (w : World) : (zeroValue 3).run Tryz.prog w = .ok (.int .i64 0) w := by kernel_rfl
/-- the marks that were read: a map's block -/
def MkAt (w : World) (m : Nat) (mk : List (List UInt8)) : Prop :=
  ∃ D : DataW Unit, w.ownsMap Tryz.prog 9 (plainElem Tryz.prog 3) m mk.length D ∧ ∀ x : List UInt8, D.atKey (.string x) (.lit (.int .i64 0)) = .lit (.int .i64 (if x ∈ mk then 1 else 0))
theorem MkAt.keep {S : Nat → Prop} {w w' : World} {m : Nat} {mk : List (List UInt8)} (h : MkAt w m mk) (f : Fr S w w') (hS : ¬ S m) : MkAt w' m mk := by
  obtain ⟨D, ⟨es, clock, h1, h2⟩, h3⟩ := h
  have hlt : m < w.heap.size := (Array.getElem?_eq_some_iff.1 h1).1
  exact ⟨D, ⟨es, clock, (f.block m hlt hS).trans h1, h2⟩, h3⟩
theorem MkAt.lt {w : World} {m : Nat} {mk : List (List UInt8)} (h : MkAt w m mk) : m < w.heap.size := by
  obtain ⟨D, ⟨es, clock, h1, _⟩, _⟩ := h
  exact (Array.getElem?_eq_some_iff.1 h1).1

theorem MkAt.none {w : World} {m : Nat} {mk : List (List UInt8)} (h : MkAt w m mk) (i : Nat) : w.cell? ⟨m, i, Option.none⟩ = Option.none := by
  obtain ⟨D, ⟨es, clock, h1, _⟩, _⟩ := h
  simp [World.cell?, h1]
theorem Rdr.map {w w' : World} {b m : Nat} {lv nv mv : Value} {o : Nat} {toks r : List Tok} {mk : List (List UInt8)} (h : Rdr w b lv nv mv o toks r) (hM : MkAt w m mk) (hbm : m ≠ b) (f : Fr (· = m) w w') : Rdr w' b lv nv mv o toks r := by
  obtain ⟨i, x, a, hb, g, c, e1, hgb, hgl, hc⟩ := h
  have hgm : g ≠ m := by
    intro e
    subst e
    have := hc i x a.h 0 (by omega)
    rw [hM.none] at this
    simp [tokC] at this
  refine ⟨i, x, a, hb.fr f hbm.symm, g, c, e1, hgb, Nat.lt_of_lt_of_le hgl f.size, fun i x hx k hk => ?_⟩
  rw [← hc i x hx k hk]
  exact World.cell?_of_block (f.block g hgl hgm)
theorem MkAt.put {w w' : World} {m n : Nat} {mk : List (List UInt8)} {D : DataW Unit} {x : List UInt8} (hown : w.ownsMap Tryz.prog 9 (plainElem Tryz.prog 3) m n D) (hD : ∀ x : List UInt8, D.atKey (.string x) (.lit (.int .i64 0)) = .lit (.int .i64 (if x ∈ mk then 1 else 0))) (h : w'.ownsMap Tryz.prog 9 (plainElem Tryz.prog 3) m (mk.length + 1) (D.put (.string x) (.lit (.int .i64 1)))) : MkAt w' m (x :: mk) := by
  refine ⟨_, h, fun y => ?_⟩
  have hM : IsMap D := by
    obtain ⟨es, clock, _, _, _, hd⟩ := hown
    exact ⟨_, hd⟩
  by_cases e : y = x
  · subst e
    rw [atKey_put_same hM (by trivial)]
    simp
  · rw [atKey_put_other (by intro h; cases h; exact e rfl), hD y]
    simp [e]

set_option maxRecDepth 100000 in
set_option maxHeartbeats 4000000 in
theorem mark_rdr {w : World} {b m : Nat} {lv nv : Value} {o : Nat} {toks r : List Tok} {mk : List (List UInt8)} (hl : toks.length ≤ 5000) (hmk : mk.length ≤ 10000) (p : Pl) (hmb : m < b) (h : Rdr w b lv nv (.map (some m)) o toks r) (hM : MkAt w m mk) :
    Calls Tryz.prog 110 #[.pointer (some ⟨b, 0, none⟩), plV p] w fun e w' => Fr (fun k => k = b ∨ k = m) w w' ∧ match markS p mk r with
      | .error (c, q) => Threw c q e
      | .ok (s, mk1, r1) => ∃ v, e = .returned v ∧ SmIs w' w.heap.size s v ∧ Rdr w' b lv nv (.map (some m)) o toks r1 ∧ MkAt w' m mk1 := by
  have hg := h.good
  obtain ⟨res, hres⟩ : ∃ res, markS p mk r = res := ⟨_, rfl⟩
  rw [hres]
  unfold markS at hres
  have hbl : b < w.heap.size := by obtain ⟨_, _, _, hb, _⟩ := h; exact hb.lt
  go_enter Tryz.func110, Tryz.ntmps110
  go_wp2_with fail
  obtain ⟨T, hT⟩ : ∃ T, (hereT r).text = T := ⟨_, rfl⟩
  rw [hT] at hres
  have hB0 := Blk.new w (plO' p)
  have h0 := h.no ((Fr.refl No w).alloc (plO' p))
  have hM0 := hM.keep ((Fr.refl No w).alloc (plO' p)) (fun x => x)
  have hf0 : Fr (fun k => k = b ∨ k = m) w (w.alloc (plO' p)) := (Fr.refl _ w).alloc _
  have H := Lib.hid (And.intro h hM)
  clear h hM
  refine (name_rdr h0).mono ?_
  rintro e w1 ⟨rfl, hR1, hf1⟩
  have hB1 := hB0.fr hf1 (fun x => x)
  have hM1 := hM0.keep hf1 (fun x => x)
  have hf2 := hf0.callNo hf1
  clear hB0 h0 hM0 hf0 hf1
  obtain ⟨N0, hN0⟩ : ∃ N0, w.heap.size = N0 := ⟨_, rfl⟩
  rw [hN0] at hB1 ⊢
  have HN0 := Lib.hid hN0
  rw [hN0] at hbl
  clear hN0
  cases hnm : nameS r with
  | false =>
    rw [if_pos hnm] at hres
    subst hres
    go_wp2_with fail
    refine (need_rdr hR1 80).mono ?_
    rintro e w2 ⟨ht, hf3⟩
    simp only [Threw] at ht
    subst ht
    go_wp2_with fail
    exact ⟨rfl, hf2.callNo hf3, rfl⟩
  | true =>
    rw [if_neg (by simp [hnm])] at hres
    have hk1 : (hereT r).kind = 1 := by
      simp only [nameS, Bool.and_eq_true, decide_eq_true_eq] at hnm
      exact hnm.1
    have hcs : ∃ cs : List Nat, T = cs.flatMap enc ∧ (∀ c ∈ cs, okc c = true) ∧ T.length ≤ 1024 := by
      cases hg with
      | last q => simp [hereT] at hk1
      | cons a1 a2 a3 a4 a5 =>
        simp only [hereT, List.headD_cons] at hk1 hT
        obtain ⟨cs, q1, q2⟩ := a4.2 hk1
        exact ⟨cs, by rw [← hT]; exact q1, q2, by rw [← hT]; exact a4.1⟩
    obtain ⟨cs, hc1, hc2, hc3⟩ := hcs
    have HC := Lib.hid (And.intro hc1 (And.intro hc2 (And.intro hc3 hk1)))
    clear hc1 hc2 hc3 hk1
    go_wp2_with fail
    refine (need_true b _ _).mono ?_
    rintro e w2 ⟨rfl, rfl⟩
    go_wp2_with fail
    refine (here_rdr hR1).mono ?_
    rintro e w2 ⟨rfl, hR2, hf3⟩
    have hB2 := hB1.fr hf3 (fun x => x)
    have hM2 := hM1.keep hf3 (fun x => x)
    have hf4 := hf2.callNo hf3
    simp only [tokC]
    rw [hT]
    have hft := fld_text
    clear hR1 hB1 hM1 hf2 hf3
    go_wp2_with fail
    refine (lshort_calls T cs HC.out.1 HC.out.2.1 (by have := HC.out.2.2.1; omega) _).mono ?_
    rintro e w3 ⟨rfl, hf5⟩
    have hR3 := hR2.no hf5
    have hB3 := hB2.fr hf5 (fun x => x)
    have hM3 := hM2.keep hf5 (fun x => x)
    have hf6 := hf4.callNo hf5
    clear hR2 hB2 hM2 hf4 hf5
    cases hsh : shortS T with
    | false =>
      rw [if_pos hsh] at hres
      subst hres
      go_wp2_with fail
      refine (need_rdr hR3 42).mono ?_
      rintro e w4 ⟨ht, hf7⟩
      simp only [Threw] at ht
      subst ht
      go_wp2_with fail
      exact ⟨rfl, hf6.callNo hf7, rfl⟩
    | true =>
      rw [if_neg (by simp [hsh])] at hres
      go_wp2_with fail
      refine (need_true b _ _).mono ?_
      rintro e w4 ⟨rfl, rfl⟩
      obtain ⟨i, x, ha, hb, ht⟩ := hR3
      have R := Blk.all hb
      have HR := Lib.hid (And.intro ha (And.intro hb ht))
      clear ha hb ht
      obtain ⟨D, hown, hD⟩ := hM3
      have HD := Lib.hid hD
      clear hD
      have hTs : (⟨T.toArray⟩ : ByteArray).size ≤ maxLen := by rw [Lib.size_eq]; have := HC.out.2.2.1; unfold maxLen; show T.length ≤ _; omega
      go_wp2_with (first | (at_lookup; go_loud (refine wpList_lookup_own_int _ rfl _ _ 133 rfl 9 3 .i64 mkLaw Tryz.underlying133 Tryz.underlying3 (mkZero _) m _ _ rfl hown _ _ rfl (Go.WideMaps.keyOf_string_mk Tryz.underlying9 hTs) ?_; intro c hat hwc)))
      have hc : c = if T ∈ mk then 1 else 0 := by
        have h1 := HD.out T
        have h2 : D.atKey (.string T) (.lit (.int .i64 0)) = .lit (.int .i64 c) := hat
        rw [h1] at h2
        simpa using h2.symm
      have hMk : MkAt w4 m mk := ⟨D, hown, HD.out⟩
      clear hat hwc
      by_cases hin : T ∈ mk
      · have e : c = 1 := by rw [hc, if_pos hin]
        rw [if_pos (by simpa using hin)] at hres
        subst e hres
        clear hc
        go_wp2_with fail
        refine (need_rdr ⟨i, x, HR.out⟩ 82).mono ?_
        rintro e w5 ⟨ht, hf7⟩
        simp only [Threw] at ht
        subst ht
        go_wp2_with fail
        exact ⟨rfl, hf6.callNo hf7, rfl⟩
      · have e : c = 0 := by rw [hc, if_neg hin]
        rw [if_neg (by simpa using hin)] at hres
        subst e
        clear hc
        go_wp2_with fail
        refine (need_true b _ _).mono ?_
        rintro e w5 ⟨rfl, rfl⟩
        go_wp2_with (first | (at_mapUpdate; go_loud (refine wpList_mapUpdate_own _ rfl _ _ _ 133 rfl 9 3 mkLaw Tryz.underlying133 _ m _ _ rfl hown (by unfold maxLen; omega) _ _ _ rfl rfl (Go.WideMaps.keyOf_string_mk Tryz.underlying9 hTs) _ [] (plainElem_int Tryz.underlying3 (by decide)) ?_; intro w6 hown6 hgr6)))
        have hfk : Fr (· = m) w5 w6 := (Fr.refl _ w5).grown hgr6 (fun k hk _ => by cases hk; rfl)
        have hR6 : Rdr w6 b lv nv (.map (some m)) o toks r := Rdr.map ⟨i, x, HR.out⟩ hMk (by omega) hfk
        have hM6 := MkAt.put hown HD.out hown6
        have hB6 := hB3.fr hfk (by omega)
        have hf7 := hf6.call hfk (fun k _ e => Or.inr e)
        clear hown hown6 hgr6 hfk hMk hB3 hf6 R
        refine (pass_rdr (by omega) hR6).mono ?_
        rintro e w7 ⟨rfl, hR7, hf8⟩
        have hB7 := hB6.fr hf8 (by omega)
        have hM7 := hM6.keep hf8 (by omega)
        have hf9 := hf7.call hf8 (fun k _ e => Or.inl e)
        simp only [tokC]
        have hg7 := hg.pass
        clear hR6 hM6 hB6 hf7 hf8
        generalize hrp : passT r = r7 at *
        go_wp2_with fail
        cases hsc : isT [59] r7 with
        | false =>
          have e : mustS [59] r7 = .error (80, (hereT r7).at_) := by unfold mustS; rw [if_neg (by simp [hsc])]
          rw [e] at hres
          subst hres
          refine (must_no (by omega) [59] hR7 hsc).mono ?_
          rintro e w8 ⟨ht, hfA⟩
          simp only [Threw] at ht
          subst ht
          go_wp2_with fail
          exact ⟨rfl, hf9.call hfA (fun k _ e => Or.inl e), rfl⟩
        | true =>
          have e : mustS [59] r7 = .ok (passT r7) := by unfold mustS; rw [if_pos hsc]
          rw [e] at hres
          subst hres
          refine (must_yes (by omega) [59] hR7 hsc).mono ?_
          rintro e w8 ⟨rfl, hR8, hfA⟩
          have hB8 := hB7.fr hfA (by omega)
          have hM8 := hM7.keep hfA (by omega)
          have RN := Blk.all hB8
          go_wp2_with fail
          go_ret
          exact ⟨hf9.call hfA (fun k _ e => Or.inl e), _, rfl, by simp only [SmIs]; rfl, hR8, hM8⟩
end Go.Proofs.YtlklijpjacmgpaaGreatDoor
