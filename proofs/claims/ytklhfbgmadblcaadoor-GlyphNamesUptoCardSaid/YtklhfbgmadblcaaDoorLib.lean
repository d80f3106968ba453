/- What a call leaves: frames and blocks. No program. -/
import Derived.WalkKit
import Derived.WalkSpells
import Derived.WalkLawsBesides
import Derived.Lib.Hide
import Derived.Deep.Draws
namespace Go.Proofs.YtklhfbgmadblcaaDoor
open Go.RowKit
set_option linter.unusedVariables false
set_option linter.unusedSimpArgs false

theorem ret_int {k : IntKind} {a b : Int} (h : a = b) : Ending.returned (.int k a) = .returned (.int k b) := by rw [h]
theorem ret_bool {a b : Bool} (h : a = b) : Ending.returned (.bool a) = .returned (.bool b) := by rw [h]
theorem ret_str {a b : ByteArray} (h : a = b) : Ending.returned (.string a) = .returned (.string b) := by rw [h]
theorem wrap64_byte (b : UInt8) : wrap64 (b.toNat : Int) = (b.toNat : Int) := IntWalk.wrap64_in _ (by have := b.toNat_lt; omega)
theorem wrap64_nat (n : Nat) (h : n ≤ 9223372036854775807) : wrap64 (n : Int) = (n : Int) := IntWalk.wrap64_in _ (by omega)

/-- Nothing that was there has turned, but for the blocks of S. -/
structure Fr (S : Nat → Prop) (w w' : World) : Prop where
  os : w'.os = w.os
  tape : w'.tape = w.tape
  output : w'.output = w.output
  size : w.heap.size ≤ w'.heap.size
  block : ∀ k, k < w.heap.size → ¬ S k → w'.heap[k]? = w.heap[k]?

def No (k : Nat) : Prop := False

theorem Fr.refl (S : Nat → Prop) (w : World) : Fr S w w := ⟨rfl, rfl, rfl, Nat.le_refl _, fun _ _ _ => rfl⟩
theorem Fr.trans {S S' : Nat → Prop} {a b c : World} (h : Fr S a b) (k : Fr S' b c) (hs : ∀ k, k < a.heap.size → S' k → S k) : Fr S a c :=
  ⟨k.os.trans h.os, k.tape.trans h.tape, k.output.trans h.output, Nat.le_trans h.size k.size,
    fun i hi hn => (k.block i (Nat.lt_of_lt_of_le hi h.size) (fun hc => hn (hs i hi hc))).trans (h.block i hi hn)⟩
theorem Fr.mono {S S' : Nat → Prop} {a b : World} (h : Fr S a b) (hs : ∀ k, k < a.heap.size → S k → S' k) : Fr S' a b :=
  ⟨h.os, h.tape, h.output, h.size, fun i hi hn => h.block i hi (fun hc => hn (hs i hi hc))⟩
theorem Fr.of_below {S : Nat → Prop} {w w' : World} (h : Below w.heap.size w w') : Fr S w w' := ⟨h.os, h.tape, h.output, h.size, fun k hk _ => h.block k hk⟩
theorem Fr.below {w w' : World} (h : Fr No w w') : Below w.heap.size w w' := ⟨h.os, h.tape, h.output, h.size, fun k hk => h.block k hk (fun x => x)⟩
theorem Fr.drew {S : Nat → Prop} {w0 w : World} (h : Fr S w0 w) : Fr S w0 w.drew := ⟨h.os, h.tape, h.output, h.size, h.block⟩
theorem Fr.drewN {S : Nat → Prop} {w0 w : World} (h : Fr S w0 w) (n : Nat) : Fr S w0 (w.drewN n) := ⟨h.os, h.tape, h.output, h.size, h.block⟩
theorem Fr.alloc {S : Nat → Prop} {w0 w : World} (h : Fr S w0 w) (o : Obj) : Fr S w0 (w.alloc o) :=
  ⟨h.os, h.tape, h.output, by have := h.size; show _ ≤ (w.heap.push o).size; simp; omega, fun k hk hn => by
    rw [Below.heap_alloc _ _ _ (by have := h.size; omega)]; exact h.block k hk hn⟩
theorem Fr.setCell {S : Nat → Prop} {w0 w : World} (h : Fr S w0 w) {a : Addr} (u : Value) (hs : a.block < w0.heap.size → S a.block) : Fr S w0 (w.setCell a u) :=
  ⟨h.os, h.tape, h.output, by have := h.size; simp [World.setCell]; omega, fun k hk hn => by
    rw [Below.heap_setCell _ _ _ _ (fun e => by subst e; exact hn (hs hk))]; exact h.block k hk hn⟩
theorem Fr.call {S S' : Nat → Prop} {w0 w w' : World} (h : Fr S w0 w) (k : Fr S' w w') (hs : ∀ k, k < w0.heap.size → S' k → S k) : Fr S w0 w' := h.trans k hs
theorem Fr.callNo {S : Nat → Prop} {w0 w w' : World} (h : Fr S w0 w) (k : Fr No w w') : Fr S w0 w' := h.trans k (fun _ _ x => x.elim)

/-- Block b holds o. -/
def Blk (w : World) (b : Nat) (o : Obj) : Prop := w.heap[b]? = some o
theorem Blk.cast {w : World} {b : Nat} {o o' : Obj} (h : Blk w b o) (e : o = o') : Blk w b o' := e ▸ h
theorem Blk.lt {w : World} {b : Nat} {o : Obj} (h : Blk w b o) : b < w.heap.size := (Array.getElem?_eq_some_iff.1 h).1
theorem Blk.fr {w w' : World} {S : Nat → Prop} {b : Nat} {o : Obj} (h : Blk w b o) (f : Fr S w w') (hs : ¬ S b) : Blk w' b o := (f.block b h.lt hs).trans h
theorem Blk.drew {w : World} {b : Nat} {o : Obj} (h : Blk w b o) : Blk w.drew b o := h
theorem Blk.drewN {w : World} {b : Nat} {o : Obj} (h : Blk w b o) (n : Nat) : Blk (w.drewN n) b o := h
theorem Blk.alloc {w : World} {b : Nat} {o : Obj} (h : Blk w b o) (o' : Obj) : Blk (w.alloc o') b o := (Below.heap_alloc _ _ _ h.lt).trans h
theorem Blk.new (w : World) (o : Obj) : Blk (w.alloc o) w.heap.size o := by show (w.heap.push o)[w.heap.size]? = _; simp
theorem Blk.setOff {w : World} {b : Nat} {cs : Array Value} {t : TypeId} {f : Nat × Nat} (h : Blk w b (.cells cs t f)) (i : Nat) (u : Value) :
    Blk (w.setCell ⟨b, i, none⟩ u) b (.cells (cs.setIfInBounds i u) t f) := by
  show ((w.heap.modify b _)[b]?) = _
  rw [Array.getElem?_modify, if_pos rfl]
  have h' : w.heap[b]? = _ := h
  rw [h']
  rfl
theorem Blk.set_ne {w : World} {b : Nat} {o : Obj} (h : Blk w b o) (a : Addr) (u : Value) (hne : b ≠ a.block) : Blk (w.setCell a u) b o := (Below.heap_setCell _ _ _ _ hne).trans h
theorem Blk.cell {w : World} {b : Nat} {cs : Array Value} {t : TypeId} {f : Nat × Nat} (h : Blk w b (.cells cs t f)) (i : Nat) (v : Value) (hv : cs[i]? = some v) : w.cell? ⟨b, i, none⟩ = some v := by
  have h' : w.heap[b]? = _ := h
  simp [World.cell?, h', hv]
theorem Blk.free {w : World} {b : Nat} {cs : Array Value} {t : TypeId} (h : Blk w b (.cells cs t (0, 0))) (i : Nat) : w.frozen? ⟨b, i, none⟩ = false := by
  have h' : w.heap[b]? = _ := h
  simp [World.frozen?, h']


/-- Only the count of draws has turned. -/
def Qd (w w' : World) : Prop := ∃ k, w' = w.drewN k
theorem Qd.refl (w : World) : Qd w w := ⟨0, rfl⟩
theorem Qd.trans {a b c : World} (h : Qd a b) (k : Qd b c) : Qd a c := by
  obtain ⟨n, rfl⟩ := h; obtain ⟨m, rfl⟩ := k; exact ⟨n + m, by rw [World.drewN_drewN]⟩
theorem Qd.drew {a b : World} (h : Qd a b) : Qd a b.drew := h.trans ⟨1, rfl⟩
theorem Qd.drewN {a b : World} (h : Qd a b) (n : Nat) : Qd a (b.drewN n) := h.trans ⟨n, rfl⟩
theorem Qd.blk {a b : World} (h : Qd a b) {n : Nat} {o : Obj} (hb : Blk a n o) : Blk b n o := by obtain ⟨k, rfl⟩ := h; exact hb
theorem Qd.fr {a b : World} (h : Qd a b) (S : Nat → Prop) : Fr S a b := by obtain ⟨k, rfl⟩ := h; exact (Fr.refl S a).drewN k
theorem Qd.size {a b : World} (h : Qd a b) : b.heap.size = a.heap.size := by obtain ⟨k, rfl⟩ := h; rfl
theorem Fr.qd {S : Nat → Prop} {w0 a b : World} (h : Fr S w0 a) (k : Qd a b) : Fr S w0 b := h.trans (k.fr S) (fun _ _ x => x)

end Go.Proofs.YtklhfbgmadblcaaDoor
