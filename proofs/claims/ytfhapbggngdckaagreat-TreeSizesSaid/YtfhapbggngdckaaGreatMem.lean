/- Words for memory: what a world keeps, a block known whole, a slice that reads as a list, a slice that the call owns. Plain lemmas; no program in sight. -/
import Derived.WalkKit
import Derived.WalkSpells
import Derived.WalkLawsBesides
import Derived.Lib.Hide
import Derived.Deep.Draws
import Derived.Laws.CopyOwn
import Derived.Maps.AppendAt
import Derived.StillTailTactics
import Derived.Deep.QuietTactic
import Derived.BigQuiet
import Derived.Deep.RegionHeld3
import Derived.BigRegion
import Derived.Deep.RegionLaw
import Derived.Deep.RegionWith
import Derived.Deep.Cut
import Derived.Deep.LoopGhost
namespace Go.Proofs.YtfhapbggngdckaaGreat
open Go.RowKit

/-- Outside the blocks F the world w' is as w was; the streams are as they were; no block has gone. -/
structure Keep (F : Nat → Prop) (w w' : World) : Prop where
  os : w'.os = w.os
  tape : w'.tape = w.tape
  output : w'.output = w.output
  size : w.heap.size ≤ w'.heap.size
  block : ∀ k, k < w.heap.size → ¬ F k → w'.heap[k]? = w.heap[k]?

/-- No block. -/
def No : Nat → Prop := fun _ => False
/-- Blocks from B on. -/
def From (B : Nat) : Nat → Prop := fun k => B ≤ k
/-- Just block b. -/
def Just (b : Nat) : Nat → Prop := fun k => k = b

section
variable {F G : Nat → Prop} {a b c w w' : World}
theorem Keep.refl (F : Nat → Prop) (w : World) : Keep F w w := ⟨rfl, rfl, rfl, Nat.le_refl _, fun _ _ _ => rfl⟩
theorem Keep.mono (h : Keep F a b) (hg : ∀ i, i < a.heap.size → F i → G i) : Keep G a b :=
  ⟨h.os, h.tape, h.output, h.size, fun k hk hn => h.block k hk fun hf => hn (hg k hk hf)⟩
theorem Keep.trans (h : Keep F a b) (k : Keep G b c) (hg : ∀ i, i < a.heap.size → G i → F i) : Keep F a c :=
  ⟨k.os.trans h.os, k.tape.trans h.tape, k.output.trans h.output, Nat.le_trans h.size k.size,
    fun i hi hn => (k.block i (Nat.lt_of_lt_of_le hi h.size) fun hf => hn (hg i hi hf)).trans (h.block i hi hn)⟩
theorem Keep.drew (h : Keep F a w) : Keep F a w.drew := ⟨h.os, h.tape, h.output, h.size, h.block⟩
theorem Keep.drewN (h : Keep F a w) (n : Nat) : Keep F a (w.drewN n) := ⟨h.os, h.tape, h.output, h.size, h.block⟩
theorem Keep.alloc (h : Keep F a w) (o : Obj) : Keep F a (w.alloc o) :=
  ⟨h.os, h.tape, h.output, Nat.le_trans h.size (by simp), fun k hk hn => (Below.heap_alloc w o k (Nat.lt_of_lt_of_le hk h.size)).trans (h.block k hk hn)⟩
theorem Keep.setCell (h : Keep F a w) {p : Addr} (hp : p.block < a.heap.size → F p.block) (u : Value) : Keep F a (w.setCell p u) :=
  ⟨h.os, h.tape, h.output, by simpa [World.setCell] using h.size, fun k hk hn => (Below.heap_setCell w p u k (by
    rintro rfl
    exact hn (hp hk))).trans (h.block k hk hn)⟩
theorem Keep.setRow (h : Keep F a w) {g : Nat} (hp : g < a.heap.size → F g) (cs : Array Value) : Keep F a (w.setRow g cs) :=
  ⟨h.os, h.tape, h.output, by simpa [World.setRow] using h.size, fun k hk hn => (setRow_other w g k cs (by
    rintro rfl
    exact hn (hp hk))).trans (h.block k hk hn)⟩
theorem Keep.of_grown {row : Option Nat} (h : w.grownBy w' row) : Keep (fun k => row = some k) w w' :=
  ⟨h.os, h.tape, h.output, h.size, fun k hk hn => h.block k hk (fun e => hn e.symm)⟩
theorem Keep.of_below {B : Nat} (h : Below B w w') : Keep (From B) w w' :=
  ⟨h.os, h.tape, h.output, h.size, fun k _ hn => h.block k (Nat.lt_of_not_le hn)⟩
theorem Keep.below (h : Keep F w w') (hf : ∀ k, k < w.heap.size → ¬ F k) : Below w.heap.size w w' :=
  ⟨h.os, h.tape, h.output, h.size, fun k hk => h.block k hk (hf k hk)⟩
theorem Keep.cell (h : Keep F w w') {p : Addr} (hp : p.block < w.heap.size) (hn : ¬ F p.block) : w'.cell? p = w.cell? p :=
  World.cell?_of_block (w := w) (h.block p.block hp hn)
theorem Keep.frozen (h : Keep F w w') {p : Addr} (hp : p.block < w.heap.size) (hn : ¬ F p.block) : w'.frozen? p = w.frozen? p :=
  World.frozen?_of_block (w := w) (h.block p.block hp hn)
/-- Whatever was written, if it is new, is nothing to what was there. -/
theorem Keep.new (h : Keep F a b) (hf : ∀ k, k < a.heap.size → ¬ F k) : Keep No a b := h.mono fun i hi hF => (hf i hi hF).elim
theorem Keep.any (h : Keep No a b) (F : Nat → Prop) : Keep F a b := h.mono fun _ _ hF => hF.elim
end

/-- Block b is just the cells cs of element type T, none frozen. -/
def Row (w : World) (b : Nat) (T : TypeId) (cs : List Value) : Prop := w.heap[b]? = some (.cells cs.toArray T (0, 0))
section
variable {F : Nat → Prop} {w w' : World} {b : Nat} {T : TypeId} {cs : List Value}
theorem Row.lt (h : Row w b T cs) : b < w.heap.size := (Array.getElem?_eq_some_iff.1 h).1
theorem Row.cell (h : Row w b T cs) (i : Nat) : w.cell? ⟨b, i, none⟩ = cs[i]? := by
  rw [cell_of_row w b i cs.toArray T (0, 0) h]; simp
theorem Row.frozen (h : Row w b T cs) (i : Nat) : w.frozen? ⟨b, i, none⟩ = false := by
  unfold Row at h; simp [World.frozen?, h]
theorem Row.shape (h : Row w b T cs) : w.shape? b = some (T, cs.length) := by
  unfold Row at h; simp [World.shape?, h]
theorem Row.new (w : World) (T : TypeId) (cs : List Value) : Row (w.alloc (.cells cs.toArray T)) w.heap.size T cs := by
  show (w.heap.push _)[w.heap.size]? = _
  simp
theorem Row.drewN (h : Row w b T cs) (n : Nat) : Row (w.drewN n) b T cs := h
theorem Row.drew (h : Row w b T cs) : Row w.drew b T cs := h
theorem Row.alloc (h : Row w b T cs) (o : Obj) : Row (w.alloc o) b T cs := (Below.heap_alloc w o b h.lt).trans h
theorem Row.set (h : Row w b T cs) (i : Nat) (u : Value) : Row (w.setCell ⟨b, i, none⟩ u) b T (cs.set i u) := by
  unfold Row at h ⊢
  simp [World.setCell, Array.getElem?_modify, h]
theorem Row.far (h : Row w b T cs) {p : Addr} (hp : b ≠ p.block) (u : Value) : Row (w.setCell p u) b T cs := (Below.heap_setCell w p u b hp).trans h
theorem Row.setRow (h : Row w b T cs) (cs' : List Value) : Row (w.setRow b cs'.toArray) b T cs' := by
  unfold Row at h ⊢
  exact setRow_heap w b _ _ T _ h
theorem Row.farRow {g : Nat} (h : Row w b T cs) (hp : b ≠ g) (cs' : Array Value) : Row (w.setRow g cs') b T cs := (setRow_other w g b cs' hp).trans h
theorem Row.keep (h : Row w b T cs) (k : Keep F w w') (hn : ¬ F b) : Row w' b T cs := (k.block b h.lt hn).trans h
theorem Row.uniq {T' : TypeId} {cs' : List Value} (h : Row w b T cs) (h' : Row w b T' cs') : T = T' ∧ cs = cs' := by
  unfold Row at h h'
  rw [h] at h'
  simp at h'
  exact ⟨h'.2, h'.1⟩
theorem Row.ne {b' : Nat} {T' : TypeId} {cs' : List Value} (h : Row w b T cs) (h' : Row w b' T' cs') (hT : T ≠ T') : b ≠ b' := by
  rintro rfl
  exact hT (h.uniq h').1
end

/-- The slice v reads as the list xs of values of one cell each; its cells lie in a block of D. -/
def RS (w : World) (D : Nat → Prop) (v : Value) (xs : List Value) : Prop :=
  ∃ ao cap, v = .slice ao xs.length cap ∧ xs.length ≤ cap ∧ cap ≤ 9223372036854775807 ∧
    (0 < xs.length → ∃ b o, ao = some ⟨b, o, none⟩ ∧ D b ∧ b < w.heap.size ∧ ∀ i, i < xs.length → w.cell? ⟨b, o + i, none⟩ = xs[i]?)
section
variable {F D D' : Nat → Prop} {w w' : World} {v : Value} {xs : List Value}
theorem RS.keep (h : RS w D v xs) (k : Keep F w w') (hn : ∀ b, b < w.heap.size → D b → ¬ F b) : RS w' D v xs := by
  obtain ⟨ao, cap, rfl, hl, hm, hc⟩ := h
  refine ⟨ao, cap, rfl, hl, hm, fun hp => ?_⟩
  obtain ⟨b, o, rfl, hD, hb, hx⟩ := hc hp
  exact ⟨b, o, rfl, hD, Nat.lt_of_lt_of_le hb k.size, fun i hi => (k.cell (p := ⟨b, o + i, none⟩) hb (hn b hb hD)).trans (hx i hi)⟩
theorem RS.more (h : RS w D v xs) (hn : ∀ b, b < w.heap.size → D b → D' b) : RS w D' v xs := by
  obtain ⟨ao, cap, rfl, hl, hm, hc⟩ := h
  refine ⟨ao, cap, rfl, hl, hm, fun hp => ?_⟩
  obtain ⟨b, o, rfl, hD, hb, hx⟩ := hc hp
  exact ⟨b, o, rfl, hn b hb hD, hb, hx⟩
theorem RS.drewN (h : RS w D v xs) (n : Nat) : RS (w.drewN n) D v xs := h.keep (F := No) ((Keep.refl _ _).drewN n) (fun _ _ _ h => h)
theorem RS.nil (w : World) (D : Nat → Prop) : RS w D (.slice none 0 0) [] := ⟨none, 0, rfl, Nat.le_refl _, by omega, fun h => by simp at h⟩
/-- The form of the value, and its cells. -/
theorem RS.form (h : RS w D v xs) : ∃ ao cap, v = .slice ao xs.length cap ∧ xs.length ≤ cap ∧ cap ≤ 9223372036854775807 ∧ (xs.length = 0 ∨
    ∃ b o, ao = some ⟨b, o, none⟩ ∧ D b ∧ b < w.heap.size ∧ ∀ i, i < xs.length → w.cell? ⟨b, o + i, none⟩ = xs[i]?) := by
  obtain ⟨ao, cap, rfl, hl, hm, hc⟩ := h
  refine ⟨ao, cap, rfl, hl, hm, ?_⟩
  rcases Nat.eq_zero_or_pos xs.length with h0 | h0
  · exact .inl h0
  · exact .inr (hc h0)
/-- A slice with an element: its block, and so on. -/
theorem RS.pos (h : RS w D v xs) (hp : 0 < xs.length) : ∃ b o cap, v = .slice (some ⟨b, o, none⟩) xs.length cap ∧ xs.length ≤ cap ∧ cap ≤ 9223372036854775807 ∧ D b ∧ b < w.heap.size ∧
    ∀ i, i < xs.length → w.cell? ⟨b, o + i, none⟩ = xs[i]? := by
  obtain ⟨ao, cap, rfl, hl, hm, hc⟩ := h
  obtain ⟨b, o, rfl, hD, hb, hx⟩ := hc hp
  exact ⟨b, o, cap, rfl, hl, hm, hD, hb, hx⟩
end

theorem Row.rs {w : World} {b : Nat} {T : TypeId} {cs : List Value} (h : Row w b T cs) (n : Nat) (hn : cs.length = n) (hl : n ≤ 9223372036854775807) : RS w (Just b) (.slice (some ⟨b, 0, none⟩) n n) cs :=
  ⟨_, n, by rw [hn], by omega, hl, fun _ => ⟨b, 0, rfl, rfl, h.lt, fun i hi => by rw [Nat.zero_add, h.cell]⟩⟩
/-- The slice v is nil, or begins at the head of a block of B, which it owns: the first elements are xs. -/
def Own (w : World) (B : Nat → Prop) (T : TypeId) (v : Value) (xs : List Value) : Prop :=
  (v = .slice none 0 0 ∧ xs = []) ∨
  ∃ g rest, v = .slice (some ⟨g, 0, none⟩) xs.length (xs.length + rest.length) ∧ B g ∧ Row w g T (xs ++ rest) ∧ xs.length + rest.length ≤ 9223372036854775807
/-- The blocks of a slice: its one block. -/
def Value.blk (v : Value) : Nat → Prop := fun k => v.ownBlock = some k
section
variable {F B B' : Nat → Prop} {w w' : World} {v : Value} {xs : List Value} {T : TypeId}
theorem Own.nil (w : World) (B : Nat → Prop) (T : TypeId) : Own w B T (.slice none 0 0) [] := .inl ⟨rfl, rfl⟩
theorem Own.keep (h : Own w B T v xs) (k : Keep F w w') (hn : ∀ b, b < w.heap.size → v.ownBlock = some b → ¬ F b) : Own w' B T v xs := by
  rcases h with h | ⟨g, rest, rfl, hB, hr, hm⟩
  · exact .inl h
  · exact .inr ⟨g, rest, rfl, hB, hr.keep k (hn g hr.lt rfl), hm⟩
theorem Own.more (h : Own w B T v xs) (hn : ∀ b, b < w.heap.size → B b → B' b) : Own w B' T v xs := by
  rcases h with h | ⟨g, rest, rfl, hB, hr, hm⟩
  · exact .inl h
  · exact .inr ⟨g, rest, rfl, hn g hr.lt hB, hr, hm⟩
theorem Own.drewN (h : Own w B T v xs) (n : Nat) : Own (w.drewN n) B T v xs := h
theorem Own.blk (h : Own w B T v xs) {b : Nat} (hb : v.ownBlock = some b) : B b ∧ b < w.heap.size := by
  rcases h with ⟨rfl, _⟩ | ⟨g, rest, rfl, hB, hr, hm⟩
  · simp [Value.ownBlock] at hb
  · simp [Value.ownBlock] at hb; subst hb; exact ⟨hB, hr.lt⟩
theorem Own.form (h : Own w B T v xs) : ∃ ao c, v = .slice ao xs.length c := by
  rcases h with ⟨rfl, rfl⟩ | ⟨g, rest, rfl, hB, hr, hm⟩
  · exact ⟨_, _, rfl⟩
  · exact ⟨_, _, rfl⟩
theorem Own.rs (h : Own w B T v xs) : RS w B v xs := by
  rcases h with ⟨rfl, rfl⟩ | ⟨g, rest, rfl, hB, hr, hm⟩
  · exact RS.nil w B
  · exact ⟨_, _, rfl, by omega, hm, fun _ => ⟨g, 0, rfl, hB, hr.lt, fun i hi => by rw [Nat.zero_add, hr.cell, List.getElem?_append_left hi]⟩⟩
/-- .. read as a slice in just its own block. -/
theorem Own.rs' (h : Own w B T v xs) : RS w (fun k => v.ownBlock = some k) v xs := by
  rcases h with ⟨rfl, rfl⟩ | ⟨g, rest, rfl, hB, hr, hm⟩
  · exact RS.nil w _
  · exact ⟨_, _, rfl, by omega, hm, fun _ => ⟨g, 0, rfl, rfl, hr.lt, fun i hi => by rw [Nat.zero_add, hr.cell, List.getElem?_append_left hi]⟩⟩
theorem Own.of_ownsRow {base n : Nat} (h : w.ownsRow base T 1 v n xs) : Own w (From base) T v xs := by
  obtain ⟨hl, h⟩ := h
  rcases h with ⟨rfl, rfl⟩ | ⟨g, cap, cur, rfl, hb, hg, hn, hm, hs, ht⟩
  · left; exact ⟨rfl, List.eq_nil_of_length_eq_zero (by simpa using hl)⟩
  · right
    have e : cur.toList = xs ++ cur.toList.drop n := by
      conv => lhs; rw [← List.take_append_drop n cur.toList]
      rw [← ht]; simp
    simp only [Nat.mul_one] at hl hs
    refine ⟨g, cur.toList.drop n, ?_, hb, ?_, ?_⟩
    · rw [hl]; simp [hs]; omega
    · unfold Row; rw [← e]; simpa using hg
    · simp [hl, hs, maxLen] at hm ⊢; omega
theorem Own.to_ownsRow {base : Nat} (h : Own w B T v xs) (hB : ∀ b, b < w.heap.size → B b → base ≤ b) : w.ownsRow base T 1 v xs.length xs := by
  refine ⟨by simp, ?_⟩
  rcases h with ⟨rfl, rfl⟩ | ⟨g, rest, rfl, hb, hr, hm⟩
  · exact .inl ⟨rfl, rfl⟩
  · exact .inr ⟨g, _, (xs ++ rest).toArray, rfl, hB g hr.lt hb, hr, by omega, by simpa [maxLen] using hm, by simp, by simp⟩
theorem Own.ne_of_type {B' : Nat → Prop} {T' : TypeId} {v' : Value} {xs' : List Value} (h : Own w B T v xs) (h' : Own w B' T' v' xs') (hT : T ≠ T') {b : Nat} (hb : v.ownBlock = some b) : v'.ownBlock ≠ some b := by
  rcases h with ⟨rfl, _⟩ | ⟨g, rest, rfl, hB, hr, hm⟩
  · simp [Value.ownBlock] at hb
  · simp [Value.ownBlock] at hb; subst hb
    rcases h' with ⟨rfl, _⟩ | ⟨g', rest', rfl, hB', hr', hm'⟩
    · simp [Value.ownBlock]
    · simp [Value.ownBlock]; rintro rfl; exact hT (hr.uniq hr').1
end

/-- One byte. -/
def u8 (b : UInt8) : Value := .int .u8 b.toNat
/-- The slice v reads as these bytes. -/
def BS (w : World) (D : Nat → Prop) (v : Value) (l : List UInt8) : Prop := RS w D v (l.map u8)
/-- The slice v reads as these numbers. -/
def IS (w : World) (D : Nat → Prop) (v : Value) (l : List Int) : Prop := RS w D v (l.map (Value.int .i64))
end Go.Proofs.YtfhapbggngdckaaGreat
