/- The pool of pages in memory: what lies where (Raw), and how it is kept. -/
import Derived.Test.YtfhapbggngdckaaGreatDisk
import Derived.Test.YtfhapbggngdckaaGreatIndex
import Derived.Test.YtfhapbggngdckaaGreatInsert
namespace Go.Proofs.YtfhapbggngdckaaGreat
open Go.RowKit

/-- What a call on the pool leaves: the world, its memory's blocks and the disk's among them. -/
structure To (w : World) (K F FD : Nat → Prop) (P : World → (Nat → Prop) → (Nat → Prop) → Prop) (w' : World) : Prop where
  ex : ∃ F' FD', P w' F' FD' ∧ Keep K w w' ∧ (∀ b, F' b → F b ∨ w.heap.size ≤ b) ∧ (∀ b, FD' b → FD b ∨ w.heap.size ≤ b)
/-- A frame: its block, its bytes' slice, whether it is dirty, its bytes. -/
structure Fr where
  b : Nat
  bv : Value
  dirty : Bool
  data : List UInt8
/-- Where the pool lies, and its fixed numbers. -/
structure PG where
  pb : Nat
  pool : Nat
  db : Nat
  off : Nat
  sz : Nat
  ib : Nat
  fb : Nat
structure FrOK (w : World) (B : Nat → Prop) (n : Int) (f : Fr) : Prop where
  row : Row w f.b 206 [.int .i64 n, f.bv, .bool f.dirty]
  inb : B f.b
  own : Own w B 5 f.bv (f.data.map u8)
  len : f.data.length = 1024
def frPtr (f : Fr) : Value := .pointer (some ⟨f.b, 0, none⟩)
/-- The map of frames as the model's pairs. -/
def fmap (fs : List (Int × Fr)) : List (Int × Value) := fs.map fun p => (p.1, frPtr p.2)

structure Raw (w : World) (F FD : Nat → Prop) (g : PG) (uv : Value) (ul : List Int) (fs : List (Int × Fr)) (st : List Int) (sec : Nat → List UInt8) (k : Nat) : Prop where
  row : Row w g.pb 123 [.pointer (some ⟨g.db, 0, none⟩), .int .i64 g.off, .int .i64 g.pool, .slice (some ⟨g.ib, 0, none⟩) st.length st.length, .map (some g.fb), uv, .bool false]
  disk : DiskOK w g.db g.sz FD sec k
  is : Row w g.ib 124 (st.map (Value.int .i64))
  fm : IMap w g.fb (fmap fs)
  us : Own w (fun b => F b ∧ ¬ FD b) 3 uv (ul.map (Value.int .i64))
  und : ul.Nodup
  umem : ∀ x, x ∈ ul ↔ x ∈ fs.map (·.1)
  frs : ∀ p ∈ fs, FrOK w (fun b => F b ∧ ¬ FD b) p.1 p.2
  sub : ∀ b, FD b → F b
  lt : ∀ b, F b → b < w.heap.size
  bpb : F g.pb ∧ ¬ FD g.pb
  bib : F g.ib ∧ ¬ FD g.ib
  bfb : F g.fb ∧ ¬ FD g.fb
  fits : g.off + 4 * st.length ≤ g.sz
  keys : ∀ p ∈ fs, 0 ≤ p.1 ∧ p.1 < st.length

section
variable {w w' : World} {F FD : Nat → Prop} {g : PG} {uv : Value} {ul : List Int} {fs : List (Int × Fr)} {st : List Int} {sec : Nat → List UInt8} {k : Nat}
theorem FrOK.keep {G B : Nat → Prop} {n : Int} {f : Fr} (h : FrOK w B n f) (hk : Keep G w w') (hG : ∀ b, b < w.heap.size → B b → ¬ G b) : FrOK w' B n f :=
  ⟨h.row.keep hk (hG _ h.row.lt h.inb), h.inb, h.own.keep hk (fun b hb he => hG b hb (h.own.blk he).1), h.len⟩
theorem FrOK.more {B B' : Nat → Prop} {n : Int} {f : Fr} (h : FrOK w B n f) (hB : ∀ b, b < w.heap.size → B b → B' b) : FrOK w B' n f :=
  ⟨h.row, hB _ h.row.lt h.inb, h.own.more hB, h.len⟩
theorem Raw.keep (h : Raw w F FD g uv ul fs st sec k) {G : Nat → Prop} (hk : Keep G w w') (hG : ∀ b, F b → ¬ G b) : Raw w' F FD g uv ul fs st sec k :=
  { row := h.row.keep hk (hG _ h.bpb.1), disk := h.disk.keep hk (fun b _ hb => hG b (h.sub b hb)), is := h.is.keep hk (hG _ h.bib.1), fm := h.fm.keep hk (hG _ h.bfb.1)
    us := h.us.keep hk (fun b _ hb => hG b (h.us.blk hb).1.1), und := h.und, umem := h.umem, frs := fun p hp => (h.frs p hp).keep hk (fun b _ hb => hG b hb.1), sub := h.sub
    lt := fun b hb => Nat.lt_of_lt_of_le (h.lt b hb) hk.size, bpb := h.bpb, bib := h.bib, bfb := h.bfb, fits := h.fits, keys := h.keys }
theorem Raw.drewN (h : Raw w F FD g uv ul fs st sec k) (n : Nat) : Raw (w.drewN n) F FD g uv ul fs st sec k := h.keep (G := No) ((Keep.refl _ _).drewN n) (fun _ _ h => h)
theorem Raw.small (h : Raw w F FD g uv ul fs st sec k) : st.length ≤ 65536 ∧ g.off ≤ 65536 := by
  have := h.fits; have := h.disk.size; omega
theorem fmap_fst (fs : List (Int × Fr)) : (fmap fs).map (·.1) = fs.map (·.1) := by simp [fmap]
theorem Raw.fnd (h : Raw w F FD g uv ul fs st sec k) : (fs.map (·.1)).Nodup := by rw [← fmap_fst]; exact h.fm.nodup
theorem Raw.ulen (h : Raw w F FD g uv ul fs st sec k) : ul.length = fs.length := by
  have hp : ul.Perm (fs.map (·.1)) := (List.perm_ext_iff_of_nodup h.und h.fnd).2 h.umem
  simpa using hp.length_eq
theorem nodup_bound : ∀ (n : Nat) (l : List Nat), l.Nodup → (∀ x ∈ l, x < n) → l.length ≤ n
  | 0, l, _, h => by
    cases l with
    | nil => simp
    | cons a r => exact absurd (h a (by simp)) (by omega)
  | n + 1, l, hn, h => by
    have := nodup_bound n (l.erase n) (hn.erase n) (fun x hx => by
      have h1 := h x (List.mem_of_mem_erase hx)
      have h2 : x ≠ n := by
        rintro rfl
        exact (List.Nodup.not_mem_erase hn) hx
      omega)
    rw [List.length_erase] at this
    split at this <;> omega
theorem flen_le (h : (fs.map (·.1)).Nodup) (hk : ∀ p ∈ fs, 0 ≤ p.1 ∧ p.1 < st.length) : fs.length ≤ st.length := by
  have h1 : (fs.map (fun p => p.1.toNat)).Nodup := by
    have : fs.map (fun p => p.1.toNat) = (fs.map (·.1)).map Int.toNat := by simp
    rw [this]
    refine List.Pairwise.map (R := fun a b => a ≠ b ∧ 0 ≤ a ∧ 0 ≤ b) _ (fun a b hab => by omega) ?_
    have : ∀ x ∈ fs.map (·.1), 0 ≤ x := by
      intro x hx; obtain ⟨p, hp, rfl⟩ := List.mem_map.1 hx; exact (hk p hp).1
    exact List.Pairwise.imp_of_mem (fun ha hb hab => ⟨hab, this _ ha, this _ hb⟩) h
  have := nodup_bound st.length _ h1 (by
    intro x hx
    obtain ⟨p, hp, rfl⟩ := List.mem_map.1 hx
    have := hk p hp
    omega)
  simpa using this
theorem own_ne_row {w : World} {B : Nat → Prop} {v : Value} {T T' : TypeId} {xs cs : List Value} {g : Nat} (h : Own w B T v xs) (hr : Row w g T' cs) (hT : T ≠ T') : v.ownBlock ≠ some g := by
  rcases h with ⟨rfl, _⟩ | ⟨g', rest, rfl, _, hr', _⟩
  · simp [Value.ownBlock]
  · simp [Value.ownBlock]; rintro rfl; exact hT (hr'.uniq hr).1
theorem own_ne_own {w : World} {B B' : Nat → Prop} {v v' : Value} {T T' : TypeId} {xs xs' : List Value} (h : Own w B T v xs) (h' : Own w B' T' v' xs') (hT : T ≠ T') {b : Nat} (hb : v.ownBlock = some b) : v'.ownBlock ≠ some b := h.ne_of_type h' hT hb
/-- The pool's own three blocks have turned: the struct, the map of frames, the row of numbers. -/
theorem Raw.turn (h : Raw w F FD g uv ul fs st sec k) {G : Nat → Prop} (hk : Keep G w w') (hG : ∀ b, G b → b = g.pb ∨ b = g.fb ∨ uv.ownBlock = some b) {uv' : Value} {ul' : List Int} {fs' : List (Int × Fr)}
    (row' : Row w' g.pb 123 [.pointer (some ⟨g.db, 0, none⟩), .int .i64 g.off, .int .i64 g.pool, .slice (some ⟨g.ib, 0, none⟩) st.length st.length, .map (some g.fb), uv', .bool false])
    (fm' : IMap w' g.fb (fmap fs')) (us' : Own w' (fun b => F b ∧ ¬ FD b) 3 uv' (ul'.map (Value.int .i64))) (und' : ul'.Nodup) (umem' : ∀ x, x ∈ ul' ↔ x ∈ fs'.map (·.1)) (hfs : ∀ p ∈ fs', p ∈ fs) : Raw w' F FD g uv' ul' fs' st sec k := by
  have hFD : ∀ b, FD b → ¬ G b := by
    intro b hb hg
    rcases hG b hg with rfl | rfl | h2
    · exact h.bpb.2 hb
    · exact h.bfb.2 hb
    · exact (h.us.blk h2).1.2 hb
  refine { row := row', disk := h.disk.keep hk (fun b _ hb => hFD b hb), is := h.is.keep hk ?_, fm := fm', us := us', und := und', umem := umem', frs := ?_, sub := h.sub, lt := fun b hb => Nat.lt_of_lt_of_le (h.lt b hb) hk.size, bpb := h.bpb, bib := h.bib, bfb := h.bfb, fits := h.fits, keys := fun p hp => h.keys p (hfs p hp) }
  · intro hg
    rcases hG _ hg with e | e | e
    · exact absurd e (h.is.ne h.row (by decide))
    · exact h.fm.ne_row h.is e.symm
    · exact own_ne_row h.us h.is (by decide) e
  · intro p hp
    have hf := h.frs p (hfs p hp)
    refine ⟨hf.row.keep hk ?_, hf.inb, hf.own.keep hk ?_, hf.len⟩
    · intro hg
      rcases hG _ hg with e | e | e
      · exact absurd e (hf.row.ne h.row (by decide))
      · exact h.fm.ne_row hf.row e.symm
      · exact own_ne_row h.us hf.row (by decide) e
    · intro b _ hb hg
      rcases hG _ hg with e | e | e
      · subst e; exact own_ne_row hf.own h.row (by decide) hb
      · subst e; exact own_map_ne hf.own h.fm hb
      · exact own_ne_own hf.own h.us (by decide) hb e
theorem mem_eraseIdx {x : Int} : ∀ (l : List Int) (j : Nat) (hj : j < l.length), l.Nodup → (x ∈ l.eraseIdx j ↔ x ∈ l ∧ x ≠ l[j])
  | [], _, hj, _ => by simp at hj
  | a :: r, 0, _, hn => by
    simp only [List.nodup_cons] at hn
    simp only [List.eraseIdx_cons_zero, List.mem_cons, List.getElem_cons_zero]
    constructor
    · intro h; exact ⟨.inr h, by rintro rfl; exact hn.1 h⟩
    · rintro ⟨h | h, h2⟩
      · exact absurd h h2
      · exact h
  | a :: r, j + 1, hj, hn => by
    simp only [List.nodup_cons] at hn
    have hj' : j < r.length := by simpa using hj
    have ih := mem_eraseIdx (x := x) r j hj' hn.2
    simp only [List.eraseIdx_cons_succ, List.mem_cons, List.getElem_cons_succ, ih]
    constructor
    · rintro (h | h)
      · subst h; exact ⟨.inl rfl, fun e => hn.1 (by rw [e]; exact List.getElem_mem (l := r) hj')⟩
      · exact ⟨.inr h.1, h.2⟩
    · rintro ⟨h | h, h2⟩
      · exact .inl h
      · exact .inr ⟨h, h2⟩
end
end Go.Proofs.YtfhapbggngdckaaGreat
