/- A tree of a law's own: Put, Get, Count, told by the entries alone. -/
import Derived.Test.YtfhapbggngdckaaGreatCount
import Derived.Test.YtfhapbggngdckaaGreatSome
import Derived.Test.YtfhapbggngdckaaGreatOpen
namespace Go.Proofs.YtfhapbggngdckaaGreat
open Go.RowKit
/-- A tree of which all lies in blocks of B, which are new since w0: its entries; no page is used but its own. -/
structure TB (w0 : World) (B : Nat → Prop) (tb pb cnt K : Nat) (es : List Ent) (w : World) : Prop where
  it : ∃ F root st img k hgt ps, TrOK w F tb pb root st img k ∧ Top img root hgt ps es ∧ Has st ps ∧ k ≤ K ∧ st.length = cnt ∧ (∀ q, q < st.length → q ∉ ps → st[q]? = some 0) ∧ (∀ b, F b → B b) ∧ B tb ∧ Keep No w0 w
  low : ∀ b, B b → w0.heap.size ≤ b
/-- .. in any new blocks. -/
abbrev TS (w0 : World) (tb pb cnt K : Nat) (es : List Ent) (w : World) : Prop := TB w0 (From w0.heap.size) tb pb cnt K es w
/-- The blocks that there were between two worlds. -/
def Btw (w0 w : World) : Nat → Prop := fun b => w0.heap.size ≤ b ∧ b < w.heap.size
section
variable {w0 w w1 w' : World} {tb pb cnt K N : Nat} {es : List Ent} {kx vx : Value} {key val : Byt} {img : Nat → Byt} {root : Int} {hgt : Nat} {ps : List Nat}
theorem Top.small (ht : Top img root hgt ps es) : ps.length ≤ 2 * es.length ∧ (0 < hgt → 2 ^ (hgt - 1) ≤ es.length) := by
  rcases ht with ⟨_, rfl, rfl, rfl⟩ | ⟨h, p, rfl, rfl, hr⟩
  · exact ⟨by simp, fun h => by omega⟩
  · have h1 := hr.count
    have h2 := hr.tall
    exact ⟨by omega, fun _ => by simpa using h2⟩
theorem low_of_pow {h n : Nat} (hp : 0 < h → 2 ^ (h - 1) ≤ n) (hn : n ≤ 127) : h ≤ 7 := by
  rcases Nat.lt_or_ge 7 h with h1 | h1
  · have h2 := hp (by omega)
    have h3 : 2 ^ 7 ≤ 2 ^ (h - 1) := Nat.pow_le_pow_right (by omega) (by omega)
    omega
  · exact h1
theorem Top.full (ht : Top img root hgt ps es) (he : es ≠ []) : ps ≠ [] := by
  rcases ht with ⟨_, _, _, h⟩ | ⟨h, p, rfl, rfl, hr⟩
  · exact absurd h he
  · intro e
    subst e
    exact absurd hr.head (by simp)
variable {B B' : Nat → Prop}
theorem TB.mono (h : TB w0 B tb pb cnt K es w) (hm : ∀ b, B b → B' b) (hl : ∀ b, B' b → w0.heap.size ≤ b) : TB w0 B' tb pb cnt K es w := by
  obtain ⟨⟨F, root, st, img, k, hgt, ps, a1, a2, a3, a4, a5, a6, a7, a8, a9⟩, h2⟩ := h
  exact ⟨⟨F, root, st, img, k, hgt, ps, a1, a2, a3, a4, a5, a6, fun b e => hm b (a7 b e), hm _ a8, a9⟩, hl⟩
theorem TB.keep (h : TB w0 B tb pb cnt K es w) (hk : Keep No w w1) : TB w0 B tb pb cnt K es w1 := by
  obtain ⟨⟨F, root, st, img, k, hgt, ps, a1, a2, a3, a4, a5, a6, a7, a8, a9⟩, h2⟩ := h
  exact ⟨⟨F, root, st, img, k, hgt, ps, a1.step hk, a2, a3, a4, a5, a6, a7, a8, a9.next hk (fun _ e => e.elim)⟩, h2⟩
theorem TB.since (h : TB w0 B tb pb cnt K es w) : Keep No w0 w := by
  obtain ⟨⟨F, root, st, img, k, hgt, ps, a1, a2, a3, a4, a5, a6, a7, a8, a9⟩, h2⟩ := h
  exact a9
/-- What was there of B, and what is new. -/
def Nx (B : Nat → Prop) (w w1 : World) : Nat → Prop := fun b => (B b ∧ b < w.heap.size) ∨ w1.heap.size ≤ b
theorem TB.put (h : TB w0 B tb pb cnt K es w) (hk : Keep No w w1) (hkx : BS w1 (fun b => ¬ (B b ∧ b < w.heap.size)) kx key) (hvx : BS w1 (fun b => ¬ (B b ∧ b < w.heap.size)) vx val) (h1 : 1 ≤ key.length) (h2 : key.length ≤ 240) (h3 : val.length ≤ 260) (hn : es.length ≤ 100) (hr : 2 * es.length + 17 ≤ cnt) (hK : K < 1099511626000) :
    Calls Tryz.prog 30 #[.pointer (some ⟨tb, 0, none⟩), kx, vx] w1 fun e w' => e = .returned (.int .i64 0) ∧ TB w0 (Nx B w w1) tb pb cnt (K + 500) (insE es key val) w' ∧ Keep (fun b => B b ∧ b < w.heap.size) w1 w' := by
  obtain ⟨⟨F, root, st, img, k, hgt, ps, a1, a2, a3, a4, a5, a6, a7, a8, a9⟩, hlow⟩ := h
  have hlt : ∀ b, F b → b < w.heap.size := a1.pages.lt
  have hs := a2.small
  have hl := low_of_pow hs.2 (by omega)
  have hrm := roomOf_has ps a3 a6
  have htl : tb < w.heap.size := a1.lt
  have hF : ∀ b, ¬ (B b ∧ b < w.heap.size) → ¬ F b := fun b e f => e ⟨a7 b f, hlt b f⟩
  refine (tput_any (a1.step hk) a2 a3 (by omega) (by omega) (by omega) (hkx.more fun b _ e => hF b e) (hvx.more fun b _ e => hF b e) h1 h2 h3).mono fun e w' ⟨he, ht⟩ => ⟨he, ?_⟩
  obtain ⟨⟨root', F', st', img', k', b1, b2, b3, b4, ⟨⟨hgt', ps', b5, b6⟩⟩⟩⟩ := ht
  have hsz := a9.size
  have hsz2 := hk.size
  refine ⟨⟨⟨F', root', st', img', k', hgt', ps', b1, b5, b6.has, by omega, b6.len.trans a5, fun q hq hn => ?_, fun b hb => ?_, .inl ⟨a8, htl⟩, ?_⟩, fun b hb => ?_⟩, b3.mono fun b _ e => ?_⟩
  · rw [b6.len] at hq
    by_cases hm : q ∈ ps
    · exact b6.gone q hm hn
    · rw [b6.same q hm hn]; exact a6 q hq hm
  · rcases b4 b hb with e | e
    · exact .inl ⟨a7 b e, hlt b e⟩
    · exact .inr e
  · refine (a9.next hk (fun _ e => e.elim)).next b3 (fun b e => .inl ?_)
    rcases e with e | e
    · exact hlow b (a7 b e)
    · subst e; exact hlow _ a8
  · rcases hb with e | e
    · exact hlow b e.1
    · omega
  · rcases e with e | e
    · exact ⟨a7 b e, hlt b e⟩
    · subst e; exact ⟨a8, htl⟩
theorem TB.get (h : TB w0 B tb pb cnt K es w) (hk : Keep No w w1) (hkx : BS w1 (fun b => ¬ (B b ∧ b < w.heap.size)) kx key) (hn : es.length ≤ 100) (hK : K < 1099511626000) :
    Calls Tryz.prog 32 #[.pointer (some ⟨tb, 0, none⟩), kx] w1 fun e w' => ∃ v, e = .returned (.tuple #[v, .bool (lookE es key).isSome, .int .i64 0]) ∧ TB w0 (Nx B w w1) tb pb cnt (K + 40) es w' ∧ Keep (fun b => B b ∧ b < w.heap.size) w1 w' ∧ (∀ b, lookE es key = some b → BS w' (From w1.heap.size) v b) := by
  obtain ⟨⟨F, root, st, img, k, hgt, ps, a1, a2, a3, a4, a5, a6, a7, a8, a9⟩, hlow⟩ := h
  have hlt : ∀ b, F b → b < w.heap.size := a1.pages.lt
  have hs := a2.small
  have hl := low_of_pow hs.2 (by omega)
  have htl : tb < w.heap.size := a1.lt
  have hF : ∀ b, ¬ (B b ∧ b < w.heap.size) → ¬ F b := fun b e f => e ⟨a7 b f, hlt b f⟩
  refine (tget_any (a1.step hk) a2 a3 (by omega) (by omega) (hkx.more fun b _ e => hF b e)).mono fun e w' ⟨v, he, ht⟩ => ⟨v, he, ?_⟩
  obtain ⟨⟨⟨F', st', img', k', b1, b2, b3, b4, ⟨rfl, rfl⟩, b5⟩⟩⟩ := ht
  have hsz := a9.size
  have hsz2 := hk.size
  refine ⟨⟨⟨F', root, st', img', k', hgt, ps, b1, a2, a3, by omega, a5, a6, fun b hb => ?_, .inl ⟨a8, htl⟩, ?_⟩, fun b hb => ?_⟩, b3.mono fun b _ e => ⟨a7 b e, hlt b e⟩, fun b hb => (b5 b hb).more fun x _ e => e.1⟩
  · rcases b4 b hb with e | e
    · exact .inl ⟨a7 b e, hlt b e⟩
    · exact .inr e
  · exact (a9.next hk (fun _ e => e.elim)).next b3 (fun b e => .inl (hlow b (a7 b e)))
  · rcases hb with e | e
    · exact hlow b e.1
    · omega
theorem TB.count (h : TB w0 B tb pb cnt K es w) (he : es ≠ []) (hn : es.length ≤ 100) (hK : K < 1099500000000) :
    Calls Tryz.prog 33 #[.pointer (some ⟨tb, 0, none⟩)] w fun e w' => e = .returned (.tuple #[.int .i64 es.length, .int .i64 0]) ∧ TB w0 (Nx B w w) tb pb cnt (K + 1600) es w' ∧ Keep (fun b => B b ∧ b < w.heap.size) w w' := by
  obtain ⟨⟨F, root, st, img, k, hgt, ps, a1, a2, a3, a4, a5, a6, a7, a8, a9⟩, hlow⟩ := h
  have hlt : ∀ b, F b → b < w.heap.size := a1.pages.lt
  have hs := a2.small
  have hl := low_of_pow hs.2 (by omega)
  have htl : tb < w.heap.size := a1.lt
  refine (tcount_any a1 a2 a3 (a2.full he) (by omega) (by omega) (by omega) (by omega)).mono fun e w' ⟨he, ht⟩ => ⟨he, ?_⟩
  obtain ⟨⟨F', st', img', k', b1, b2, b3, b4, ⟨rfl, rfl⟩⟩⟩ := ht
  have hsz := a9.size
  refine ⟨⟨⟨F', root, st', img', k', hgt, ps, b1, a2, a3, by omega, a5, a6, fun b hb => ?_, .inl ⟨a8, htl⟩, ?_⟩, fun b hb => ?_⟩, b3.mono fun b _ e => ⟨a7 b e, hlt b e⟩⟩
  · rcases b4 b hb with e | e
    · exact .inl ⟨a7 b e, hlt b e⟩
    · exact .inr e
  · exact a9.next b3 (fun b e => .inl (hlow b (a7 b e)))
  · rcases hb with e | e
    · exact hlow b e.1
    · omega
theorem Nx.from (hs : w0.heap.size ≤ w1.heap.size) : ∀ b, Nx (From w0.heap.size) w w1 b → From w0.heap.size b := fun b e => by
  rcases e with e | e
  · exact e.1
  · exact Nat.le_trans hs e
theorem TS.put (h : TS w0 tb pb cnt K es w) (hk : Keep No w w1) (hkx : BS w1 (From w.heap.size) kx key) (hvx : BS w1 (From w.heap.size) vx val) (h1 : 1 ≤ key.length) (h2 : key.length ≤ 240) (h3 : val.length ≤ 260) (hn : es.length ≤ 100) (hr : 2 * es.length + 17 ≤ cnt) (hK : K < 1099511626000) :
    Calls Tryz.prog 30 #[.pointer (some ⟨tb, 0, none⟩), kx, vx] w1 fun e w' => e = .returned (.int .i64 0) ∧ TS w0 tb pb cnt (K + 500) (insE es key val) w' ∧ Keep (Btw w0 w) w1 w' := by
  have hs : w0.heap.size ≤ w1.heap.size := Nat.le_trans h.since.size hk.size
  have hF : ∀ b, From w.heap.size b → ¬ (From w0.heap.size b ∧ b < w.heap.size) := fun b e f => by
    have e2 : w.heap.size ≤ b := e
    have := f.2
    omega
  exact (TB.put h hk (hkx.more fun b _ e => hF b e) (hvx.more fun b _ e => hF b e) h1 h2 h3 hn hr hK).mono fun e w' ⟨he, ht, hk'⟩ => ⟨he, ht.mono (Nx.from hs) (fun _ e => e), hk'⟩
theorem TS.get (h : TS w0 tb pb cnt K es w) (hk : Keep No w w1) (hkx : BS w1 (From w.heap.size) kx key) (hn : es.length ≤ 100) (hK : K < 1099511626000) :
    Calls Tryz.prog 32 #[.pointer (some ⟨tb, 0, none⟩), kx] w1 fun e w' => ∃ v, e = .returned (.tuple #[v, .bool (lookE es key).isSome, .int .i64 0]) ∧ TS w0 tb pb cnt (K + 40) es w' ∧ Keep (Btw w0 w) w1 w' ∧ (∀ b, lookE es key = some b → BS w' (From w1.heap.size) v b) := by
  have hs : w0.heap.size ≤ w1.heap.size := Nat.le_trans h.since.size hk.size
  have hF : ∀ b, From w.heap.size b → ¬ (From w0.heap.size b ∧ b < w.heap.size) := fun b e f => by
    have e2 : w.heap.size ≤ b := e
    have := f.2
    omega
  exact (TB.get h hk (hkx.more fun b _ e => hF b e) hn hK).mono fun e w' ⟨v, he, ht, hk', hb⟩ => ⟨v, he, ht.mono (Nx.from hs) (fun _ e => e), hk', hb⟩
/-- A new tree on new pages. -/
theorem TS.start {w2 : World} (ho : Opened w0 cnt pb w) (hr : Row w2 tb 136 [.pointer (some ⟨pb, 0, none⟩), .int .i64 (-1)]) (hk : Keep No w w2) (ht : w.heap.size ≤ tb) : TS w0 tb pb cnt 0 [] w2 := by
  obtain ⟨⟨F, h1, h2, h3⟩⟩ := ho
  have hs := h2.size
  refine ⟨⟨F, -1, List.replicate cnt 0, fun _ => [], 0, 0, [], ⟨h1.keep hk (fun _ _ h => h), hr, fun f => ?_⟩, .inl ⟨rfl, rfl, rfl, rfl⟩, ⟨List.nodup_nil, fun q hq => by simp at hq⟩, Nat.le_refl _, by simp, fun q hq _ => ?_, h3, Nat.le_trans hs ht, h2.next hk (fun _ e => e.elim)⟩, fun _ e => e⟩
  · have := h1.lt _ f
    omega
  · rw [List.getElem?_eq_getElem hq]; simp
end
end Go.Proofs.YtfhapbggngdckaaGreat
