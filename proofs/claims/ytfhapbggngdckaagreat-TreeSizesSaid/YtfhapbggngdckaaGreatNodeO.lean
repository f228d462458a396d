/- Nodes of their own memory; a page, taken apart. -/
import Derived.Test.YtfhapbggngdckaaGreatTake
namespace Go.Proofs.YtfhapbggngdckaaGreat
set_option linter.unusedSimpArgs false
set_option linter.unusedVariables false
open Go.RowKit
/-- The memory of a node's elements: not its three arrays. -/
def Elm (B : Nat → Prop) (kv vv iv : Value) : Nat → Prop := fun b => B b ∧ kv.ownBlock ≠ some b ∧ vv.ownBlock ≠ some b ∧ iv.ownBlock ≠ some b
/-- A node whose arrays one may write. -/
structure NdO (w : World) (B : Nat → Prop) (kv vv iv : Value) (n : Nd) : Prop where
  keys : ∃ ks, Own w B 23 kv ks ∧ Els w (Elm B kv vv iv) ks n.keys
  vals : ∃ vs, Own w B 23 vv vs ∧ Els w (Elm B kv vv iv) vs n.vals
  kids : Own w B 3 iv (n.kids.map (Value.int .i64))
  ne : ∀ b, kv.ownBlock = some b → vv.ownBlock ≠ some b
section
variable {w w' : World} {B B' F : Nat → Prop} {l : List (List UInt8)} {vs : List Value} {kv vv iv kv' vv' iv' : Value} {n : Nd}
theorem NdO.r (h : NdO w B kv vv iv n) : NdR w B kv vv iv n := by
  obtain ⟨⟨ks, h1, h2⟩, ⟨vs, h3, h4⟩, h5, h6⟩ := h
  exact ⟨⟨ks, h1.rs, h2.more (fun b _ hb => hb.1)⟩, ⟨vs, h3.rs, h4.more (fun b _ hb => hb.1)⟩, h5.rs⟩
theorem NdO.keep (h : NdO w B kv vv iv n) (k : Keep F w w') (hn : ∀ b, b < w.heap.size → B b → ¬ F b) : NdO w' B kv vv iv n := by
  obtain ⟨⟨ks, h1, h2⟩, ⟨vs, h3, h4⟩, h5, h6⟩ := h
  exact ⟨⟨ks, h1.keep k (fun b hb e => hn b hb (h1.blk e).1), h2.keep k (fun b hb e => hn b hb e.1)⟩, ⟨vs, h3.keep k (fun b hb e => hn b hb (h3.blk e).1), h4.keep k (fun b hb e => hn b hb e.1)⟩, h5.keep k (fun b hb e => hn b hb (h5.blk e).1), h6⟩
theorem NdO.more (h : NdO w B kv vv iv n) (hB : ∀ b, b < w.heap.size → B b → B' b) : NdO w B' kv vv iv n := by
  obtain ⟨⟨ks, h1, h2⟩, ⟨vs, h3, h4⟩, h5, h6⟩ := h
  exact ⟨⟨ks, h1.more hB, h2.more (fun b hb e => ⟨hB b hb e.1, e.2⟩)⟩, ⟨vs, h3.more hB, h4.more (fun b hb e => ⟨hB b hb e.1, e.2⟩)⟩, h5.more hB, h6⟩
theorem NdO.nil (w : World) (B : Nat → Prop) (b : Bool) : NdO w B (.slice none 0 0) (.slice none 0 0) (.slice none 0 0) ⟨b, [], [], []⟩ :=
  ⟨⟨[], Own.nil _ _ _, Els.nil⟩, ⟨[], Own.nil _ _ _, Els.nil⟩, Own.nil _ _ _, fun b h => by simp [Value.ownBlock] at h⟩
/-- Where an array has gone. -/
def Moved (w : World) (v v' : Value) : Prop := v'.ownBlock = v.ownBlock ∨ ∃ g, v'.ownBlock = some g ∧ w.heap.size ≤ g
theorem Els.move (he : Els w (Elm B' kv vv iv) vs l) (hk : Keep F w w') (hF : ∀ b, Elm B' kv vv iv b → ¬ F b) (hE : ∀ b, b < w.heap.size → Elm B' kv vv iv b → Elm B' kv' vv' iv' b) : Els w' (Elm B' kv' vv' iv') vs l :=
  ((he.more (D' := fun b => Elm B' kv vv iv b ∧ b < w.heap.size) (fun b hb e => ⟨e, hb⟩)).keep hk (fun b _ e => hF b e.1)).more (fun b _ e => hE b e.2 e.1)
theorem Moved.ne (hm : Moved w kv kv') {b : Nat} (hb : b < w.heap.size) (e : kv.ownBlock ≠ some b) : kv'.ownBlock ≠ some b := by
  rcases hm with hm | ⟨g, hm, hg⟩
  · rw [hm]; exact e
  · rw [hm]; simp; omega
theorem NdO.newKeys (h : NdO w B kv vv iv n) (hk : Keep (fun k => kv.ownBlock = some k) w w') (hm : Moved w kv kv') (hB : ∀ b, b < w.heap.size → B b → B' b) {ks' : List Value} {keys' : List (List UInt8)}
    (ho : Own w' B' 23 kv' ks') (he : Els w (Elm B' kv vv iv) ks' keys') : NdO w' B' kv' vv iv { n with keys := keys' } := by
  obtain ⟨⟨ks, h1, h2⟩, ⟨vs, h3, h4⟩, h5, h6⟩ := h
  have hE : ∀ b, b < w.heap.size → Elm B' kv vv iv b → Elm B' kv' vv iv b := fun b hb e => ⟨e.1, hm.ne hb e.2.1, e.2.2⟩
  have hF : ∀ b, Elm B' kv vv iv b → ¬ kv.ownBlock = some b := fun b e => e.2.1
  refine ⟨⟨ks', ho, he.move hk hF hE⟩, ⟨vs, (h3.more hB).keep hk (fun b hb e => fun ek => h6 b ek e), (h4.more (fun b hb e => ⟨hB b hb e.1, e.2⟩)).move hk hF hE⟩, (h5.more hB).keep hk (fun b hb e => fun ek => h1.ne_of_type h5 (by decide) ek e), fun b eb ev => ?_⟩
  have hb := (h3.blk ev).2
  exact hm.ne hb (fun e => h6 b e ev) eb
theorem NdO.newVals (h : NdO w B kv vv iv n) (hk : Keep (fun k => vv.ownBlock = some k) w w') (hm : Moved w vv vv') (hB : ∀ b, b < w.heap.size → B b → B' b) {vs' : List Value} {vals' : List (List UInt8)}
    (ho : Own w' B' 23 vv' vs') (he : Els w (Elm B' kv vv iv) vs' vals') : NdO w' B' kv vv' iv { n with vals := vals' } := by
  obtain ⟨⟨ks, h1, h2⟩, ⟨vs, h3, h4⟩, h5, h6⟩ := h
  have hE : ∀ b, b < w.heap.size → Elm B' kv vv iv b → Elm B' kv vv' iv b := fun b hb e => ⟨e.1, e.2.1, hm.ne hb e.2.2.1, e.2.2.2⟩
  have hF : ∀ b, Elm B' kv vv iv b → ¬ vv.ownBlock = some b := fun b e => e.2.2.1
  refine ⟨⟨ks, (h1.more hB).keep hk (fun b hb e => h6 b e), (h2.more (fun b hb e => ⟨hB b hb e.1, e.2⟩)).move hk hF hE⟩, ⟨vs', ho, he.move hk hF hE⟩, (h5.more hB).keep hk (fun b hb e => fun ek => h3.ne_of_type h5 (by decide) ek e), fun b eb => ?_⟩
  exact hm.ne (h1.blk eb).2 (h6 b eb)
theorem NdO.newKids (h : NdO w B kv vv iv n) (hk : Keep (fun k => iv.ownBlock = some k) w w') (hm : Moved w iv iv') (hB : ∀ b, b < w.heap.size → B b → B' b) {kids' : List Int}
    (ho : Own w' B' 3 iv' (kids'.map (Value.int .i64))) : NdO w' B' kv vv iv' { n with kids := kids' } := by
  obtain ⟨⟨ks, h1, h2⟩, ⟨vs, h3, h4⟩, h5, h6⟩ := h
  have hE : ∀ b, b < w.heap.size → Elm B' kv vv iv b → Elm B' kv vv iv' b := fun b hb e => ⟨e.1, e.2.1, e.2.2.1, hm.ne hb e.2.2.2⟩
  have hF : ∀ b, Elm B' kv vv iv b → ¬ iv.ownBlock = some b := fun b e => e.2.2.2
  exact ⟨⟨ks, (h1.more hB).keep hk (fun b hb e => fun ek => h1.ne_of_type h5 (by decide) e ek), (h2.more (fun b hb e => ⟨hB b hb e.1, e.2⟩)).move hk hF hE⟩, ⟨vs, (h3.more hB).keep hk (fun b hb e => fun ek => h3.ne_of_type h5 (by decide) e ek), (h4.more (fun b hb e => ⟨hB b hb e.1, e.2⟩)).move hk hF hE⟩, ho, h6⟩
theorem NdO.forms (h : NdO w B kv vv iv n) : ∃ ko kc vo vc io ic, kv = .slice ko n.keys.length kc ∧ vv = .slice vo n.vals.length vc ∧ iv = .slice io n.kids.length ic := h.r.forms
/-- An element that was made just now: bytes of their own. -/
theorem NdO.fresh (h : NdO w B kv vv iv n) {c : Value} {b : List UInt8} (hc : Own w B' 5 c (b.map u8)) (hB : ∀ b, b < w.heap.size → B' b → B b) : BS w (Elm B kv vv iv) c b := by
  obtain ⟨⟨ks, h1, h2⟩, ⟨vs, h3, h4⟩, h5, h6⟩ := h
  exact (hc.rs').more (fun k hk e => ⟨hB k hk (hc.blk e).1, hc.ne_of_type h1 (by decide) e, hc.ne_of_type h3 (by decide) e, hc.ne_of_type h5 (by decide) e⟩)
end
theorem Nd.encN_pre (n : Nd) (i : Nat) : ∀ k, ∃ t, n.encN (i + k) = n.encN i ++ t
  | 0 => ⟨[], by simp⟩
  | k + 1 => by
    obtain ⟨t, ht⟩ := n.encN_pre i k
    exact ⟨t ++ n.encE (i + k), by rw [← Nat.add_assoc, Nd.encN, ht, List.append_assoc]⟩
def Nd.suf (n : Nd) (j : Nat) : List UInt8 := n.page.drop (n.base + n.sum j)
theorem Nd.page_pre (n : Nd) {i : Nat} (hi : i ≤ n.keys.length) : n.page = n.encN i ++ n.suf i := by
  obtain ⟨t, ht⟩ := n.encN_pre i (n.keys.length - i)
  rw [show i + (n.keys.length - i) = n.keys.length by omega] at ht
  unfold Nd.suf
  have hp : n.page = n.encN i ++ (t ++ List.replicate (1024 - n.enc.length) 0) := by
    unfold Nd.page pad Nd.enc
    rw [ht, List.append_assoc]
  rw [hp, ← n.length_encN i, List.drop_left]
theorem Nd.suf_step (n : Nd) {j : Nat} (hj : j < n.keys.length) : n.suf j = n.encE j ++ n.suf (j + 1) := by
  have h1 := n.page_pre (Nat.le_of_lt hj)
  have h2 := n.page_pre (show j + 1 ≤ n.keys.length from hj)
  rw [Nd.encN, List.append_assoc] at h2
  exact List.append_cancel_left (h1.symm.trans h2)
theorem Nd.length_page (n : Nd) (h : n.size ≤ 1024) : n.page.length = 1024 := length_pad (by rw [n.length_enc]; exact h)
theorem be1 {x : Nat} (h : x < 256) : be [UInt8.ofNat x] = x := by
  unfold be
  simp
  omega
theorem be16 {x : Nat} (h : x < 65536) : be (enc16 x) = x := by
  unfold be enc16
  simp
  omega
theorem be32 {x : Nat} (h : x < 4294967296) : be (enc32 x) = x := by
  unfold be enc32
  simp
  omega
theorem Nd.Sh.few {n : Nd} (h : n.Sh) (hl : n.keys.length ≤ 1000) : n.Few := by
  refine ⟨hl, ?_, ?_, ?_, ?_, ?_⟩
  · rcases hlf : n.leaf with _ | _
    · rw [(h.inn hlf).1]; simp
    · rw [(h.lf hlf).1]; exact hl
  · rcases hlf : n.leaf with _ | _
    · rw [(h.inn hlf).2.1]; omega
    · rw [(h.lf hlf).2.1]; simp
  · intro k hk
    obtain ⟨i, hi, rfl⟩ := List.getElem_of_mem hk
    have := (h.klen i hi).2
    omega
  · intro k hk
    rcases hlf : n.leaf with _ | _
    · rw [(h.inn hlf).1] at hk; simp at hk
    · have := (h.lf hlf).2.2 k hk; omega
  · intro hlf; exact (h.lf hlf).1
theorem Nd.sum_ge {n : Nd} (h : n.Sh) : ∀ i, i ≤ n.keys.length → 4 * i ≤ n.sum i
  | 0, _ => Nat.zero_le _
  | i + 1, hi => by
    have := n.sum_ge h i (by omega)
    rw [Nd.sum]
    have hk := (h.klen i (by omega)).1
    have : 4 ≤ n.ent i := by
      unfold Nd.ent Nd.klen
      rw [List.getD_eq_getElem?_getD, List.getElem?_eq_getElem (show i < n.keys.length by omega)]
      simp only [Option.getD_some]
      split <;> omega
    omega
theorem Nd.few_of {n : Nd} (h : n.Sh) (hz : n.size ≤ 4000) : n.Few := h.few (by
  have := n.sum_ge h n.keys.length (Nat.le_refl _)
  unfold Nd.size at hz
  omega)
theorem Nd.count_lt {n : Nd} (h : n.Sh) (hz : n.size ≤ 4000) : n.keys.length ≤ 1000 := by
  have := n.sum_ge h n.keys.length (Nat.le_refl _)
  unfold Nd.size at hz
  omega
end Go.Proofs.YtfhapbggngdckaaGreat
