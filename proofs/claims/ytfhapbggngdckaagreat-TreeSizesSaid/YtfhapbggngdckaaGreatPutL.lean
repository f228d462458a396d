/- Trees: two inserts in one statement. -/
import Derived.Test.YtfhapbggngdckaaGreatLay
namespace Go.Proofs.YtfhapbggngdckaaGreat
open Go.RowKit
section
variable {X Y Z : World} {B F : Nat → Prop} {kv vv iv : Value} {n : Nd} {b12 : Nat}
/-- A node in its box, and all that it holds. -/
structure InBox (B : Nat → Prop) (b : Nat) (n : Nd) (Y : World) : Prop where
  it : ∃ kv vv iv, Row Y b 144 [.bool n.leaf, kv, vv, iv] ∧ NdO Y B kv vv iv n
theorem row1 (X : World) (T : TypeId) (x : Value) : Row (X.alloc (.cells #[x] T)) X.heap.size T [x] := Row.new X T [x]
theorem row2 (X : World) (o : Obj) (T : TypeId) (x : Value) : Row ((X.alloc o).alloc (.cells #[x] T)) (X.heap.size + 1) T [x] := by
  have h := Row.new (X.alloc o) T [x]
  rw [show (X.alloc o).heap.size = X.heap.size + 1 by simp] at h
  exact h
theorem row3 (X : World) (o : Obj) (T : TypeId) (x : Value) : Row ((X.alloc (.cells #[x] T)).alloc o) X.heap.size T [x] := (Row.new X T [x]).alloc o
/-- A call on a tree, in the middle of a function that has boxes of its own. -/
theorem TT.wrap {w wc w5 w6 : World} {F F1 G : Nat → Prop} {tb pb : Nat} {root : Int} {k k1 c1 c2 : Nat} {X Y : World → (Nat → Prop) → List Int → (Nat → Byt) → Prop} (hkp : Keep F w wc) (hg : ∀ b, F1 b → F b ∨ w.heap.size ≤ b) (hk1 : k1 ≤ k + c1) (t : TT wc F1 tb pb root k1 c2 X w5) (k2 : Keep G w5 w6)
    (hG : ∀ b, G b → w.heap.size ≤ b ∧ b < wc.heap.size ∧ ¬ F1 b) (htb : tb < w.heap.size) (hX : ∀ F2 st2 img2, (∀ b, F2 b → F1 b ∨ wc.heap.size ≤ b) → (∀ b, F2 b → b < w5.heap.size) → X w5 F2 st2 img2 → Y w6 F2 st2 img2) : TT w F tb pb root k (c1 + c2) Y w6 := by
  obtain ⟨⟨F2, st2, img2, k2', ht, hk2, hkp2, hg2, hx⟩⟩ := t
  have hs := hkp.size
  have hF2 : ∀ b, F2 b → ¬ G b := fun b hb e => by
    have h1 := hG b e
    rcases hg2 b hb with e2 | e2
    · exact h1.2.2 e2
    · omega
  refine ⟨F2, st2, img2, k2', ⟨ht.pages.keep k2 hF2, ht.row.keep k2 (fun e => by have := (hG _ e).1; omega), ht.out⟩, by omega, (hkp.next hkp2 (fun b e => (hg b e).symm)).next k2 (fun b e => .inl (hG b e).1), fun b hb => ?_, hX F2 st2 img2 hg2 ht.pages.lt hx⟩
  rcases hg2 b hb with e | e
  · exact hg b e
  · exact .inr (by omega)
theorem take_ins (l : List Value) (i : Nat) (x : Value) (h : i ≤ l.length) : (l.take i ++ (x :: l.drop i)).length = l.length + 1 := by simp; omega
set_option maxHeartbeats 400000 in
/-- A key is put among a node's keys. -/
theorem keys_ins (h : NdO X B kv vv iv n) (hB : ∀ b, X.heap.size ≤ b → B b) {i : Nat} (hi : i ≤ n.keys.length) (hl : n.keys.length ≤ 1000) {x : Value} {key : Byt} (hx : BS X (Elm B kv vv iv) x key) (Y : World) (vb : Nat) (hk : Keep No X Y) (hb : X.heap.size ≤ vb) (hr : Row Y vb 23 [x]) :
    Calls Tryz.prog 76 #[kv, .int .i64 i, .slice (some ⟨vb, 0, none⟩) 1 1] Y fun e w' => ∃ ao ac, e = .returned (.slice ao (n.keys.length + 1) ac) ∧ NdO w' B (.slice ao (n.keys.length + 1) ac) vv iv { n with keys := n.keys.take i ++ (key :: n.keys.drop i) } ∧ Keep (fun b => kv.ownBlock = some b) Y w' ∧ Moved X kv (.slice ao (n.keys.length + 1) ac) := by
  obtain ⟨ks, h1, h2⟩ := h.keys
  have hone : Cells1 [x] := (Els.one hx).cells1
  refine (insert_BB Y B kv ks i x vb (h1.keep hk (fun _ _ _ h => h)) h2.cells1 (hone x (by simp)) hr (fun e => by have := (h1.blk e).2; omega) (by rw [h2.1]; exact hi) (by rw [h2.1]; omega)).mono fun e w' => ?_
  rintro ⟨v', rfl, h3, h4, h5⟩
  have hs := hk.size
  obtain ⟨ao, ac, e1⟩ := h3.form
  rw [take_ins _ _ _ (by rw [h2.1]; exact hi), h2.1] at e1
  subst e1
  refine ⟨ao, ac, rfl, h.newKeys (hk.any _ |>.trans h4 (fun _ _ h => h)) ?_ (fun _ _ h => h) (h3.more (fun k _ e => e.elim id (fun e => hB k (by omega)))) ((h2.take i).append ((Els.one hx).append (h2.drop i))), h4, ?_⟩
  all_goals
    rcases h5 with h5 | ⟨k, h5, h6⟩
    · exact .inl h5
    · exact .inr ⟨k, h5, by omega⟩
set_option maxHeartbeats 400000 in
theorem vals_ins (h : NdO X B kv vv iv n) (hB : ∀ b, X.heap.size ≤ b → B b) {i : Nat} (hi : i ≤ n.vals.length) (hl : n.vals.length ≤ 1000) {x : Value} {val : Byt} (hx : BS X (Elm B kv vv iv) x val) (Y : World) (vb : Nat) (hk : Keep No X Y) (hr : Row Y vb 23 [x]) (hne : vv.ownBlock ≠ some vb) :
    Calls Tryz.prog 76 #[vv, .int .i64 i, .slice (some ⟨vb, 0, none⟩) 1 1] Y fun e w' => ∃ ao ac, e = .returned (.slice ao (n.vals.length + 1) ac) ∧ NdO w' B kv (.slice ao (n.vals.length + 1) ac) iv { n with vals := n.vals.take i ++ (val :: n.vals.drop i) } ∧ Keep (fun b => vv.ownBlock = some b) Y w' ∧ Moved X vv (.slice ao (n.vals.length + 1) ac) := by
  obtain ⟨vs, h1, h2⟩ := h.vals
  have hone : Cells1 [x] := (Els.one hx).cells1
  refine (insert_BB Y B vv vs i x vb (h1.keep hk (fun _ _ _ h => h)) h2.cells1 (hone x (by simp)) hr hne (by rw [h2.1]; exact hi) (by rw [h2.1]; omega)).mono fun e w' => ?_
  rintro ⟨v', rfl, h3, h4, h5⟩
  have hs := hk.size
  obtain ⟨ao, ac, e1⟩ := h3.form
  rw [take_ins _ _ _ (by rw [h2.1]; exact hi), h2.1] at e1
  subst e1
  refine ⟨ao, ac, rfl, h.newVals (hk.any _ |>.trans h4 (fun _ _ h => h)) ?_ (fun _ _ h => h) (h3.more (fun k _ e => e.elim id (fun e => hB k (by omega)))) ((h2.take i).append ((Els.one hx).append (h2.drop i))), h4, ?_⟩
  all_goals
    rcases h5 with h5 | ⟨k, h5, h6⟩
    · exact .inl h5
    · exact .inr ⟨k, h5, by omega⟩
set_option maxHeartbeats 400000 in
theorem kids_ins (h : NdO X B kv vv iv n) (hB : ∀ b, X.heap.size ≤ b → B b) {i : Nat} (hi : i ≤ n.kids.length) (hl : n.kids.length ≤ 1001) {x : Int} (Y : World) (vb : Nat) (hk : Keep No X Y) (hr : Row Y vb 3 [.int .i64 x]) (hne : iv.ownBlock ≠ some vb) :
    Calls Tryz.prog 77 #[iv, .int .i64 i, .slice (some ⟨vb, 0, none⟩) 1 1] Y fun e w' => ∃ ao ac, e = .returned (.slice ao (n.kids.length + 1) ac) ∧ NdO w' B kv vv (.slice ao (n.kids.length + 1) ac) { n with kids := n.kids.take i ++ (x :: n.kids.drop i) } ∧ Keep (fun b => iv.ownBlock = some b) Y w' ∧ Moved X iv (.slice ao (n.kids.length + 1) ac) := by
  have h1 := h.kids
  refine (insert_I Y B iv _ i (.int .i64 x) vb (h1.keep hk (fun _ _ _ h => h)) (cells1_int _ _) rfl hr hne (by rw [List.length_map]; exact hi) (by rw [List.length_map]; omega)).mono fun e w' => ?_
  rintro ⟨v', rfl, h3, h4, h5⟩
  have hs := hk.size
  have he : (n.kids.map (Value.int .i64)).take i ++ (Value.int .i64 x :: (n.kids.map (Value.int .i64)).drop i) = (n.kids.take i ++ (x :: n.kids.drop i)).map (Value.int .i64) := by simp
  rw [he] at h3
  obtain ⟨ao, ac, e1⟩ := h3.form
  rw [List.length_map, show (n.kids.take i ++ (x :: n.kids.drop i)).length = n.kids.length + 1 by simp; omega] at e1
  subst e1
  refine ⟨ao, ac, rfl, h.newKids (hk.any _ |>.trans h4 (fun _ _ h => h)) ?_ (fun _ _ h => h) (h3.more (fun k _ e => e.elim id (fun e => hB k (by omega)))), h4, ?_⟩
  all_goals
    rcases h5 with h5 | ⟨k, h5, h6⟩
    · exact .inl h5
    · exact .inr ⟨k, h5, by omega⟩
end
end Go.Proofs.YtfhapbggngdckaaGreat
