/- Nodes: Read, of a page that a node was written as. -/
import Derived.Test.YtfhapbggngdckaaGreatNodeO
import Derived.Laws.ResultCell
import Derived.Laws.Rows
namespace Go.Proofs.YtfhapbggngdckaaGreat
set_option linter.unusedSimpArgs false
set_option linter.unusedVariables false
open Go.RowKit
section
variable {w : World} {D : Nat → Prop} {v : Value} {a r : List UInt8} {b : Nat}
structure Rest (w : World) (D : Nat → Prop) (b : Nat) (r : List UInt8) (w' : World) : Prop where
  rest : ∃ v', Row w' b 23 [v'] ∧ BS w' D v' r
  keep : Keep (Just b) w w'
theorem take_pre (n : Nat) (hb : Row w b 23 [v]) (h : BS w D v (a ++ r)) (hD : ¬ D b) (ha : a.length = n) (hl : (a ++ r).length ≤ 100000) :
    Calls Tryz.prog 117 #[.pointer (some ⟨b, 0, none⟩), .int .i64 n] w fun e w' => ∃ c, e = .returned (.tuple #[c, .bool true]) ∧ Rest w D b r w' ∧ Own w' (From w.heap.size) 5 c (a.map u8) := by
  refine (take_any hb h hD n (by rw [List.length_append]; omega) hl).mono ?_
  rintro e w' ⟨c, rfl, ht⟩
  have h1 := ht.rest
  have h2 := ht.own
  rw [List.drop_left' ha] at h1
  rw [List.take_left' ha] at h2
  exact ⟨c, rfl, ⟨h1, ht.keep⟩, h2⟩
theorem number_pre (n : Nat) (hb : Row w b 23 [v]) (h : BS w D v (a ++ r)) (hD : ¬ D b) (ha : a.length = n) (hl : (a ++ r).length ≤ 100000) (hn : n ≤ 4) :
    Calls Tryz.prog 116 #[.pointer (some ⟨b, 0, none⟩), .int .i64 n] w fun e w' => e = .returned (.int .i64 (be a)) ∧ Rest w D b r w' := by
  refine (number_any hb h hD n (by rw [List.length_append]; omega) hl hn).mono ?_
  rintro e w' ⟨rfl, c, ht⟩
  have h1 := ht.rest
  rw [List.drop_left' ha] at h1
  rw [List.take_left' ha]
  exact ⟨rfl, ⟨h1, ht.keep⟩⟩
end
section
variable {w : World} {B : Nat → Prop} {kv vv iv : Value} {n : Nd}
theorem Moved.of {w0 w : World} {v v' : Value} (h : v'.ownBlock = v.ownBlock ∨ v'.ownBlock = some w.heap.size) (hs : w0.heap.size ≤ w.heap.size) : Moved w0 v v' := by
  rcases h with h | h
  · exact .inl h
  · exact .inr ⟨_, h, hs⟩
theorem NdO.push_key (h : NdO w B kv vv iv n) {c : Value} {b : List UInt8} (hc : BS w (Elm B kv vv iv) c b) (hB : ∀ k, w.heap.size ≤ k → B k) (hl : n.keys.length ≤ 1000) :
    ∃ ao cap w', (Builtin.append_ #[115, 115] 115 #[kv, .slice (some ⟨w.heap.size, 0, none⟩) 1 1]).run Tryz.prog (w.alloc (.cells #[c] 23)) = .ok (.slice ao (n.keys.length + 1) cap) w' ∧
      NdO w' B (.slice ao (n.keys.length + 1) cap) vv iv { n with keys := n.keys ++ [b] } ∧ Keep (fun k => kv.ownBlock = some k) w w' ∧ Moved w kv (.slice ao (n.keys.length + 1) cap) := by
  have hk := (Keep.refl No w).alloc (.cells #[c] 23)
  have h1 := h.keep hk (fun _ _ _ h => h)
  have hc1 := hc.keep hk (fun _ _ _ h => h)
  obtain ⟨ks, ho, he⟩ := h1.keys
  have hlen := he.1
  obtain ⟨v', w', hrun, ho', hk', hm⟩ := run_append etBB 115 ho (rs_box w 23 c) (Els.one hc1).cells1 (by decide) (by simp only [List.length_cons, List.length_nil]; omega)
  obtain ⟨ao, cap, hf⟩ := ho'.form
  rw [List.length_append, hlen] at hf
  simp only [List.length_cons, List.length_nil, Nat.zero_add] at hf
  subst hf
  refine ⟨ao, cap, w', hrun, ?_, (hk.any _).trans hk' (fun _ _ h => h), Moved.of hm hk.size⟩
  exact h1.newKeys hk' (Moved.of hm (Nat.le_refl _)) (fun _ _ h => h) (ho'.more (fun k _ h => h.elim id (fun h => hB k (Nat.le_trans hk.size h)))) (he.append (Els.one hc1))
theorem NdO.push_val (h : NdO w B kv vv iv n) {c : Value} {b : List UInt8} (hc : BS w (Elm B kv vv iv) c b) (hB : ∀ k, w.heap.size ≤ k → B k) (hl : n.vals.length ≤ 1000) :
    ∃ ao cap w', (Builtin.append_ #[115, 115] 115 #[vv, .slice (some ⟨w.heap.size, 0, none⟩) 1 1]).run Tryz.prog (w.alloc (.cells #[c] 23)) = .ok (.slice ao (n.vals.length + 1) cap) w' ∧
      NdO w' B kv (.slice ao (n.vals.length + 1) cap) iv { n with vals := n.vals ++ [b] } ∧ Keep (fun k => vv.ownBlock = some k) w w' ∧ Moved w vv (.slice ao (n.vals.length + 1) cap) := by
  have hk := (Keep.refl No w).alloc (.cells #[c] 23)
  have h1 := h.keep hk (fun _ _ _ h => h)
  have hc1 := hc.keep hk (fun _ _ _ h => h)
  obtain ⟨ks, ho, he⟩ := h1.vals
  have hlen := he.1
  obtain ⟨v', w', hrun, ho', hk', hm⟩ := run_append etBB 115 ho (rs_box w 23 c) (Els.one hc1).cells1 (by decide) (by simp only [List.length_cons, List.length_nil]; omega)
  obtain ⟨ao, cap, hf⟩ := ho'.form
  rw [List.length_append, hlen] at hf
  simp only [List.length_cons, List.length_nil, Nat.zero_add] at hf
  subst hf
  refine ⟨ao, cap, w', hrun, ?_, (hk.any _).trans hk' (fun _ _ h => h), Moved.of hm hk.size⟩
  exact h1.newVals hk' (Moved.of hm (Nat.le_refl _)) (fun _ _ h => h) (ho'.more (fun k _ h => h.elim id (fun h => hB k (Nat.le_trans hk.size h)))) (he.append (Els.one hc1))
theorem NdO.push_kid (h : NdO w B kv vv iv n) (x : Int) (hB : ∀ k, w.heap.size ≤ k → B k) (hl : n.kids.length ≤ 1000) :
    ∃ ao cap w', (Builtin.append_ #[62, 62] 62 #[iv, .slice (some ⟨w.heap.size, 0, none⟩) 1 1]).run Tryz.prog (w.alloc (.cells #[.int .i64 x] 3)) = .ok (.slice ao (n.kids.length + 1) cap) w' ∧
      NdO w' B kv vv (.slice ao (n.kids.length + 1) cap) { n with kids := n.kids ++ [x] } ∧ Keep (fun k => iv.ownBlock = some k) w w' ∧ Moved w iv (.slice ao (n.kids.length + 1) cap) := by
  have hk := (Keep.refl No w).alloc (.cells #[.int .i64 x] 3)
  have h1 := h.keep hk (fun _ _ _ h => h)
  have ho := h1.kids
  obtain ⟨v', w', hrun, ho', hk', hm⟩ := run_append etI 62 ho (rs_box w 3 (.int .i64 x)) (cells1_int .i64 [x]) (by decide) (by simp only [List.length_map, List.length_cons, List.length_nil]; omega)
  obtain ⟨ao, cap, hf⟩ := ho'.form
  rw [List.length_append, List.length_map] at hf
  simp only [List.length_cons, List.length_nil, Nat.zero_add] at hf
  subst hf
  refine ⟨ao, cap, w', hrun, ?_, (hk.any _).trans hk' (fun _ _ h => h), Moved.of hm hk.size⟩
  exact h1.newKids hk' (Moved.of hm (Nat.le_refl _)) (fun _ _ h => h) (by rw [List.map_append]; exact ho'.more (fun k _ h => h.elim id (fun h => hB k (Nat.le_trans hk.size h))))
end
/-- A node's cells at N, its memory behind. -/
structure NRow (w : World) (N : Nat) (kv vv iv : Value) (n : Nd) : Prop where
  row : Row w N 144 [.bool n.leaf, kv, vv, iv]
  node : NdO w (From (N + 1)) kv vv iv n
section
variable {w w' : World} {F : Nat → Prop} {kv vv iv : Value} {n : Nd} {N : Nat}
theorem NRow.keep (h : NRow w N kv vv iv n) (hk : Keep F w w') (hF : ∀ b, N ≤ b → ¬ F b) : NRow w' N kv vv iv n :=
  ⟨h.row.keep hk (hF N (Nat.le_refl _)), h.node.keep hk (fun b _ hb => hF b (by unfold From at hb; omega))⟩
theorem NRow.push_key (h : NRow w N kv vv iv n) {c : Value} {b : List UInt8} (hc : BS w (Elm (From (N + 1)) kv vv iv) c b) (hl : n.keys.length ≤ 1000) :
    ∃ ao cap w1, (Builtin.append_ #[115, 115] 115 #[kv, .slice (some ⟨w.heap.size, 0, none⟩) 1 1]).run Tryz.prog (w.alloc (.cells #[c] 23)) = .ok (.slice ao (n.keys.length + 1) cap) w1 ∧
      w1.frozen? ⟨N, 1, none⟩ = false ∧ w1.cell? ⟨N, 1, none⟩ = some kv ∧ NRow (w1.setCell ⟨N, 1, none⟩ (.slice ao (n.keys.length + 1) cap)) N (.slice ao (n.keys.length + 1) cap) vv iv { n with keys := n.keys ++ [b] } ∧
      Keep (fun k => N ≤ k) w (w1.setCell ⟨N, 1, none⟩ (.slice ao (n.keys.length + 1) cap)) ∧ (∀ c' b', BS w (Elm (From (N + 1)) kv vv iv) c' b' → BS (w1.setCell ⟨N, 1, none⟩ (.slice ao (n.keys.length + 1) cap)) (Elm (From (N + 1)) (.slice ao (n.keys.length + 1) cap) vv iv) c' b') := by
  have hN := h.row.lt
  obtain ⟨ao, cap, w1, hrun, h1, h2, hm⟩ := h.node.push_key hc (fun k hk => by unfold From; omega) hl
  have hb : ∀ k, kv.ownBlock = some k → N < k := fun k e => by
    have := h.node.keys
    obtain ⟨_, ho, _⟩ := this
    exact (ho.blk e).1
  have hr := h.row.keep h2 (fun e => by have := hb _ e; omega)
  have hr2 := hr.set 1 (.slice ao (n.keys.length + 1) cap)
  simp only [List.set_cons_succ, List.set_cons_zero] at hr2
  have hk : Keep (Just N) w1 (w1.setCell ⟨N, 1, none⟩ (.slice ao (n.keys.length + 1) cap)) := (Keep.refl (Just N) w1).setCell (p := ⟨N, 1, none⟩) (fun _ => rfl) _
  refine ⟨ao, cap, w1, hrun, hr.frozen 1, hr.cell 1, ⟨hr2, h1.keep hk (fun b _ hb e => by unfold Just at e; unfold From at hb; omega)⟩, ?_⟩
  refine ⟨(h2.mono (fun k _ e => Nat.le_of_lt (hb k e))).trans (hk.mono (G := fun k => N ≤ k) (fun k _ e => by unfold Just at e; omega)) (fun _ _ h => h), fun c' b' hc' => ?_⟩
  exact (((hc'.more (D' := fun b => Elm (From (N + 1)) kv vv iv b ∧ b < w.heap.size) (fun b hb e => ⟨e, hb⟩)).keep h2 (fun b _ e => e.1.2.1)).keep hk (fun b _ e h => by have := e.1.1; unfold Just at h; unfold From at this; omega)).more (fun b _ e => ⟨e.1.1, hm.ne e.2 e.1.2.1, e.1.2.2⟩)
theorem NRow.push_val (h : NRow w N kv vv iv n) {c : Value} {b : List UInt8} (hc : BS w (Elm (From (N + 1)) kv vv iv) c b) (hl : n.vals.length ≤ 1000) :
    ∃ ao cap w1, (Builtin.append_ #[115, 115] 115 #[vv, .slice (some ⟨w.heap.size, 0, none⟩) 1 1]).run Tryz.prog (w.alloc (.cells #[c] 23)) = .ok (.slice ao (n.vals.length + 1) cap) w1 ∧
      w1.frozen? ⟨N, 2, none⟩ = false ∧ w1.cell? ⟨N, 2, none⟩ = some vv ∧ NRow (w1.setCell ⟨N, 2, none⟩ (.slice ao (n.vals.length + 1) cap)) N kv (.slice ao (n.vals.length + 1) cap) iv { n with vals := n.vals ++ [b] } ∧
      Keep (fun k => N ≤ k) w (w1.setCell ⟨N, 2, none⟩ (.slice ao (n.vals.length + 1) cap)) ∧ (∀ c' b', BS w (Elm (From (N + 1)) kv vv iv) c' b' → BS (w1.setCell ⟨N, 2, none⟩ (.slice ao (n.vals.length + 1) cap)) (Elm (From (N + 1)) kv (.slice ao (n.vals.length + 1) cap) iv) c' b') := by
  have hN := h.row.lt
  obtain ⟨ao, cap, w1, hrun, h1, h2, hm⟩ := h.node.push_val hc (fun k hk => by unfold From; omega) hl
  have hb : ∀ k, vv.ownBlock = some k → N < k := fun k e => by
    have := h.node.vals
    obtain ⟨_, ho, _⟩ := this
    exact (ho.blk e).1
  have hr := h.row.keep h2 (fun e => by have := hb _ e; omega)
  have hr2 := hr.set 2 (.slice ao (n.vals.length + 1) cap)
  simp only [List.set_cons_succ, List.set_cons_zero] at hr2
  have hk : Keep (Just N) w1 (w1.setCell ⟨N, 2, none⟩ (.slice ao (n.vals.length + 1) cap)) := (Keep.refl (Just N) w1).setCell (p := ⟨N, 2, none⟩) (fun _ => rfl) _
  refine ⟨ao, cap, w1, hrun, hr.frozen 2, hr.cell 2, ⟨hr2, h1.keep hk (fun b _ hb e => by unfold Just at e; unfold From at hb; omega)⟩, ?_⟩
  refine ⟨(h2.mono (fun k _ e => Nat.le_of_lt (hb k e))).trans (hk.mono (G := fun k => N ≤ k) (fun k _ e => by unfold Just at e; omega)) (fun _ _ h => h), fun c' b' hc' => ?_⟩
  exact (((hc'.more (D' := fun b => Elm (From (N + 1)) kv vv iv b ∧ b < w.heap.size) (fun b hb e => ⟨e, hb⟩)).keep h2 (fun b _ e => e.1.2.2.1)).keep hk (fun b _ e h => by have := e.1.1; unfold Just at h; unfold From at this; omega)).more (fun b _ e => ⟨e.1.1, e.1.2.1, hm.ne e.2 e.1.2.2.1, e.1.2.2.2⟩)
theorem NRow.push_kid (h : NRow w N kv vv iv n) (x : Int) (hl : n.kids.length ≤ 1000) :
    ∃ ao cap w1, (Builtin.append_ #[62, 62] 62 #[iv, .slice (some ⟨w.heap.size, 0, none⟩) 1 1]).run Tryz.prog (w.alloc (.cells #[.int .i64 x] 3)) = .ok (.slice ao (n.kids.length + 1) cap) w1 ∧
      w1.frozen? ⟨N, 3, none⟩ = false ∧ w1.cell? ⟨N, 3, none⟩ = some iv ∧ NRow (w1.setCell ⟨N, 3, none⟩ (.slice ao (n.kids.length + 1) cap)) N kv vv (.slice ao (n.kids.length + 1) cap) { n with kids := n.kids ++ [x] } ∧
      Keep (fun k => N ≤ k) w (w1.setCell ⟨N, 3, none⟩ (.slice ao (n.kids.length + 1) cap)) ∧ (∀ c' b', BS w (Elm (From (N + 1)) kv vv iv) c' b' → BS (w1.setCell ⟨N, 3, none⟩ (.slice ao (n.kids.length + 1) cap)) (Elm (From (N + 1)) kv vv (.slice ao (n.kids.length + 1) cap)) c' b') := by
  have hN := h.row.lt
  obtain ⟨ao, cap, w1, hrun, h1, h2, hm⟩ := h.node.push_kid x (fun k hk => by unfold From; omega) hl
  have hb : ∀ k, iv.ownBlock = some k → N < k := fun k e => by
    have := h.node.kids
    have ho := this
    exact (ho.blk e).1
  have hr := h.row.keep h2 (fun e => by have := hb _ e; omega)
  have hr2 := hr.set 3 (.slice ao (n.kids.length + 1) cap)
  simp only [List.set_cons_succ, List.set_cons_zero] at hr2
  have hk : Keep (Just N) w1 (w1.setCell ⟨N, 3, none⟩ (.slice ao (n.kids.length + 1) cap)) := (Keep.refl (Just N) w1).setCell (p := ⟨N, 3, none⟩) (fun _ => rfl) _
  refine ⟨ao, cap, w1, hrun, hr.frozen 3, hr.cell 3, ⟨hr2, h1.keep hk (fun b _ hb e => by unfold Just at e; unfold From at hb; omega)⟩, ?_⟩
  refine ⟨(h2.mono (fun k _ e => Nat.le_of_lt (hb k e))).trans (hk.mono (G := fun k => N ≤ k) (fun k _ e => by unfold Just at e; omega)) (fun _ _ h => h), fun c' b' hc' => ?_⟩
  exact (((hc'.more (D' := fun b => Elm (From (N + 1)) kv vv iv b ∧ b < w.heap.size) (fun b hb e => ⟨e, hb⟩)).keep h2 (fun b _ e => e.1.2.2.2)).keep hk (fun b _ e h => by have := e.1.1; unfold Just at h; unfold From at this; omega)).more (fun b _ e => ⟨e.1.1, e.1.2.1, e.1.2.2.1, hm.ne e.2 e.1.2.2.2⟩)
end
/-- While Read goes: the result's cells, what is left of the page. -/
structure RInv (w : World) (r : List UInt8) (wr : World) : Prop where
  keep : Keep No w wr
  srow : Row wr w.heap.size 144 [.bool false, .slice none 0 0, .slice none 0 0, .slice none 0 0]
  rest : ∃ v', Row wr (w.heap.size + 1) 23 [v'] ∧ BS wr (fun b => b < w.heap.size) v' r
section
variable {w wr w' : World} {a r : List UInt8}
theorem RInv.drewN (h : RInv w r wr) (n : Nat) : RInv w r (wr.drewN n) := by
  obtain ⟨h1, h2, h3⟩ := h
  exact ⟨h1.drewN n, h2, h3⟩
theorem RInv.next (h : RInv w r wr) (hk : Keep (Just (w.heap.size + 1)) wr w') {r' : List UInt8} (hr : ∃ v', Row w' (w.heap.size + 1) 23 [v'] ∧ BS w' (fun b => b < w.heap.size) v' r') : RInv w r' w' :=
  ⟨h.keep.trans hk (fun i hi e => by unfold Just at e; omega), h.srow.keep hk (fun e => by unfold Just at e; omega), hr⟩
theorem RInv.on (h : RInv w r wr) {F : Nat → Prop} (hk : Keep F wr w') (hF : ∀ b, F b → w.heap.size + 2 ≤ b) : RInv w r w' := by
  obtain ⟨h1, h2, v, h3, h4⟩ := h
  exact ⟨h1.trans hk (fun i hi e => by have := hF i e; omega), h2.keep hk (fun e => by have := hF _ e; omega), v, h3.keep hk (fun e => by have := hF _ e; omega), h4.keep hk (fun b _ hb e => by have := hF _ e; omega)⟩
theorem RInv.number (h : RInv w (a ++ r) wr) (n : Nat) (ha : a.length = n) (hl : (a ++ r).length ≤ 100000) (hn : n ≤ 4) :
    Calls Tryz.prog 116 #[.pointer (some ⟨w.heap.size + 1, 0, none⟩), .int .i64 n] wr fun e w' => e = .returned (.int .i64 (be a)) ∧ RInv w r w' ∧ Keep (Just (w.heap.size + 1)) wr w' := by
  obtain ⟨v, h3, h4⟩ := h.rest
  refine (number_pre n h3 h4 (by omega) ha hl hn).mono ?_
  rintro e w' ⟨rfl, h5⟩
  exact ⟨rfl, h.next h5.keep h5.rest, h5.keep⟩
theorem RInv.number1 {x : Nat} (hx : x < 256) (h : RInv w ([UInt8.ofNat x] ++ r) wr) (hl : r.length ≤ 1024) :
    Calls Tryz.prog 116 #[.pointer (some ⟨w.heap.size + 1, 0, none⟩), .int .i64 1] wr fun e w' => e = .returned (.int .i64 x) ∧ RInv w r w' ∧ Keep (Just (w.heap.size + 1)) wr w' := by
  have := h.number 1 rfl (by simp; omega) (by omega)
  rwa [be1 hx] at this
theorem RInv.number2 {x : Nat} (hx : x < 65536) (h : RInv w (enc16 x ++ r) wr) (hl : r.length ≤ 1024) :
    Calls Tryz.prog 116 #[.pointer (some ⟨w.heap.size + 1, 0, none⟩), .int .i64 2] wr fun e w' => e = .returned (.int .i64 x) ∧ RInv w r w' ∧ Keep (Just (w.heap.size + 1)) wr w' := by
  have := h.number 2 (len16 x) (by rw [List.length_append, len16]; omega) (by omega)
  rwa [be16 hx] at this
theorem RInv.number4 {x : Nat} (hx : x < 4294967296) (h : RInv w (enc32 x ++ r) wr) (hl : r.length ≤ 1024) :
    Calls Tryz.prog 116 #[.pointer (some ⟨w.heap.size + 1, 0, none⟩), .int .i64 4] wr fun e w' => e = .returned (.int .i64 x) ∧ RInv w r w' ∧ Keep (Just (w.heap.size + 1)) wr w' := by
  have := h.number 4 (len32 x) (by rw [List.length_append, len32]; omega) (by omega)
  rwa [be32 hx] at this
theorem RInv.take (h : RInv w (a ++ r) wr) (n : Nat) (ha : a.length = n) (hl : (a ++ r).length ≤ 100000) :
    Calls Tryz.prog 117 #[.pointer (some ⟨w.heap.size + 1, 0, none⟩), .int .i64 n] wr fun e w' => ∃ c, e = .returned (.tuple #[c, .bool true]) ∧ RInv w r w' ∧ Keep (Just (w.heap.size + 1)) wr w' ∧ Own w' (From wr.heap.size) 5 c (a.map u8) := by
  obtain ⟨v, h3, h4⟩ := h.rest
  refine (take_pre n h3 h4 (by omega) ha hl).mono ?_
  rintro e w' ⟨c, rfl, h5, h6⟩
  exact ⟨c, rfl, h.next h5.keep h5.rest, h5.keep, h6⟩
end
/-- The loop of Read: so many entries have been read; the node's cells lie at N. -/
structure RLoop (w : World) (n : Nd) (N j : Nat) (wr : World) : Prop where
  inv : RInv w (n.suf j) wr
  big : w.heap.size + 2 ≤ N
  node : ∃ kv vv iv, NRow wr N kv vv iv ⟨n.leaf, n.keys.take j, n.vals.take j, n.kids.take (if n.leaf then 0 else j + 1)⟩
/-- A node by value among the results. -/
theorem ret_node_tmp {fn : Func} {p u : Tmp} (h : fn.results = #[.cell p 144, .tmp u]) (tmps : Array Value) {w : World} {g : Nat} {a b c d : Value} (hr : Row w g 144 [a, b, c, d]) (hp : tmps.getD p undef = .pointer (some ⟨g, 0, none⟩)) :
    (results fn tmps).run Tryz.prog w = .ok (.tuple #[.agg #[a, b, c, d], tmps.getD u undef]) w := by
  have hl := run_loadVar_row (P := Tryz.prog) w g 144 144 #[a, b, c, d] (0, 0) _ hr Tryz.underlying144 rfl (by kernel_rfl)
  rw [results_cell_tmp h, hp]
  simp [asAddr, hl, Result.andThen]
/-- What Read leaves. -/
structure ReadTo (w : World) (kv vv iv : Value) (n : Nd) (w' : World) : Prop where
  node : NdO w' (From w.heap.size) kv vv iv n
  keep : Keep No w w'
section
variable {w : World} {D : Nat → Prop} {v : Value} {n : Nd}
set_option maxRecDepth 20000 in
set_option maxHeartbeats 6000000 in
theorem read_nd (h : BS w D v n.page) (hs : n.Sh) (hz : n.size ≤ 1024) :
    Calls Tryz.prog 83 #[v] w fun e w' => ∃ kv vv iv, e = .returned (.tuple #[.agg #[.bool n.leaf, kv, vv, iv], .int .i64 0]) ∧ ReadTo w kv vv iv n w' := by
  have H := Lib.hid (h.more (D' := fun b => b < w.heap.size) (fun b hb _ => hb))
  have HS := Lib.hid hs
  have HZ := Lib.hid hz
  have hcnt := Nd.count_lt hs (by omega)
  have HP := Lib.hid (n.page_pre (Nat.zero_le _))
  have HLP := Lib.hid (n.length_page hz)
  obtain ⟨vo, vc, rfl, lv, _⟩ := h.form
  rw [HLP.out] at H lv ⊢
  clear h hs hz
  rcases hlf : n.leaf with _ | _
  · have HPG : Hid (n.page = [UInt8.ofNat 2] ++ (enc16 n.keys.length ++ (enc32 (n.kid 0) ++ n.suf 0))) := by
      have := HP.out
      unfold Nd.encN Nd.head at this
      rw [hlf] at this
      show _ = _
      simpa using this
    have HHL := Lib.hid hlf
    clear hlf
    have hkb : ∀ i (h : i < n.kids.length), n.kids[i] = ((n.kid i : Nat) : Int) ∧ n.kid i ≤ 2147483647 := fun i h => by
      have := (HS.out.inn HHL.out).2.2 _ (List.getElem_mem h)
      unfold Nd.kid
      rw [List.getD_eq_getElem?_getD, List.getElem?_eq_getElem h]
      simp only [Option.getD_some]
      omega
    have HKL := Lib.hid (HS.out.inn HHL.out).2.1
    have HKB := Lib.hid hkb
    have hk0b := (HKB.out 0 (by have := HKL.out; omega)).2
    clear hkb
    go_enter Tryz.func83, Tryz.ntmps83
    go_upto_region 2 with fail
    obtain ⟨W, hW⟩ : ∃ W, W = ((w.alloc (.cells #[.bool false, .slice none 0 0, .slice none 0 0, .slice none 0 0] 144)).alloc (.cells #[.slice vo 1024 vc] 23)) := ⟨_, rfl⟩
    have HI : Hid (RInv w ([UInt8.ofNat 2] ++ (enc16 n.keys.length ++ (enc32 (n.kid 0) ++ n.suf 0))) W) := by
      have k1 := (Keep.refl No w).alloc (.cells #[.bool false, .slice none 0 0, .slice none 0 0, .slice none 0 0] 144)
      have r1 := Row.new w 144 [.bool false, .slice none 0 0, .slice none 0 0, .slice none 0 0]
      have k2 := (Keep.refl No (w.alloc (.cells #[.bool false, .slice none 0 0, .slice none 0 0, .slice none 0 0] 144))).alloc (.cells #[.slice vo 1024 vc] 23)
      have r2 := Row.new (w.alloc (.cells #[.bool false, .slice none 0 0, .slice none 0 0, .slice none 0 0] 144)) 23 [.slice vo 1024 vc]
      have r1' := r1.keep k2 (fun h => h)
      have hs : (w.alloc (.cells #[.bool false, .slice none 0 0, .slice none 0 0, .slice none 0 0] 144)).heap.size = w.heap.size + 1 := by simp
      rw [hs] at r2
      rw [hW, ← HPG.out]
      exact ⟨k1.trans k2 (fun _ _ h => h), r1', _, r2, H.out.keep (k1.trans k2 (fun _ _ h => h)) (fun _ _ _ h => h)⟩
    rw [← hW]
    clear hW
    have HLS : Hid (∀ j, (n.suf j).length ≤ 1024) := fun j => by
      unfold Nd.suf; rw [List.length_drop, HLP.out]; omega
    have HLH : Hid ((enc16 n.keys.length ++ (enc32 (n.kid 0) ++ n.suf 0)).length ≤ 1024) := by
      show _ ≤ _
      have h1 := HLP.out
      rw [HPG.out, List.length_append] at h1
      simp only [List.length_cons, List.length_nil] at h1
      omega
    have HLH2 : Hid ((enc32 (n.kid 0) ++ n.suf 0).length ≤ 1024) := by
      have h1 := HLH.out
      rw [List.length_append] at h1
      show _ ≤ _
      omega
    have HN1 : Hid (Calls Tryz.prog 116 #[.pointer (some ⟨w.heap.size + 1, 0, none⟩), .int .i64 1] W fun e w' => e = .returned (.int .i64 2) ∧ RInv w (enc16 n.keys.length ++ (enc32 (n.kid 0) ++ n.suf 0)) w' ∧ Keep (Just (w.heap.size + 1)) W w') :=
      RInv.number1 (x := 2) (r := enc16 n.keys.length ++ (enc32 (n.kid 0) ++ n.suf 0)) (by omega) HI.out HLH.out
    go_upto_region 3 with (go_at_call 116; refine HN1.out.mono ?_; rintro e w1 ⟨rfl, hi1, hk1⟩; have HI1 := Lib.hid hi1; clear hi1 hk1)
    go_upto_region 5 with (go_at_call 116; refine (RInv.number2 (x := n.keys.length) (r := enc32 (n.kid 0) ++ n.suf 0) (by omega) HI1.out HLH2.out).mono ?_; rintro e w2 ⟨rfl, hi2, hk2⟩; have HI2 := Lib.hid hi2; clear hi2 hk2)
    have HS2 : Hid (w.heap.size + 2 ≤ w2.heap.size) := by
      have := HI2.out.rest
      obtain ⟨_, hr, _⟩ := this
      have := hr.lt
      show _ ≤ _
      omega
    obtain ⟨W3, hW3⟩ : ∃ W3, W3 = w2.alloc (.cells #[.bool false, .slice none 0 0, .slice none 0 0, .slice none 0 0] 144) := ⟨_, rfl⟩
    have HI3 : Hid (RInv w (enc32 (n.kid 0) ++ n.suf 0) W3 ∧ NRow W3 w2.heap.size (.slice none 0 0) (.slice none 0 0) (.slice none 0 0) ⟨false, [], [], []⟩) := by
      have hk := (Keep.refl No w2).alloc (.cells #[.bool false, .slice none 0 0, .slice none 0 0, .slice none 0 0] 144)
      rw [← hW3] at hk
      refine ⟨HI2.out.on hk (fun _ h => h.elim), ⟨?_, NdO.nil _ _ _⟩⟩
      rw [hW3]; exact Row.new w2 _ [_, _, _, _]
    have g0 : W3.cell? ⟨w2.heap.size, 0, none⟩ = some (.bool false) := by rw [hW3]; exact (Row.new w2 _ [_, _, _, _]).cell 0
    have g3 : W3.cell? ⟨w2.heap.size, 3, none⟩ = some (.slice none 0 0) := by rw [hW3]; exact (Row.new w2 _ [_, _, _, _]).cell 3
    rw [← hW3]
    clear hW3
    have HN : Hid (∃ N, N = w2.heap.size) := ⟨_, rfl⟩
    generalize w2.heap.size = N at *
    have nB : Hid (∀ b, N ≤ b → ¬ Just (w.heap.size + 1) b) := fun b h e => by have := HS2.out; unfold Just at e; omega
    go_upto_region 6 with fail
    go_region_law? (first
      | (go_simp; go_at_call 116; refine (RInv.number4 (x := n.kid 0) (r := n.suf 0) (by omega) (by first | exact HI3.out.1 | exact HI3.out.1.drewN 1) (HLS.out 0)).mono ?_; rintro e w3 ⟨rfl, hi3, hk3⟩; have HIA := Lib.hid hi3; have HK3 : Hid (Keep (Just (w.heap.size + 1)) W3 w3) := ⟨hk3.os, hk3.tape, hk3.output, hk3.size, hk3.block⟩; have HRA := Lib.hid (HI3.out.2.keep HK3.out nB.out); have h3 := HRA.out.row.cell 3; have h3a := (HRA.out.row.alloc (.cells #[.int .i64 ((n.kid 0 : Nat) : Int)] 3)).cell 3; simp only [List.getElem?_cons_zero, List.getElem?_cons_succ] at h3 h3a; obtain ⟨ao, cap, w4, hrun, f4, x4, hr4, hk4, _⟩ := HRA.out.push_kid ((n.kid 0 : Nat) : Int) (by simp); simp only [List.length_nil, Nat.zero_add] at hrun f4 x4 hr4 hk4; have HRUN := Lib.hid hrun; have HR4 := Lib.hid hr4; have HK4 := Lib.hid hk4; clear hi3 hk3 hrun hr4 hk4)
      | (refine step_append_eq (v := .slice none 0 0) (u := .slice (some ⟨w3.heap.size, 0, none⟩) 1 1) rfl (.tmp 26) (.tmp 28) rfl (by simp [Act.eval, Act.put]) (by simp [Act.eval, Act.put]) HRUN.out ?_))
    all_goals
      go_wp2_with fail
      generalize hW4 : w4.setCell ⟨N, 3, none⟩ (.slice ao 1 cap) = W4 at *
      clear hW4
      have HL0 : Hid (RLoop w n N 0 W4) := by
        refine ⟨HIA.out.on HK4.out (fun b h => by have := HS2.out; omega), HS2.out, .slice none 0 0, .slice none 0 0, .slice ao 1 cap, ?_⟩
        have := HR4.out
        rw [HHL.out]
        have hk : n.kids.take 1 = [((n.kid 0 : Nat) : Int)] := by
          have h0 : 0 < n.kids.length := by have := HKL.out; omega
          rw [List.take_succ_eq_append_getElem h0, (HKB.out 0 h0).1]
          rfl
        simp only [Bool.false_eq_true, if_false, List.take_zero, Nat.zero_add, hk]
        exact this
      go_loopw [32] (fun i wr => ∃ j : Nat, j ≤ n.keys.length ∧ i = .int .i64 j ∧ Hid (RLoop w n N j wr)) (fun i _ => n.keys.length - (intOf i).toNat)
      case atStart => exact ⟨0, Nat.zero_le _, rfl, HL0.out⟩
      case round =>
        obtain ⟨j, hj, rfl, HLJ⟩ := hrel
        obtain ⟨hinv, hbig, kv, vv, iv, hnr⟩ := HLJ.out
        obtain ⟨ko, kc, vo', vc', io, ic, rfl, rfl, rfl⟩ := hnr.node.forms
        have hlk : (n.keys.take j).length = j := by rw [List.length_take]; omega
        have hlv : (n.vals.take j).length = 0 := by rw [(HS.out.inn HHL.out).1]; simp
        have hli : (n.kids.take (j + 1)).length = j + 1 := by rw [List.length_take, HKL.out]; omega
        rw [HHL.out] at hnr
        simp only [Bool.false_eq_true, if_false, hlk, hlv, hli] at hnr
        have HLK := Lib.hid hlk
        have HLI := Lib.hid hli
        clear hlk hlv hli
        by_cases hlt : j < n.keys.length
        · have hik : j + 1 < n.kids.length := by rw [HKL.out]; omega
          have hk1 := HS.out.klen j hlt
          have hkk := (HKB.out (j + 1) hik).2
          have hst : n.suf j = [UInt8.ofNat n.keys[j].length] ++ (n.keys[j] ++ ([] ++ (enc32 (n.kid (j + 1)) ++ n.suf (j + 1)))) := by
            rw [n.suf_step hlt]
            unfold Nd.encE Nd.key
            rw [HHL.out, List.getD_eq_getElem?_getD, List.getElem?_eq_getElem hlt]
            simp
          have hls := HLS.out j
          rw [hst] at hinv hls
          simp only [List.length_append, List.length_cons, List.length_nil, len32] at hls
          have HA := Lib.hid hinv
          have HR := Lib.hid hnr
          clear hst hinv hnr
          go_upto_region 10 with (go_at_call 116; refine (RInv.number1 (x := n.keys[j].length) (r := n.keys[j] ++ ([] ++ (enc32 (n.kid (j + 1)) ++ n.suf (j + 1)))) (by omega) HA.out (by simp only [List.length_append, List.length_nil, len32]; omega)).mono ?_; rintro e wa ⟨rfl, hia, hka⟩; have HIB := Lib.hid hia; have HKA := Lib.hid hka; clear hia hka)
          have HRA := Lib.hid (HR.out.keep HKA.out nB.out)
          have ca := HRA.out.row.cell 0
          simp only [List.getElem?_cons_zero] at ca
          go_upto_region 13 with (go_at_call 117; refine (RInv.take (a := n.keys[j]) (r := [] ++ (enc32 (n.kid (j + 1)) ++ n.suf (j + 1))) HIB.out n.keys[j].length rfl (by simp only [List.length_append, List.length_nil, len32]; omega)).mono ?_; rintro e wc ⟨ck, rfl, hic, hkc, hoc⟩; obtain ⟨cko, ckc, hfc⟩ := hoc.form; rw [List.length_map] at hfc; subst hfc; have HIC := Lib.hid hic; have HKC := Lib.hid hkc; have HOC := Lib.hid hoc; clear hic hkc hoc)
          have HRC := Lib.hid (HRA.out.keep HKC.out nB.out)
          have HT0 := Lib.hid (RInv.take (a := []) (r := enc32 (n.kid (j + 1)) ++ n.suf (j + 1)) HIC.out 0 rfl (by simp only [List.length_append, List.length_nil, len32]; omega))
          go_upto_region 14 with (go_at_call 117; refine HT0.out.mono ?_; rintro e wd ⟨cv, rfl, hid, hkd, hod⟩; obtain ⟨cvo, cvc, hfv⟩ := hod.form; rw [List.length_map] at hfv; subst hfv; have HID := Lib.hid hid; have HKD := Lib.hid hkd; have HOD := Lib.hid hod; clear hid hkd hod)
          have HRD := Lib.hid (HRC.out.keep HKD.out nB.out)
          have hsz : Hid (N < wa.heap.size ∧ wa.heap.size ≤ wc.heap.size ∧ wc.heap.size ≤ wd.heap.size) := ⟨HRA.out.row.lt, HKC.out.size, HKD.out.size⟩
          have HOC2 : Hid (Own wd (From wa.heap.size) 5 (.slice cko n.keys[j].length ckc) (n.keys[j].map Go.Proofs.YtfhapbggngdckaaGreat.u8)) := HOC.out.keep HKD.out (fun b hb e h => by
            have h1 := (HOC.out.blk e).1
            have h2 := HIB.out.rest
            obtain ⟨_, h3, _⟩ := h2
            have h4 := h3.lt
            unfold Just at h; unfold From at h1; omega)
          have HEK := Lib.hid (HRD.out.node.fresh HOC2.out (fun b _ h => by have := hsz.out; unfold From at *; omega))
          obtain ⟨ao1, cap1, we, hrun, f1, x1, hre, hke, _⟩ := HRD.out.push_key HEK.out (by rw [HLK.out]; omega)
          simp only [HLK.out] at hrun f1 x1 hre hke
          have c1 := HRD.out.row.cell 1
          simp only [List.getElem?_cons_zero, List.getElem?_cons_succ] at c1
          have HRE := Lib.hid hre
          have HKE := Lib.hid hke
          have HRUN1 := Lib.hid hrun
          clear hre hke hrun
          go_upto_region 17 with (at_builtin; refine wpList_append_eq rfl _ _ rfl rfl rfl HRUN1.out ?_)
          generalize hWx : we.setCell ⟨N, 1, none⟩ (.slice ao1 (j + 1) cap1) = wx at *
          clear hWx
          have d0 := HRE.out.row.cell 0
          have d3 := HRE.out.row.cell 3
          simp only [List.getElem?_cons_zero, List.getElem?_cons_succ] at d0 d3
          have HIX := Lib.hid (HID.out.on HKE.out (fun b h => by omega))
          go_upto_region 19 with fail
          go_region_law (first
            | (go_simp; go_at_call 116; refine (RInv.number4 (x := n.kid (j + 1)) (r := n.suf (j + 1)) (by omega) (by first | exact HIX.out | exact HIX.out.drewN 1) (HLS.out (j + 1))).mono ?_; rintro e wy ⟨rfl, hiy, hky⟩; have HIY := Lib.hid hiy; have HKY : Hid (Keep (Just (w.heap.size + 1)) wx wy) := ⟨hky.os, hky.tape, hky.output, hky.size, hky.block⟩; have HRY := Lib.hid (HRE.out.keep HKY.out nB.out); have q3 := HRY.out.row.cell 3; have q3a := (HRY.out.row.alloc (.cells #[.int .i64 ((n.kid (j + 1) : Nat) : Int)] 3)).cell 3; simp only [List.getElem?_cons_zero, List.getElem?_cons_succ] at q3 q3a; obtain ⟨ao2, cap2, wz, hrun, f2, x2, hrz, hkz, _⟩ := HRY.out.push_kid ((n.kid (j + 1) : Nat) : Int) (by rw [HLI.out]; omega); simp only [HLI.out] at hrun f2 x2 hrz hkz; have HRUN2 := Lib.hid hrun; have HRZ := Lib.hid hrz; have HKZ := Lib.hid hkz; clear hiy hky hrun hrz hkz)
            | (refine step_append_eq (v := .slice io (j + 1) ic) (u := .slice (some ⟨wy.heap.size, 0, none⟩) 1 1) rfl (.tmp 70) (.tmp 72) rfl (by simp [Act.eval, Act.put]) (by simp [Act.eval, Act.put]) HRUN2.out ?_))
          all_goals
            go_wp2_with fail
            go_roundw
            case rel =>
              refine ⟨j + 1, by omega, by go_num, ⟨(HIY.out.on HKZ.out (fun b h => by omega)), hbig, .slice ao1 (j + 1) cap1, .slice vo' 0 vc', .slice ao2 (j + 1 + 1) cap2, ?_⟩⟩
              have := HRZ.out
              rw [HHL.out, List.take_succ_eq_append_getElem hlt]
              have hkz : n.kids.take (j + 1 + 1) = n.kids.take (j + 1) ++ [((n.kid (j + 1) : Nat) : Int)] := by
                rw [List.take_succ_eq_append_getElem hik, (HKB.out (j + 1) hik).1]
              have hvz : n.vals.take (j + 1) = n.vals.take j := by rw [(HS.out.inn HHL.out).1]; simp
              simp only [Bool.false_eq_true, if_false, hkz, hvz]
              exact this
            case measure => simp [intOf]; omega
        · obtain rfl : j = n.keys.length := by omega
          have hiv : n.vals = [] := (HS.out.inn HHL.out).1
          rw [List.take_length, show n.vals.take n.keys.length = n.vals by rw [hiv]; simp, List.take_of_length_le (by rw [HKL.out]; omega)] at hnr
          have HEQ : Hid ((⟨false, n.keys, n.vals, n.kids⟩ : Nd) = n) := by
            show _ = _
            obtain ⟨a, b, c, d⟩ := n
            have := HHL.out
            simp only at this
            rw [this]
          rw [HEQ.out] at hnr
          have HNR := Lib.hid hnr
          have HIJ := Lib.hid hinv
          have c0 := hnr.row.cell 0
          have c1 := hnr.row.cell 1
          have c2 := hnr.row.cell 2
          have c3 := hnr.row.cell 3
          simp only [List.getElem?_cons_zero, List.getElem?_cons_succ] at c0 c1 c2 c3
          clear hnr hinv hiv
          have HW := Lib.hid (write_nd HNR.out.node.r (Nd.few_of HS.out (by have := HZ.out; omega)) HS.out HZ.out)
          rw [HHL.out] at HW c0
          go_upto_region 22 with (go_at_call 78; refine HW.out.mono ?_; rintro e wy ⟨pv, rfl, hky, hoy⟩; have HKY := Lib.hid hky; have HOY := Lib.hid hoy; clear hky hoy)
          have HNY := Lib.hid (HNR.out.keep HKY.out (fun _ _ h => h))
          have HIY := Lib.hid (HIJ.out.on HKY.out (fun _ h => h.elim))
          have y0 := HNY.out.row.cell 0
          have y1 := HNY.out.row.cell 1
          have y2 := HNY.out.row.cell 2
          have y3 := HNY.out.row.cell 3
          simp only [List.getElem?_cons_zero, List.getElem?_cons_succ] at y0 y1 y2 y3
          rw [HHL.out] at y0
          have z0 := HIY.out.srow.frozen 0
          have z1 := HIY.out.srow.frozen 1
          have z2 := HIY.out.srow.frozen 2
          have z3 := HIY.out.srow.frozen 3
          have s0 := HIY.out.srow.cell 0
          have s1 := HIY.out.srow.cell 1
          have s2 := HIY.out.srow.cell 2
          have s3 := HIY.out.srow.cell 3
          simp only [List.getElem?_cons_zero, List.getElem?_cons_succ] at s0 s1 s2 s3
          have hE := equal_B (H.out.keep (F := No) HIY.out.keep (fun _ _ _ h => h)) (show BS wy _ pv n.page from HOY.out.rs)
          rw [decide_eq_true rfl] at hE
          have HE := Lib.hid hE
          clear hE
          go_wp2_with (go_at_call 71; refine HE.out.mono ?_; rintro e wz ⟨rfl, rfl⟩)
          have hrow := (((HIY.out.srow.set 0 (.bool false)).set 1 (.slice ko n.keys.length kc)).set 2 (.slice vo' 0 vc')).set 3 (.slice io (n.keys.length + 1) ic)
          simp only [List.set_cons_zero, List.set_cons_succ] at hrow
          refine bodyPost_ret (ret_node_tmp rfl _ hrow rfl) rfl ?_
          refine ⟨_, _, _, rfl, ?_⟩
          have hk4 : Keep (Just w.heap.size) wz ((((wz.setCell ⟨w.heap.size, 0, none⟩ (.bool false)).setCell ⟨w.heap.size, 1, none⟩ (.slice ko n.keys.length kc)).setCell ⟨w.heap.size, 2, none⟩ (.slice vo' 0 vc')).setCell ⟨w.heap.size, 3, none⟩ (.slice io (n.keys.length + 1) ic)) :=
            (((((Keep.refl (Just w.heap.size) wz).setCell (p := ⟨w.heap.size, 0, none⟩) (fun _ => rfl) _).setCell (p := ⟨w.heap.size, 1, none⟩) (fun _ => rfl) _).setCell (p := ⟨w.heap.size, 2, none⟩) (fun _ => rfl) _).setCell (p := ⟨w.heap.size, 3, none⟩) (fun _ => rfl) _)
          refine ⟨(HNY.out.node.keep hk4 (fun b _ hb e => by unfold Just at e; unfold From at hb; omega)).more (fun b _ hb => by unfold From at *; omega), HIY.out.keep.trans hk4 (fun i hi e => by unfold Just at e; omega)⟩
  · have HPG : Hid (n.page = [UInt8.ofNat 1] ++ (enc16 n.keys.length ++ n.suf 0)) := by
      have := HP.out
      unfold Nd.encN Nd.head at this
      rw [hlf] at this
      show _ = _
      simpa using this
    have HHL := Lib.hid hlf
    clear hlf
    go_enter Tryz.func83, Tryz.ntmps83
    go_upto_region 2 with fail
    obtain ⟨W, hW⟩ : ∃ W, W = ((w.alloc (.cells #[.bool false, .slice none 0 0, .slice none 0 0, .slice none 0 0] 144)).alloc (.cells #[.slice vo 1024 vc] 23)) := ⟨_, rfl⟩
    have HI : Hid (RInv w ([UInt8.ofNat 1] ++ (enc16 n.keys.length ++ n.suf 0)) W) := by
      have k1 := (Keep.refl No w).alloc (.cells #[.bool false, .slice none 0 0, .slice none 0 0, .slice none 0 0] 144)
      have r1 := Row.new w 144 [.bool false, .slice none 0 0, .slice none 0 0, .slice none 0 0]
      have k2 := (Keep.refl No (w.alloc (.cells #[.bool false, .slice none 0 0, .slice none 0 0, .slice none 0 0] 144))).alloc (.cells #[.slice vo 1024 vc] 23)
      have r2 := Row.new (w.alloc (.cells #[.bool false, .slice none 0 0, .slice none 0 0, .slice none 0 0] 144)) 23 [.slice vo 1024 vc]
      have r1' := r1.keep k2 (fun h => h)
      have hs : (w.alloc (.cells #[.bool false, .slice none 0 0, .slice none 0 0, .slice none 0 0] 144)).heap.size = w.heap.size + 1 := by simp
      rw [hs] at r2
      rw [hW, ← HPG.out]
      exact ⟨k1.trans k2 (fun _ _ h => h), r1', _, r2, H.out.keep (k1.trans k2 (fun _ _ h => h)) (fun _ _ _ h => h)⟩
    rw [← hW]
    clear hW
    have HLS : Hid (∀ j, (n.suf j).length ≤ 1024) := fun j => by
      unfold Nd.suf; rw [List.length_drop, HLP.out]; omega
    have HLH : Hid ((enc16 n.keys.length ++ n.suf 0).length ≤ 1024) := by
      show _ ≤ _
      have h1 := HLP.out
      rw [HPG.out, List.length_append] at h1
      simp only [List.length_cons, List.length_nil] at h1
      omega
    have HN1 : Hid (Calls Tryz.prog 116 #[.pointer (some ⟨w.heap.size + 1, 0, none⟩), .int .i64 1] W fun e w' => e = .returned (.int .i64 1) ∧ RInv w (enc16 n.keys.length ++ n.suf 0) w' ∧ Keep (Just (w.heap.size + 1)) W w') :=
      RInv.number1 (x := 1) (r := enc16 n.keys.length ++ n.suf 0) (by omega) HI.out HLH.out
    go_upto_region 3 with (go_at_call 116; refine HN1.out.mono ?_; rintro e w1 ⟨rfl, hi1, hk1⟩; have HI1 := Lib.hid hi1; clear hi1 hk1)
    go_upto_region 5 with (go_at_call 116; refine (RInv.number2 (x := n.keys.length) (r := n.suf 0) (by omega) HI1.out (HLS.out 0)).mono ?_; rintro e w2 ⟨rfl, hi2, hk2⟩; have HI2 := Lib.hid hi2; clear hi2 hk2)
    have HS2 : Hid (w.heap.size + 2 ≤ w2.heap.size) := by
      have := HI2.out.rest
      obtain ⟨_, hr, _⟩ := this
      have := hr.lt
      show _ ≤ _
      omega
    obtain ⟨W3, hW3⟩ : ∃ W3, W3 = w2.alloc (.cells #[.bool true, .slice none 0 0, .slice none 0 0, .slice none 0 0] 144) := ⟨_, rfl⟩
    have HL0 : Hid (RLoop w n w2.heap.size 0 W3) := by
      have hk := (Keep.refl No w2).alloc (.cells #[.bool true, .slice none 0 0, .slice none 0 0, .slice none 0 0] 144)
      rw [← hW3] at hk
      refine ⟨HI2.out.on hk (fun _ h => h.elim), HS2.out, .slice none 0 0, .slice none 0 0, .slice none 0 0, ⟨?_, ?_⟩⟩
      · rw [hW3, HHL.out]; exact Row.new w2 _ [_, _, _, _]
      · rw [HHL.out]; exact NdO.nil _ _ _
    have g0 : W3.cell? ⟨w2.heap.size, 0, none⟩ = some (.bool true) := by rw [hW3]; exact (Row.new w2 _ [_, _, _, _]).cell 0
    rw [← hW3]
    clear hW3
    have HN : Hid (∃ N, N = w2.heap.size) := ⟨_, rfl⟩
    generalize w2.heap.size = N at *
    go_wp2_with fail
    go_loopw [32] (fun i wr => ∃ j : Nat, j ≤ n.keys.length ∧ i = .int .i64 j ∧ Hid (RLoop w n N j wr)) (fun i _ => n.keys.length - (intOf i).toNat)
    case atStart => exact ⟨0, Nat.zero_le _, rfl, HL0.out⟩
    case round =>
      obtain ⟨j, hj, rfl, HLJ⟩ := hrel
      obtain ⟨hinv, hbig, kv, vv, iv, hnr⟩ := HLJ.out
      obtain ⟨ko, kc, vo', vc', io, ic, rfl, rfl, rfl⟩ := hnr.node.forms
      have hlk : (n.keys.take j).length = j := by rw [List.length_take]; omega
      have hlv : (n.vals.take j).length = j := by rw [List.length_take, (HS.out.lf HHL.out).1]; omega
      rw [HHL.out] at hnr
      simp only [hlk, hlv, if_pos, List.take_zero, List.length_nil] at hnr
      have HLK := Lib.hid hlk
      have HLV := Lib.hid hlv
      clear hlk hlv
      by_cases hlt : j < n.keys.length
      · have hiv : j < n.vals.length := by rw [(HS.out.lf HHL.out).1]; exact hlt
        have hk1 := HS.out.klen j hlt
        have hl2 : n.vals[j].length ≤ 260 := (HS.out.lf HHL.out).2.2 _ (List.getElem_mem hiv)
        have hst : n.suf j = [UInt8.ofNat n.keys[j].length] ++ (enc16 n.vals[j].length ++ (n.keys[j] ++ (n.vals[j] ++ n.suf (j + 1)))) := by
          rw [n.suf_step hlt]
          unfold Nd.encE Nd.key Nd.val
          rw [HHL.out, if_pos rfl, List.getD_eq_getElem?_getD, List.getElem?_eq_getElem hlt, List.getD_eq_getElem?_getD, List.getElem?_eq_getElem hiv]
          simp
        have hls := HLS.out j
        rw [hst] at hinv hls
        simp only [List.length_append, List.length_cons, List.length_nil, len16] at hls
        have HA := Lib.hid hinv
        have HR := Lib.hid hnr
        clear hst hinv hnr
        have nB : Hid (∀ b, N ≤ b → ¬ Just (w.heap.size + 1) b) := fun b h e => by unfold Just at e; omega
        go_upto_region 10 with (go_at_call 116; refine (RInv.number1 (x := n.keys[j].length) (r := enc16 n.vals[j].length ++ (n.keys[j] ++ (n.vals[j] ++ n.suf (j + 1)))) (by omega) HA.out (by simp only [List.length_append, len16]; omega)).mono ?_; rintro e wa ⟨rfl, hia, hka⟩; have HIA := Lib.hid hia; have HKA := Lib.hid hka; clear hia hka)
        have HRA := Lib.hid (HR.out.keep HKA.out nB.out)
        have ca := HRA.out.row.cell 0
        simp only [List.getElem?_cons_zero] at ca
        go_upto_region 12 with (go_at_call 116; refine (RInv.number2 (x := n.vals[j].length) (r := n.keys[j] ++ (n.vals[j] ++ n.suf (j + 1))) (by omega) HIA.out (by simp only [List.length_append]; omega)).mono ?_; rintro e wb ⟨rfl, hib, hkb⟩; have HIB := Lib.hid hib; have HKB := Lib.hid hkb; clear hib hkb)
        have HRB := Lib.hid (HRA.out.keep HKB.out nB.out)
        go_upto_region 13 with (go_at_call 117; refine (RInv.take (a := n.keys[j]) (r := n.vals[j] ++ n.suf (j + 1)) HIB.out n.keys[j].length rfl (by simp only [List.length_append]; omega)).mono ?_; rintro e wc ⟨ck, rfl, hic, hkc, hoc⟩; obtain ⟨cko, ckc, hfc⟩ := hoc.form; rw [List.length_map] at hfc; subst hfc; have HIC := Lib.hid hic; have HKC := Lib.hid hkc; have HOC := Lib.hid hoc; clear hic hkc hoc)
        have HRC := Lib.hid (HRB.out.keep HKC.out nB.out)
        go_upto_region 14 with (go_at_call 117; refine (RInv.take (a := n.vals[j]) (r := n.suf (j + 1)) HIC.out n.vals[j].length rfl (by simp only [List.length_append]; omega)).mono ?_; rintro e wd ⟨cv, rfl, hid, hkd, hod⟩; obtain ⟨cvo, cvc, hfv⟩ := hod.form; rw [List.length_map] at hfv; subst hfv; have HID := Lib.hid hid; have HKD := Lib.hid hkd; have HOD := Lib.hid hod; clear hid hkd hod)
        have HRD := Lib.hid (HRC.out.keep HKD.out nB.out)
        have hsz : Hid (N < wb.heap.size ∧ wb.heap.size ≤ wc.heap.size ∧ wc.heap.size ≤ wd.heap.size) := ⟨HRB.out.row.lt, HKC.out.size, HKD.out.size⟩
        have HOC2 : Hid (Own wd (From wb.heap.size) 5 (.slice cko n.keys[j].length ckc) (n.keys[j].map Go.Proofs.YtfhapbggngdckaaGreat.u8)) := HOC.out.keep HKD.out (fun b hb e h => by
          have h1 := (HOC.out.blk e).1
          have h2 := HIB.out.rest
          obtain ⟨_, h3, _⟩ := h2
          have h4 := h3.lt
          unfold Just at h; unfold From at h1; omega)
        have HEK := Lib.hid (HRD.out.node.fresh HOC2.out (fun b _ h => by have := hsz.out; unfold From at *; omega))
        have HEV0 := Lib.hid (HRD.out.node.fresh HOD.out (fun b _ h => by have := hsz.out; unfold From at *; omega))
        obtain ⟨ao, cap, we, hrun, f1, x1, hre, hke, hev⟩ := HRD.out.push_key HEK.out (by rw [HLK.out]; omega)
        have HEV := Lib.hid (hev _ _ HEV0.out)
        have HRE := Lib.hid hre
        have HKE := Lib.hid hke
        have c1 := HRD.out.row.cell 1
        have d0 := HRE.out.row.cell 0
        have d2 := HRE.out.row.cell 2
        simp only [List.getElem?_cons_zero, List.getElem?_cons_succ] at c1 d0 d2
        obtain ⟨ao2, cap2, wf, hrun2, f2, x2, hrf, hkf, _⟩ := HRE.out.push_val HEV.out (by rw [HLV.out]; omega)
        simp only [HLK.out, HLV.out] at hrun f1 x1 c1 d0 d2 hrun2 f2 x2 hrf hkf hke
        have HRF := Lib.hid hrf
        have HKF := Lib.hid hkf
        have HKE2 := Lib.hid hke
        have HRUN := Lib.hid hrun
        have HRUN2 := Lib.hid hrun2
        clear hre hke hev hrf hkf hrun hrun2
        go_upto_region 17 with (at_builtin; refine wpList_append_eq rfl _ _ rfl rfl rfl HRUN.out ?_)
        generalize hWx : we.setCell ⟨N, 1, none⟩ (.slice ao (j + 1) cap) = wx at *
        clear hWx
        go_wp2_with (at_builtin; refine wpList_append_eq rfl _ _ rfl rfl rfl HRUN2.out ?_)
        go_roundw
        case rel =>
          refine ⟨j + 1, by omega, by go_num, ⟨(HID.out.on HKE2.out (fun b h => by omega)).on HKF.out (fun b h => by omega), hbig, .slice ao (j + 1) cap, .slice ao2 (j + 1) cap2, .slice io 0 ic, ?_⟩⟩
          have := HRF.out
          rw [HHL.out, if_pos rfl, List.take_zero, List.take_succ_eq_append_getElem hlt, List.take_succ_eq_append_getElem hiv]
          exact this
        case measure => simp [intOf]; omega
      · obtain rfl : j = n.keys.length := by omega
        have hiv : n.vals.length = n.keys.length := (HS.out.lf HHL.out).1
        have hik : n.kids = [] := (HS.out.lf HHL.out).2.1
        rw [List.take_length, ← hiv, List.take_length, hiv] at hnr
        have HEQ : Hid ((⟨true, n.keys, n.vals, []⟩ : Nd) = n) := by
          show _ = _
          obtain ⟨a, b, c, d⟩ := n
          simp only at hik
          have := HHL.out
          simp only at this
          rw [hik, this]
        rw [HEQ.out] at hnr
        have HNR := Lib.hid hnr
        have HIJ := Lib.hid hinv
        have c0 := hnr.row.cell 0
        have c1 := hnr.row.cell 1
        have c2 := hnr.row.cell 2
        have c3 := hnr.row.cell 3
        simp only [List.getElem?_cons_zero, List.getElem?_cons_succ] at c0 c1 c2 c3
        clear hnr hinv hiv hik
        have HW := Lib.hid (write_nd HNR.out.node.r (Nd.few_of HS.out (by have := HZ.out; omega)) HS.out HZ.out)
        rw [HHL.out] at HW c0
        go_upto_region 22 with (go_at_call 78; refine HW.out.mono ?_; rintro e wy ⟨pv, rfl, hky, hoy⟩; have HKY := Lib.hid hky; have HOY := Lib.hid hoy; clear hky hoy)
        have HNY := Lib.hid (HNR.out.keep HKY.out (fun _ _ h => h))
        have HIY := Lib.hid (HIJ.out.on HKY.out (fun _ h => h.elim))
        have y0 := HNY.out.row.cell 0
        have y1 := HNY.out.row.cell 1
        have y2 := HNY.out.row.cell 2
        have y3 := HNY.out.row.cell 3
        simp only [List.getElem?_cons_zero, List.getElem?_cons_succ] at y0 y1 y2 y3
        rw [HHL.out] at y0
        have z0 := HIY.out.srow.frozen 0
        have z1 := HIY.out.srow.frozen 1
        have z2 := HIY.out.srow.frozen 2
        have z3 := HIY.out.srow.frozen 3
        have s0 := HIY.out.srow.cell 0
        have s1 := HIY.out.srow.cell 1
        have s2 := HIY.out.srow.cell 2
        have s3 := HIY.out.srow.cell 3
        simp only [List.getElem?_cons_zero, List.getElem?_cons_succ] at s0 s1 s2 s3
        have hE := equal_B (H.out.keep (F := No) HIY.out.keep (fun _ _ _ h => h)) (show BS wy _ pv n.page from HOY.out.rs)
        rw [decide_eq_true rfl] at hE
        have HE := Lib.hid hE
        clear hE
        go_wp2_with (go_at_call 71; refine HE.out.mono ?_; rintro e wz ⟨rfl, rfl⟩)
        have hrow := (((HIY.out.srow.set 0 (.bool true)).set 1 (.slice ko n.keys.length kc)).set 2 (.slice vo' n.keys.length vc')).set 3 (.slice io 0 ic)
        simp only [List.set_cons_zero, List.set_cons_succ] at hrow
        refine bodyPost_ret (ret_node_tmp rfl _ hrow rfl) rfl ?_
        refine ⟨_, _, _, rfl, ?_⟩
        have hk4 : Keep (Just w.heap.size) wz ((((wz.setCell ⟨w.heap.size, 0, none⟩ (.bool true)).setCell ⟨w.heap.size, 1, none⟩ (.slice ko n.keys.length kc)).setCell ⟨w.heap.size, 2, none⟩ (.slice vo' n.keys.length vc')).setCell ⟨w.heap.size, 3, none⟩ (.slice io 0 ic)) :=
          (((((Keep.refl (Just w.heap.size) wz).setCell (p := ⟨w.heap.size, 0, none⟩) (fun _ => rfl) _).setCell (p := ⟨w.heap.size, 1, none⟩) (fun _ => rfl) _).setCell (p := ⟨w.heap.size, 2, none⟩) (fun _ => rfl) _).setCell (p := ⟨w.heap.size, 3, none⟩) (fun _ => rfl) _)
        refine ⟨(HNY.out.node.keep hk4 (fun b _ hb e => by unfold Just at e; unfold From at hb; omega)).more (fun b _ hb => by unfold From at *; omega), HIY.out.keep.trans hk4 (fun i hi e => by unfold Just at e; omega)⟩
end
end Go.Proofs.YtfhapbggngdckaaGreat
