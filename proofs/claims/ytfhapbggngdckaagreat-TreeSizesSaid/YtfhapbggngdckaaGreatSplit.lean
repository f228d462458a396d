/- Nodes: Split. -/
import Derived.Test.YtfhapbggngdckaaGreatParts
import Derived.Outline
namespace Go.Proofs.YtfhapbggngdckaaGreat
open Go.RowKit
def Nd.worst (n : Nd) (k : Nat) : Nat := max (n.fst k).size (n.snd k).size
def Nd.last (n : Nd) : Nat := n.keys.length - (if n.leaf then 1 else 2)
theorem Nd.fst_leaf (n : Nd) (k : Nat) : (n.fst k).leaf = n.leaf := rfl
theorem Nd.snd_leaf (n : Nd) (k : Nat) : (n.snd k).leaf = n.leaf := by unfold Nd.snd; split <;> simp_all
theorem Nd.Few.fst {n : Nd} (h : n.Few) (k : Nat) : (n.fst k).Few := by
  refine ⟨?_, ?_, ?_, ?_, ?_, ?_⟩
  · have := h.keys; unfold Nd.fst; simp; omega
  · have := h.vals; unfold Nd.fst; simp; omega
  · have := h.kids; unfold Nd.fst; split <;> simp; omega
  · intro x hx; exact h.klen x (List.mem_of_mem_take hx)
  · intro x hx; exact h.vlen x (List.mem_of_mem_take hx)
  · intro hl; have := h.lv hl; unfold Nd.fst; simp [this]
theorem Nd.Few.snd {n : Nd} (h : n.Few) (k : Nat) : (n.snd k).Few := by
  unfold Nd.snd
  split
  · rename_i hl
    refine ⟨?_, ?_, by simp, fun x hx => h.klen x (List.mem_of_mem_drop hx), fun x hx => h.vlen x (List.mem_of_mem_drop hx), fun _ => ?_⟩
    · have := h.keys; simp; omega
    · have := h.vals; simp; omega
    · have := h.lv hl; simp [this]
  · refine ⟨?_, by simp, ?_, fun x hx => h.klen x (List.mem_of_mem_drop hx), fun x hx => by simp at hx, fun hc => by simp at hc⟩
    · have := h.keys; simp; omega
    · have := h.kids; simp; omega
theorem Nd.Few.size {n : Nd} (h : n.Few) : n.size ≤ 2005007 := by
  have := h.sum n.keys.length
  have := h.keys
  unfold Nd.size Nd.base
  split <;> omega
section
variable {w w' : World} {D : Nat → Prop} {kv vv iv : Value} {n : Nd}
theorem parts_nd (h : NdR w D kv vv iv n) (hf : n.Few) (hs : n.Sh) (k : Nat) (hk : k < n.keys.length) : Calls Tryz.prog 104 #[.agg #[.bool n.leaf, kv, vv, iv], .int .i64 k] w fun e w' => ∃ ka va ia kb vb ib x,
    e = .returned (.tuple #[.agg #[.bool n.leaf, ka, va, ia], x, .agg #[.bool n.leaf, kb, vb, ib]]) ∧ Parts w D n k ka va ia kb vb ib x w' := by
  rcases hlf : n.leaf with _ | _
  · have := hs.inn hlf
    have hp := parts_inner h hf hlf this.2.1 k hk
    rw [hlf] at hp
    refine hp.mono fun e w' => ?_
    rintro ⟨ka, va, ia, kb, vb, ib, x, rfl, h⟩
    exact ⟨ka, va, ia, kb, vb, ib, x, rfl, h this.1⟩
  · have hp := parts_leaf h hf hlf k hk
    rw [hlf] at hp
    exact hp
structure SplitTo (w : World) (n : Nd) (k : Nat) (ka va ia kb vb ib x : Value) (w' : World) : Prop where
  keep : Keep No w w'
  fst : NdR w' (From w.heap.size) ka va ia (n.fst k)
  snd : NdR w' (From w.heap.size) kb vb ib (n.snd k)
  key : BS w' (From w.heap.size) x (n.keys.getD k [])
theorem Box3.step {w W X : World} {cs : List Value} (h : Box3 w cs W) (k : Keep No W X) : Box3 w cs X := ⟨h.keep.trans k (fun _ _ h => h), h.r0.keep k (fun h => h), h.r1.keep k (fun h => h), h.r2.keep k (fun h => h)⟩
/-- Two boxes with nodes. -/
structure Box2 (w : World) (xs ys : List Value) (W : World) : Prop where
  keep : Keep No w W
  r0 : Row W w.heap.size 144 xs
  r1 : Row W (w.heap.size + 1) 144 ys
theorem box2 (w : World) (a0 a1 a2 a3 b0 b1 b2 b3 : Value) : Box2 w [a0, a1, a2, a3] [b0, b1, b2, b3] ((w.alloc (.cells #[a0, a1, a2, a3] 144)).alloc (.cells #[b0, b1, b2, b3] 144)) := by
  have r0 := Row.new w 144 [a0, a1, a2, a3]
  have k0 := (Keep.refl No w).alloc (.cells #[a0, a1, a2, a3] 144)
  have s0 : (w.alloc (.cells #[a0, a1, a2, a3] 144)).heap.size = w.heap.size + 1 := by simp
  rw [show ([a0, a1, a2, a3] : List Value).toArray = #[a0, a1, a2, a3] from rfl] at r0
  generalize w.alloc (.cells #[a0, a1, a2, a3] 144) = W0 at *
  have r1 := Row.new W0 144 [b0, b1, b2, b3]
  have k1 := (Keep.refl No W0).alloc (.cells #[b0, b1, b2, b3] 144)
  rw [show ([b0, b1, b2, b3] : List Value).toArray = #[b0, b1, b2, b3] from rfl] at r1
  rw [s0] at r1
  exact ⟨k0.trans k1 (fun _ _ h => h), r0.keep k1 (fun h => h), r1⟩
theorem Box2.step {w W X : World} {xs ys : List Value} (h : Box2 w xs ys W) (k : Keep No W X) : Box2 w xs ys X := ⟨h.keep.trans k (fun _ _ h => h), h.r0.keep k (fun h => h), h.r1.keep k (fun h => h)⟩
theorem Box2.limbs {w X : World} {a0 a1 a2 a3 b0 b1 b2 b3 : Value} (h : Box2 w [a0, a1, a2, a3] [b0, b1, b2, b3] X) : X.cell? ⟨w.heap.size, 0, none⟩ = some a0 ∧ X.cell? ⟨w.heap.size, 1, none⟩ = some a1 ∧ X.cell? ⟨w.heap.size, 2, none⟩ = some a2 ∧ X.cell? ⟨w.heap.size, 3, none⟩ = some a3 ∧
    X.cell? ⟨w.heap.size + 1, 0, none⟩ = some b0 ∧ X.cell? ⟨w.heap.size + 1, 1, none⟩ = some b1 ∧ X.cell? ⟨w.heap.size + 1, 2, none⟩ = some b2 ∧ X.cell? ⟨w.heap.size + 1, 3, none⟩ = some b3 ∧ Hid (Box2 w [a0, a1, a2, a3] [b0, b1, b2, b3] X) :=
  ⟨h.r0.cell 0, h.r0.cell 1, h.r0.cell 2, h.r0.cell 3, h.r1.cell 0, h.r1.cell 1, h.r1.cell 2, h.r1.cell 3, h⟩
theorem size_half {w2 X : World} {F : Nat → Prop} {m : Nd} {b : Bool} {ka va ia : Value} (h : NdR w2 F ka va ia m) (hm : m.Few) (hb : m.leaf = b) (hX : Keep No w2 X) : Calls Tryz.prog 74 #[.agg #[.bool b, ka, va, ia]] X fun e w' => e = .returned (.int .i64 m.size) ∧ Keep No X w' := by
  subst hb
  exact size_nd (h.keep hX (fun _ _ _ h => h)) hm
theorem own_half {w2 X : World} {F : Nat → Prop} {m : Nd} {b : Bool} {ka va ia : Value} (h : NdR w2 F ka va ia m) (hm : m.Few) (hb : m.leaf = b) (hX : Keep No w2 X) : Calls Tryz.prog 105 #[.agg #[.bool b, ka, va, ia]] X fun e w' => ∃ kv' vv' iv', e = .returned (.agg #[.bool b, kv', vv', iv']) ∧ NdO w' (From X.heap.size) kv' vv' iv' m ∧ Keep No X w' := by
  subst hb
  exact own_nd (h.keep hX (fun _ _ _ h => h)) hm
/-- Two boxes that wait for nodes. -/
structure Wait (w : World) (Y : World) : Prop where
  keep : Keep No w Y
  r1 : ∃ ds, Row Y (w.heap.size + 1) 144 ds ∧ ds.length = 4
  r2 : ∃ ds, Row Y (w.heap.size + 1 + 1) 144 ds ∧ ds.length = 4
theorem Wait.step {w X Y : World} (h : Wait w X) (k : Keep No X Y) : Wait w Y := by
  obtain ⟨h1, ⟨ds, h2, h3⟩, ⟨es, h4, h5⟩⟩ := h
  exact ⟨h1.trans k (fun _ _ h => h), ⟨ds, h2.keep k (fun h => h), h3⟩, ⟨es, h4.keep k (fun h => h), h5⟩⟩
theorem Wait.fill {w X : World} (h : Wait w X) (a0 a1 a2 a3 b0 b1 b2 b3 : Value) : Box3d w [a0, a1, a2, a3] [b0, b1, b2, b3]
    ((((((((X.setCell ⟨w.heap.size + 1, 0, none⟩ a0).setCell ⟨w.heap.size + 1, 1, none⟩ a1).setCell ⟨w.heap.size + 1, 2, none⟩ a2).setCell ⟨w.heap.size + 1, 3, none⟩ a3).setCell ⟨w.heap.size + 1 + 1, 0, none⟩ b0).setCell ⟨w.heap.size + 1 + 1, 1, none⟩ b1).setCell ⟨w.heap.size + 1 + 1, 2, none⟩ b2).setCell ⟨w.heap.size + 1 + 1, 3, none⟩ b3) := by
  obtain ⟨h1, ⟨ds, h2, h3⟩, ⟨es, h4, h5⟩⟩ := h
  have k1 := four_keep X (w.heap.size + 1) a0 a1 a2 a3
  have r1 := h2.set4 h3 a0 a1 a2 a3
  have r2 := h4.far4 (b := w.heap.size + 1) (by omega) a0 a1 a2 a3
  generalize ((((X.setCell ⟨w.heap.size + 1, 0, none⟩ a0).setCell ⟨w.heap.size + 1, 1, none⟩ a1).setCell ⟨w.heap.size + 1, 2, none⟩ a2).setCell ⟨w.heap.size + 1, 3, none⟩ a3) = Z at *
  have k2 := four_keep Z (w.heap.size + 1 + 1) b0 b1 b2 b3
  exact ⟨(h1.trans k1 (fun i hi e => by unfold Just at e; omega)).trans k2 (fun i hi e => by unfold Just at e; omega), r1.far4 (b := w.heap.size + 1 + 1) (by omega) b0 b1 b2 b3, r2.set4 h5 b0 b1 b2 b3⟩
/-- The world behind the stores, as against the one ahead. -/
theorem keep8 (w X : World) (a0 a1 a2 a3 b0 b1 b2 b3 : Value) : Keep (fun b => b = w.heap.size + 1 ∨ b = w.heap.size + 1 + 1) X
    ((((((((X.setCell ⟨w.heap.size + 1, 0, none⟩ a0).setCell ⟨w.heap.size + 1, 1, none⟩ a1).setCell ⟨w.heap.size + 1, 2, none⟩ a2).setCell ⟨w.heap.size + 1, 3, none⟩ a3).setCell ⟨w.heap.size + 1 + 1, 0, none⟩ b0).setCell ⟨w.heap.size + 1 + 1, 1, none⟩ b1).setCell ⟨w.heap.size + 1 + 1, 2, none⟩ b2).setCell ⟨w.heap.size + 1 + 1, 3, none⟩ b3) :=
  ((four_keep X (w.heap.size + 1) a0 a1 a2 a3).mono (fun _ _ e => .inl e)).trans ((four_keep _ (w.heap.size + 1 + 1) b0 b1 b2 b3).mono (fun _ _ e => .inr e)) (fun _ _ h => h)
theorem Wait.limbs {w X : World} (h : Wait w X) : (X.frozen? ⟨w.heap.size + 1, 0, none⟩ = false ∧ X.frozen? ⟨w.heap.size + 1, 1, none⟩ = false ∧ X.frozen? ⟨w.heap.size + 1, 2, none⟩ = false ∧ X.frozen? ⟨w.heap.size + 1, 3, none⟩ = false) ∧
    (X.frozen? ⟨w.heap.size + 1 + 1, 0, none⟩ = false ∧ X.frozen? ⟨w.heap.size + 1 + 1, 1, none⟩ = false ∧ X.frozen? ⟨w.heap.size + 1 + 1, 2, none⟩ = false ∧ X.frozen? ⟨w.heap.size + 1 + 1, 3, none⟩ = false) ∧
    (∃ y0 y1 y2 y3, X.cell? ⟨w.heap.size + 1, 0, none⟩ = some y0 ∧ X.cell? ⟨w.heap.size + 1, 1, none⟩ = some y1 ∧ X.cell? ⟨w.heap.size + 1, 2, none⟩ = some y2 ∧ X.cell? ⟨w.heap.size + 1, 3, none⟩ = some y3) ∧
    (∃ y0 y1 y2 y3, X.cell? ⟨w.heap.size + 1 + 1, 0, none⟩ = some y0 ∧ X.cell? ⟨w.heap.size + 1 + 1, 1, none⟩ = some y1 ∧ X.cell? ⟨w.heap.size + 1 + 1, 2, none⟩ = some y2 ∧ X.cell? ⟨w.heap.size + 1 + 1, 3, none⟩ = some y3) := by
  obtain ⟨h1, ⟨ds, h2, h3⟩, ⟨es, h4, h5⟩⟩ := h
  match ds, h3, es, h5, h2, h4 with
  | [y0, y1, y2, y3], _, [z0, z1, z2, z3], _, h2, h4 =>
    exact ⟨⟨h2.frozen 0, h2.frozen 1, h2.frozen 2, h2.frozen 3⟩, ⟨h4.frozen 0, h4.frozen 1, h4.frozen 2, h4.frozen 3⟩, ⟨y0, y1, y2, y3, h2.cell 0, h2.cell 1, h2.cell 2, h2.cell 3⟩, ⟨z0, z1, z2, z3, h4.cell 0, h4.cell 1, h4.cell 2, h4.cell 3⟩⟩
theorem Box3.wait {w X : World} {cs : List Value} (h : Box3 w cs X) : Wait w X := ⟨h.keep, ⟨_, h.r1, rfl⟩, ⟨_, h.r2, rfl⟩⟩
/-- The best of those that have been looked at. -/
structure Best (n : Nd) (j b s : Nat) : Prop where
  none : j = 1 → b = 0 ∧ s = 0
  some : 1 < j → 1 ≤ b ∧ b < j ∧ s = n.worst b ∧ ∀ i, 1 ≤ i → i < j → n.worst b ≤ n.worst i
theorem Best.take {n : Nd} {j b s : Nat} (h : Best n j b s) (hj : 1 ≤ j) (hb : b = 0 ∨ n.worst j < s) : Best n (j + 1) j (n.worst j) := by
  refine ⟨fun e => by omega, fun _ => ⟨hj, by omega, rfl, fun i h1 h2 => ?_⟩⟩
  by_cases e : i = j
  · subst e; exact Nat.le_refl _
  · obtain ⟨g1, g2, g3, g4⟩ := h.some (by omega)
    rcases hb with hb | hb
    · omega
    · have := g4 i h1 (by omega); omega
theorem Best.leave {n : Nd} {j b s : Nat} (h : Best n j b s) (hb : ¬ b = 0) (hs : ¬ n.worst j < s) (hj : 1 ≤ j) : Best n (j + 1) b s := by
  have h1 : 1 < j := by
    rcases Nat.lt_or_ge 1 j with h1 | h1
    · exact h1
    · exact absurd (h.none (by omega)).1 hb
  obtain ⟨g1, g2, g3, g4⟩ := h.some h1
  refine ⟨fun e => by omega, fun _ => ⟨g1, by omega, g3, fun i h1 h2 => ?_⟩⟩
  by_cases e : i = j
  · subst e; omega
  · exact g4 i h1 (by omega)
set_option maxRecDepth 20000 in
set_option maxHeartbeats 4000000 in
theorem split_true (h : NdR w D kv vv iv n) (hf : n.Few) (hs : n.Sh) (hlf : n.leaf = true) (hl : 1 ≤ n.last) : Calls Tryz.prog 75 #[.agg #[.bool true, kv, vv, iv]] w fun e w' => ∃ ka va ia kb vb ib x, ∃ k : Nat,
    e = .returned (.tuple #[.agg #[.bool true, ka, va, ia], x, .agg #[.bool true, kb, vb, ib], .bool true]) ∧ (1 ≤ k ∧ k ≤ n.last ∧ ∀ j, 1 ≤ j → j ≤ n.last → n.worst k ≤ n.worst j) ∧ SplitTo w n k ka va ia kb vb ib x w' := by
  have H := Lib.hid (h.more (D' := fun b => b < w.heap.size) (fun b hb _ => hb))
  have HF := Lib.hid hf
  have HS := Lib.hid hs
  have hn := hf.keys
  obtain ⟨ko, kc, vo, vc, io, ic, rfl, rfl, rfl⟩ := h.forms
  obtain ⟨last, hlast⟩ : ∃ l, l = n.last := ⟨_, rfl⟩
  rw [← hlast] at hl ⊢
  have hle : n.keys.length = last + 1 := by unfold Nd.last at hlast; rw [hlf] at hlast; simp at hlast; omega
  have hq : (n.keys.length : Int) - 1 = last := by omega
  have hlt : last < n.keys.length := by omega
  have hw1 : IntKind.i64.wrap ((n.keys.length : Int) - 1) = (n.keys.length : Int) - 1 := IntWalk.i64_in _ (by omega)
  have hb0 : decide ((last : Int) < 1) = false := by simp; omega
  clear h hf hs hlast hle
  go_enter Tryz.func75, Tryz.ntmps75
  go_upto_region 1 with fail
  obtain ⟨W, hW⟩ : ∃ W, W = (((w.alloc (.cells #[.bool true, .slice ko n.keys.length kc, .slice vo n.vals.length vc, .slice io n.kids.length ic] 144)).alloc (.cells #[.bool false, .slice none 0 0, .slice none 0 0, .slice none 0 0] 144)).alloc (.cells #[.bool false, .slice none 0 0, .slice none 0 0, .slice none 0 0] 144)) := ⟨_, rfl⟩
  have hB := box3 w (.bool true) (.slice ko n.keys.length kc) (.slice vo n.vals.length vc) (.slice io n.kids.length ic)
  rw [← hW] at hB ⊢
  clear hW
  have HB := Lib.hid hB
  clear hB
  have c0 := HB.out.r0.cell 0
  have c1 := HB.out.r0.cell 1
  have c2 := HB.out.r0.cell 2
  have c3 := HB.out.r0.cell 3
  simp only [List.getElem?_cons_zero, List.getElem?_cons_succ] at c0 c1 c2 c3
  have HW := Lib.hid (H.out.keep HB.out.keep (fun _ _ _ h => h))
  have HSH := Lib.hid (shaped_any HW.out HF.out HS.out)
  have HPA : Hid (∀ X, Keep No W X → ∀ j : Nat, j < n.keys.length → Calls Tryz.prog 104 #[.agg #[.bool n.leaf, .slice ko n.keys.length kc, .slice vo n.vals.length vc, .slice io n.kids.length ic], .int .i64 j] X fun e w' => ∃ ka va ia kb vb ib x,
    e = .returned (.tuple #[.agg #[.bool n.leaf, ka, va, ia], x, .agg #[.bool n.leaf, kb, vb, ib]]) ∧ Parts X (fun b => b < w.heap.size) n j ka va ia kb vb ib x w') := fun X hX j hj => parts_nd (HW.out.keep hX (fun _ _ _ h => h)) HF.out HS.out j hj
  rw [hlf] at HSH HPA
  have HLF := Lib.hid hlf
  clear hlf
  go_upto_region 5 with (go_at_call 103; refine HSH.out.mono ?_; rintro e w1 ⟨rfl, hk1⟩)
  have HB1 := Lib.hid (HB.out.step hk1)
  have HPA2 : Hid (∀ X, Keep No w1 X → ∀ j : Nat, j < n.keys.length → _) := fun X hX j hj => HPA.out X (hk1.trans hX (fun _ _ h => h)) j hj
  clear c0 c1 c2 c3 hq hb0 hw1 hk1 HPA HSH HB HW
  go_loopw [7, 8, 9] (fun b s j wr => ∃ jj bb ss : Nat, b = .int .i64 bb ∧ s = .int .i64 ss ∧ j = .int .i64 jj ∧ 1 ≤ jj ∧ jj ≤ last + 1 ∧ ss ≤ 2005007 ∧ bb ≤ last ∧ Hid (Best n jj bb ss) ∧ Hid (Keep No w1 wr) ∧ Hid (Box3 w [.bool true, .slice ko n.keys.length kc, .slice vo n.vals.length vc, .slice io n.kids.length ic] wr)) (fun _ _ j _ => last + 1 - (intOf j).toNat)
  case atStart => exact ⟨1, 0, 0, rfl, rfl, rfl, by omega, by omega, by omega, by omega, ⟨fun _ => ⟨rfl, rfl⟩, fun h => by omega⟩, Keep.refl _ _, HB1.out⟩
  case round =>
    obtain ⟨j, bb, ss, rfl, rfl, rfl, hj1, hj2, hss, hbl, HBE, HKR, HBR⟩ := hrel
    have c0 := HBR.out.r0.cell 0
    have c1 := HBR.out.r0.cell 1
    have c2 := HBR.out.r0.cell 2
    have c3 := HBR.out.r0.cell 3
    simp only [List.getElem?_cons_zero, List.getElem?_cons_succ] at c0 c1 c2 c3
    by_cases hjl : j ≤ last
    · have hpa := Lib.hid (HPA2.out wr HKR.out j (by omega))
      have hdj : decide ((j : Int) ≤ (last : Int)) = true := by simpa using hjl
      go_upto_region 11 with (go_at_call 104; refine hpa.out.mono ?_; rintro e w2 ⟨ka, va, ia, kb, vb, ib, x, rfl, hp⟩; obtain ⟨ao1, ac1, ao2, ac2, ao3, ac3, rfl, rfl, rfl⟩ := hp.fst.forms; obtain ⟨bo1, bc1, bo2, bc2, bo3, bc3, rfl, rfl, rfl⟩ := hp.snd.forms; have HP := Lib.hid hp; clear hp)
      have HX0 := Lib.hid (box2 w2 (.bool true) (.slice ao1 (n.fst j).keys.length ac1) (.slice ao2 (n.fst j).vals.length ac2) (.slice ao3 (n.fst j).kids.length ac3) (.bool true) (.slice bo1 (n.snd j).keys.length bc1) (.slice bo2 (n.snd j).vals.length bc2) (.slice bo3 (n.snd j).kids.length bc3))
      generalize (w2.alloc (Obj.cells #[.bool true, .slice ao1 (n.fst j).keys.length ac1, .slice ao2 (n.fst j).vals.length ac2, .slice ao3 (n.fst j).kids.length ac3] 144)).alloc (Obj.cells #[.bool true, .slice bo1 (n.snd j).keys.length bc1, .slice bo2 (n.snd j).vals.length bc2, .slice bo3 (n.snd j).kids.length bc3] 144) = X at *
      have HX1 := Lib.hid (HX0.out.step ((Keep.refl No X).drew))
      have hL1 := HX1.out.limbs
      have HZ1 : Hid (∀ Y, Hid (Box2 w2 [.bool true, .slice ao1 (n.fst j).keys.length ac1, .slice ao2 (n.fst j).vals.length ac2, .slice ao3 (n.fst j).kids.length ac3] [.bool true, .slice bo1 (n.snd j).keys.length bc1, .slice bo2 (n.snd j).vals.length bc2, .slice bo3 (n.snd j).kids.length bc3] Y) → Calls Tryz.prog 74 #[.agg #[.bool true, .slice ao1 (n.fst j).keys.length ac1, .slice ao2 (n.fst j).vals.length ac2, .slice ao3 (n.fst j).kids.length ac3]] Y fun e w' => e = .returned (.int .i64 (n.fst j).size) ∧ Keep No Y w') := fun Y hY => size_half HP.out.fst (HF.out.fst j) (by rw [n.fst_leaf]; exact HLF.out) hY.out.keep
      have HZ2 : Hid (∀ Y, Hid (Box2 w2 [.bool true, .slice ao1 (n.fst j).keys.length ac1, .slice ao2 (n.fst j).vals.length ac2, .slice ao3 (n.fst j).kids.length ac3] [.bool true, .slice bo1 (n.snd j).keys.length bc1, .slice bo2 (n.snd j).vals.length bc2, .slice bo3 (n.snd j).kids.length bc3] Y) → Calls Tryz.prog 74 #[.agg #[.bool true, .slice bo1 (n.snd j).keys.length bc1, .slice bo2 (n.snd j).vals.length bc2, .slice bo3 (n.snd j).kids.length bc3]] Y fun e w' => e = .returned (.int .i64 (n.snd j).size) ∧ Keep No Y w') := fun Y hY => size_half HP.out.snd (HF.out.snd j) (by rw [n.snd_leaf]; exact HLF.out) hY.out.keep
      clear c0 c1 c2 c3
      go_region_held3 (fun Y => Y.cell? ⟨w2.heap.size, 0, none⟩ = some (.bool true) ∧ Y.cell? ⟨w2.heap.size, 1, none⟩ = some (.slice ao1 (n.fst j).keys.length ac1) ∧ Y.cell? ⟨w2.heap.size, 2, none⟩ = some (.slice ao2 (n.fst j).vals.length ac2) ∧ Y.cell? ⟨w2.heap.size, 3, none⟩ = some (.slice ao3 (n.fst j).kids.length ac3) ∧
          Y.cell? ⟨w2.heap.size + 1, 0, none⟩ = some (.bool true) ∧ Y.cell? ⟨w2.heap.size + 1, 1, none⟩ = some (.slice bo1 (n.snd j).keys.length bc1) ∧ Y.cell? ⟨w2.heap.size + 1, 2, none⟩ = some (.slice bo2 (n.snd j).vals.length bc2) ∧ Y.cell? ⟨w2.heap.size + 1, 3, none⟩ = some (.slice bo3 (n.snd j).kids.length bc3) ∧
          Hid (Box2 w2 [.bool true, .slice ao1 (n.fst j).keys.length ac1, .slice ao2 (n.fst j).vals.length ac2, .slice ao3 (n.fst j).kids.length ac3] [.bool true, .slice bo1 (n.snd j).keys.length bc1, .slice bo2 (n.snd j).vals.length bc2, .slice bo3 (n.snd j).kids.length bc3] Y))
        (assumption)
        (first
          | (go_at_call_of 74 (Value.slice ao1 (n.fst j).keys.length ac1); go_split_ands; refine (HZ1.out _ (by assumption)).mono ?_; rintro e w3 ⟨rfl, hk3⟩; have HK3 := Lib.hid hk3; clear hk3; have HX2 := Lib.hid (HX1.out.step HK3.out); have hL2 := HX2.out.limbs)
          | (go_at_call_of 74 (Value.slice bo1 (n.snd j).keys.length bc1); go_split_ands; refine (HZ2.out _ (by assumption)).mono ?_; rintro e w4 ⟨rfl, hk4⟩; have HK4 := Lib.hid hk4; clear hk4; have HX3 := Lib.hid (HX2.out.step HK4.out); have hL3 := HX3.out.limbs))
      go_upto_region 12 with fail
      have ew : (if (n.fst j).size < (n.snd j).size then ((n.snd j).size : Int) else ((n.fst j).size : Int)) = ((n.worst j : Nat) : Int) := by unfold Nd.worst; split <;> omega
      rw [ew]
      clear ew
      have hws : n.worst j ≤ 2005007 := by have h1 := (HF.out.fst j).size; have h2 := (HF.out.snd j).size; unfold Nd.worst; omega
      generalize hwj : n.worst j = ws at *
      have HWJ := Lib.hid hwj
      have HB4 := Lib.hid (((HBR.out.step HP.out.keep).step HX0.out.keep).step (((Keep.refl No X).drew.trans HK3.out (fun _ _ h => h)).trans HK4.out (fun _ _ h => h)))
      have HK5 := Lib.hid (((HKR.out.trans HP.out.keep (fun _ _ h => h)).trans HX0.out.keep (fun _ _ h => h)).trans (((Keep.refl No X).drew.trans HK3.out (fun _ _ h => h)).trans HK4.out (fun _ _ h => h)) (fun _ _ h => h))
      clear hwj
      by_cases hb0 : bb = 0
      · have hd0 : ((bb : Int) == 0) = true := by simp; omega
        have HBB := Lib.hid hb0
        clear hb0
        go_wp2_with fail
        go_roundw
        case rel => exact ⟨j + 1, j, ws, rfl, rfl, by go_num, by omega, by omega, by omega, by omega, HWJ.out ▸ HBE.out.take hj1 (.inl HBB.out), HK5.out, HB4.out⟩
        case measure => simp [intOf]; omega
      · have hd0 : ((bb : Int) == 0) = false := by simp; omega
        have HBB := Lib.hid hb0
        clear hb0
        by_cases hs : ws < ss
        · have hd1 : decide ((ws : Int) < (ss : Int)) = true := by simpa using hs
          go_wp2_with fail
          go_roundw
          case rel => exact ⟨j + 1, j, ws, rfl, rfl, by go_num, by omega, by omega, by omega, by omega, HWJ.out ▸ HBE.out.take hj1 (.inr (by rw [HWJ.out]; exact hs)), HK5.out, HB4.out⟩
          case measure => simp [intOf]; omega
        · have hd1 : decide ((ws : Int) < (ss : Int)) = false := by simpa using hs
          go_wp2_with fail
          go_roundw
          case rel => exact ⟨j + 1, bb, ss, rfl, rfl, by go_num, by omega, by omega, by omega, by omega, HBE.out.leave HBB.out (by rw [HWJ.out]; exact hs) hj1, HK5.out, HB4.out⟩
          case measure => simp [intOf]; omega
    · obtain rfl : j = last + 1 := by omega
      obtain ⟨gb1, gb2, gb3, gb4⟩ := HBE.out.some (by omega)
      have HG := Lib.hid gb4
      have hdj : decide (((last + 1 : Nat) : Int) ≤ (last : Int)) = false := by simp; omega
      have hpa := Lib.hid (HPA2.out wr HKR.out bb (by omega))
      clear gb3 gb4
      go_upto_region 15 with (go_at_call 104; refine hpa.out.mono ?_; rintro e w2 ⟨ka, va, ia, kb, vb, ib, x, rfl, hp⟩; obtain ⟨ao1, ac1, ao2, ac2, ao3, ac3, rfl, rfl, rfl⟩ := hp.fst.forms; obtain ⟨bo1, bc1, bo2, bc2, bo3, bc3, rfl, rfl, rfl⟩ := hp.snd.forms; obtain ⟨xo, xc, rfl, _, _⟩ := hp.key.form; have HP := Lib.hid hp; clear hp)
      have HX0 := Lib.hid (box2 w2 (.bool true) (.slice ao1 (n.fst bb).keys.length ac1) (.slice ao2 (n.fst bb).vals.length ac2) (.slice ao3 (n.fst bb).kids.length ac3) (.bool true) (.slice bo1 (n.snd bb).keys.length bc1) (.slice bo2 (n.snd bb).vals.length bc2) (.slice bo3 (n.snd bb).kids.length bc3))
      generalize (w2.alloc (Obj.cells #[.bool true, .slice ao1 (n.fst bb).keys.length ac1, .slice ao2 (n.fst bb).vals.length ac2, .slice ao3 (n.fst bb).kids.length ac3] 144)).alloc (Obj.cells #[.bool true, .slice bo1 (n.snd bb).keys.length bc1, .slice bo2 (n.snd bb).vals.length bc2, .slice bo3 (n.snd bb).kids.length bc3] 144) = X at *
      have HX1 := Lib.hid (HX0.out.step ((Keep.refl No X).drew))
      have HV1 := Lib.hid ((((HBR.out.step HP.out.keep).step HX0.out.keep).wait).step ((Keep.refl No X).drew))
      have HO1 : Hid (∀ Y, Hid (Box2 w2 [.bool true, .slice ao1 (n.fst bb).keys.length ac1, .slice ao2 (n.fst bb).vals.length ac2, .slice ao3 (n.fst bb).kids.length ac3] [.bool true, .slice bo1 (n.snd bb).keys.length bc1, .slice bo2 (n.snd bb).vals.length bc2, .slice bo3 (n.snd bb).kids.length bc3] Y) → Calls Tryz.prog 105 #[.agg #[.bool true, .slice ao1 (n.fst bb).keys.length ac1, .slice ao2 (n.fst bb).vals.length ac2, .slice ao3 (n.fst bb).kids.length ac3]] Y fun e w' => ∃ kv' vv' iv', e = .returned (.agg #[.bool true, kv', vv', iv']) ∧ NdO w' (From Y.heap.size) kv' vv' iv' (n.fst bb) ∧ Keep No Y w') := fun Y hY => own_half HP.out.fst (HF.out.fst bb) (by rw [n.fst_leaf]; exact HLF.out) hY.out.keep
      have HO2 : Hid (∀ Y, Hid (Box2 w2 [.bool true, .slice ao1 (n.fst bb).keys.length ac1, .slice ao2 (n.fst bb).vals.length ac2, .slice ao3 (n.fst bb).kids.length ac3] [.bool true, .slice bo1 (n.snd bb).keys.length bc1, .slice bo2 (n.snd bb).vals.length bc2, .slice bo3 (n.snd bb).kids.length bc3] Y) → Calls Tryz.prog 105 #[.agg #[.bool true, .slice bo1 (n.snd bb).keys.length bc1, .slice bo2 (n.snd bb).vals.length bc2, .slice bo3 (n.snd bb).kids.length bc3]] Y fun e w' => ∃ kv' vv' iv', e = .returned (.agg #[.bool true, kv', vv', iv']) ∧ NdO w' (From Y.heap.size) kv' vv' iv' (n.snd bb) ∧ Keep No Y w') := fun Y hY => own_half HP.out.snd (HF.out.snd bb) (by rw [n.snd_leaf]; exact HLF.out) hY.out.keep
      have HO3 : Hid (∀ Y, Hid (Box2 w2 [.bool true, .slice ao1 (n.fst bb).keys.length ac1, .slice ao2 (n.fst bb).vals.length ac2, .slice ao3 (n.fst bb).kids.length ac3] [.bool true, .slice bo1 (n.snd bb).keys.length bc1, .slice bo2 (n.snd bb).vals.length bc2, .slice bo3 (n.snd bb).kids.length bc3] Y) → Calls Tryz.prog 51 #[.slice xo (n.keys.getD bb []).length xc] Y fun e w' => ∃ v', e = .returned v' ∧ Own w' (From Y.heap.size) 5 v' ((n.keys.getD bb []).map u8) ∧ Keep No Y w') := fun Y hY => clone_B _ _ _ _ (HP.out.key.keep hY.out.keep (fun _ _ _ h => h)) (cells1_u8 _) (by have := mem_getD_len HF.out.klen bb; rw [List.length_map]; omega)
      have hL1 := HX1.out.limbs
      clear c0 c1 c2 c3
      have n6 : ¬ w.heap.size + 1 + 1 = w.heap.size + 1 := by omega
      have n7 : ¬ w.heap.size + 1 = w.heap.size + 1 + 1 := by omega
      have hw2 : w.heap.size + 1 + 1 < w2.heap.size := by obtain ⟨ds, h1, _⟩ := (HBR.out.step HP.out.keep).wait.r2; exact h1.lt
      have m1 : ¬ w2.heap.size = w.heap.size + 1 := by omega
      have m2 : ¬ w2.heap.size = w.heap.size + 1 + 1 := by omega
      have m3 : ¬ w2.heap.size + 1 = w.heap.size + 1 := by omega
      have m4 : ¬ w2.heap.size + 1 = w.heap.size + 1 + 1 := by omega
      have m5 : ¬ w.heap.size + 1 = w2.heap.size := by omega
      have m6 : ¬ w.heap.size + 1 + 1 = w2.heap.size := by omega
      have m7 : ¬ w.heap.size + 1 = w2.heap.size + 1 := by omega
      have m9 : ¬ w2.heap.size = w.heap.size := by omega
      have m10 : ¬ w.heap.size = w2.heap.size := by omega
      have m8 : ¬ w.heap.size + 1 + 1 = w2.heap.size + 1 := by omega
      obtain ⟨⟨f0, f1, f2, f3⟩, ⟨g0, g1, g2, g3⟩, _, _⟩ := HV1.out.limbs
      go_region_held3 (fun Y => Y.cell? ⟨w2.heap.size, 0, none⟩ = some (.bool true) ∧ Y.cell? ⟨w2.heap.size, 1, none⟩ = some (.slice ao1 (n.fst bb).keys.length ac1) ∧ Y.cell? ⟨w2.heap.size, 2, none⟩ = some (.slice ao2 (n.fst bb).vals.length ac2) ∧ Y.cell? ⟨w2.heap.size, 3, none⟩ = some (.slice ao3 (n.fst bb).kids.length ac3) ∧
          Y.cell? ⟨w2.heap.size + 1, 0, none⟩ = some (.bool true) ∧ Y.cell? ⟨w2.heap.size + 1, 1, none⟩ = some (.slice bo1 (n.snd bb).keys.length bc1) ∧ Y.cell? ⟨w2.heap.size + 1, 2, none⟩ = some (.slice bo2 (n.snd bb).vals.length bc2) ∧ Y.cell? ⟨w2.heap.size + 1, 3, none⟩ = some (.slice bo3 (n.snd bb).kids.length bc3))
        (first | (with_reducible (refine ⟨?_, ?_, ?_, ?_, ?_, ?_, ?_, ?_⟩ <;> assumption)) | go_keep)
        (first
          | (go_at_call_of 105 (Value.slice ao1 (n.fst bb).keys.length ac1); refine (HO1.out _ HX1).mono ?_; rintro e w3 ⟨k1, v1, i1, rfl, ho, hk⟩; obtain ⟨do1, dc1, do2, dc2, do3, dc3, rfl, rfl, rfl⟩ := ho.forms; have HK1 := Lib.hid hk; have HA := Lib.hid (ho.r.more (D' := fun b => w.heap.size + 1 + 1 < b) (fun b _ h => by obtain ⟨ds, h2, _⟩ := HV1.out.r2; have := h2.lt; unfold From at *; omega)); clear ho hk; have HX2 := Lib.hid (HX1.out.step HK1.out); have HV2 := Lib.hid (HV1.out.step HK1.out); clear hL1 f0 f1 f2 f3 g0 g1 g2 g3; obtain ⟨l0, l1, l2, l3, l4, l5, l6, l7, _⟩ := HX2.out.limbs)
          | (go_at_call 51; refine (HO3.out _ HX2).mono ?_; rintro e w4 ⟨xv, rfl, ho, hk⟩; have HK2 := Lib.hid hk; have HXV : Hid (BS w4 (fun b => w.heap.size + 1 + 1 < b) xv (n.keys.getD bb [])) := (ho.rs.more (fun b _ h => by obtain ⟨ds, h2, _⟩ := HV2.out.r2; have := h2.lt; unfold From at *; omega)); clear ho hk; obtain ⟨xvo, xvc, rfl, _, _⟩ := HXV.out.form; have HA := Lib.hid (HA.out.keep HK2.out (fun _ _ _ h => h)); have HX3 := Lib.hid (HX2.out.step HK2.out); have HV3 := Lib.hid (HV2.out.step HK2.out); clear l0 l1 l2 l3 l4 l5 l6 l7; obtain ⟨p0, p1, p2, p3, p4, p5, p6, p7, _⟩ := HX3.out.limbs)
          | (go_at_call_of 105 (Value.slice bo1 (n.snd bb).keys.length bc1); refine (HO2.out _ HX3).mono ?_; rintro e w5 ⟨k2, v2, i2, rfl, ho, hk⟩; obtain ⟨eo1, ec1, eo2, ec2, eo3, ec3, rfl, rfl, rfl⟩ := ho.forms; have HK3 := Lib.hid hk; have HE := Lib.hid (ho.r.more (D' := fun b => w.heap.size + 1 + 1 < b) (fun b _ h => by have h1 := HV3.out.keep.size; obtain ⟨ds, h2, _⟩ := HV3.out.r2; have := h2.lt; unfold From at *; omega)); clear ho hk; have HA := Lib.hid (HA.out.keep HK3.out (fun _ _ _ h => h)); have HXV := Lib.hid (HXV.out.keep HK3.out (fun _ _ _ h => h)); have HX4 := Lib.hid (HX3.out.step HK3.out); have HV4 := Lib.hid (HV3.out.step HK3.out); clear p0 p1 p2 p3 p4 p5 p6 p7; obtain ⟨q0, q1, q2, q3, q4, q5, q6, q7, _⟩ := HX4.out.limbs; obtain ⟨⟨r0, r1, r2, r3⟩, ⟨s0, s1, s2, s3⟩, ⟨t0, t1, t2, t3, tt0, tt1, tt2, tt3⟩, ⟨z0, z1, z2, z3, zz0, zz1, zz2, zz3⟩⟩ := HV4.out.limbs))
      all_goals go_wp2_with fail
      have hd := HV4.out.fill (.bool true) (.slice do1 (n.fst bb).keys.length dc1) (.slice do2 (n.fst bb).vals.length dc2) (.slice do3 (n.fst bb).kids.length dc3) (.bool true) (.slice eo1 (n.snd bb).keys.length ec1) (.slice eo2 (n.snd bb).vals.length ec2) (.slice eo3 (n.snd bb).kids.length ec3)
      have k8 := keep8 w w5 (.bool true) (.slice do1 (n.fst bb).keys.length dc1) (.slice do2 (n.fst bb).vals.length dc2) (.slice do3 (n.fst bb).kids.length dc3) (.bool true) (.slice eo1 (n.snd bb).keys.length ec1) (.slice eo2 (n.snd bb).vals.length ec2) (.slice eo3 (n.snd bb).kids.length ec3)
      have hne : ∀ b, w.heap.size + 1 + 1 < b → ¬ (b = w.heap.size + 1 ∨ b = w.heap.size + 1 + 1) := fun b h1 h2 => by omega
      refine bodyPost_ret (ret_node4 rfl _ hd.r1 rfl hd.r2 rfl) rfl ?_
      refine ⟨_, _, _, _, _, _, _, bb, rfl, ⟨gb1, by omega, fun i h1 h2 => HG.out i h1 (by omega)⟩, hd.keep, ?_, ?_, ?_⟩
      · exact (HA.out.keep k8 (fun b _ e => hne b e)).more (fun b _ e => by unfold From; omega)
      · exact (HE.out.keep k8 (fun b _ e => hne b e)).more (fun b _ e => by unfold From; omega)
      · exact (HXV.out.keep k8 (fun b _ e => hne b e)).more (fun b _ e => by unfold From; omega)
set_option maxRecDepth 20000 in
set_option maxHeartbeats 4000000 in
theorem split_false (h : NdR w D kv vv iv n) (hf : n.Few) (hs : n.Sh) (hlf : n.leaf = false) (hl : 1 ≤ n.last) : Calls Tryz.prog 75 #[.agg #[.bool false, kv, vv, iv]] w fun e w' => ∃ ka va ia kb vb ib x, ∃ k : Nat,
    e = .returned (.tuple #[.agg #[.bool false, ka, va, ia], x, .agg #[.bool false, kb, vb, ib], .bool true]) ∧ (1 ≤ k ∧ k ≤ n.last ∧ ∀ j, 1 ≤ j → j ≤ n.last → n.worst k ≤ n.worst j) ∧ SplitTo w n k ka va ia kb vb ib x w' := by
  have H := Lib.hid (h.more (D' := fun b => b < w.heap.size) (fun b hb _ => hb))
  have HF := Lib.hid hf
  have HS := Lib.hid hs
  have hn := hf.keys
  obtain ⟨ko, kc, vo, vc, io, ic, rfl, rfl, rfl⟩ := h.forms
  obtain ⟨last, hlast⟩ : ∃ l, l = n.last := ⟨_, rfl⟩
  rw [← hlast] at hl ⊢
  have hle : n.keys.length = last + 2 := by unfold Nd.last at hlast; rw [hlf] at hlast; simp at hlast; omega
  have hq : (n.keys.length : Int) - 1 - 1 = last := by omega
  have hlt : last < n.keys.length := by omega
  have hw1 : IntKind.i64.wrap ((n.keys.length : Int) - 1) = (n.keys.length : Int) - 1 := IntWalk.i64_in _ (by omega)
  have hb0 : decide ((last : Int) < 1) = false := by simp; omega
  clear h hf hs hlast hle
  go_enter Tryz.func75, Tryz.ntmps75
  go_upto_region 1 with fail
  obtain ⟨W, hW⟩ : ∃ W, W = (((w.alloc (.cells #[.bool false, .slice ko n.keys.length kc, .slice vo n.vals.length vc, .slice io n.kids.length ic] 144)).alloc (.cells #[.bool false, .slice none 0 0, .slice none 0 0, .slice none 0 0] 144)).alloc (.cells #[.bool false, .slice none 0 0, .slice none 0 0, .slice none 0 0] 144)) := ⟨_, rfl⟩
  have hB := box3 w (.bool false) (.slice ko n.keys.length kc) (.slice vo n.vals.length vc) (.slice io n.kids.length ic)
  rw [← hW] at hB ⊢
  clear hW
  have HB := Lib.hid hB
  clear hB
  have c0 := HB.out.r0.cell 0
  have c1 := HB.out.r0.cell 1
  have c2 := HB.out.r0.cell 2
  have c3 := HB.out.r0.cell 3
  simp only [List.getElem?_cons_zero, List.getElem?_cons_succ] at c0 c1 c2 c3
  have HW := Lib.hid (H.out.keep HB.out.keep (fun _ _ _ h => h))
  have HSH := Lib.hid (shaped_any HW.out HF.out HS.out)
  have HPA : Hid (∀ X, Keep No W X → ∀ j : Nat, j < n.keys.length → Calls Tryz.prog 104 #[.agg #[.bool n.leaf, .slice ko n.keys.length kc, .slice vo n.vals.length vc, .slice io n.kids.length ic], .int .i64 j] X fun e w' => ∃ ka va ia kb vb ib x,
    e = .returned (.tuple #[.agg #[.bool n.leaf, ka, va, ia], x, .agg #[.bool n.leaf, kb, vb, ib]]) ∧ Parts X (fun b => b < w.heap.size) n j ka va ia kb vb ib x w') := fun X hX j hj => parts_nd (HW.out.keep hX (fun _ _ _ h => h)) HF.out HS.out j hj
  rw [hlf] at HSH HPA
  have HLF := Lib.hid hlf
  clear hlf
  go_upto_region 5 with (go_at_call 103; refine HSH.out.mono ?_; rintro e w1 ⟨rfl, hk1⟩)
  have HB1 := Lib.hid (HB.out.step hk1)
  have HPA2 : Hid (∀ X, Keep No w1 X → ∀ j : Nat, j < n.keys.length → _) := fun X hX j hj => HPA.out X (hk1.trans hX (fun _ _ h => h)) j hj
  clear c0 c1 c2 c3 hq hb0 hw1 hk1 HPA HSH HB HW
  go_loopw [7, 8, 9] (fun b s j wr => ∃ jj bb ss : Nat, b = .int .i64 bb ∧ s = .int .i64 ss ∧ j = .int .i64 jj ∧ 1 ≤ jj ∧ jj ≤ last + 1 ∧ ss ≤ 2005007 ∧ bb ≤ last ∧ Hid (Best n jj bb ss) ∧ Hid (Keep No w1 wr) ∧ Hid (Box3 w [.bool false, .slice ko n.keys.length kc, .slice vo n.vals.length vc, .slice io n.kids.length ic] wr)) (fun _ _ j _ => last + 1 - (intOf j).toNat)
  case atStart => exact ⟨1, 0, 0, rfl, rfl, rfl, by omega, by omega, by omega, by omega, ⟨fun _ => ⟨rfl, rfl⟩, fun h => by omega⟩, Keep.refl _ _, HB1.out⟩
  case round =>
    obtain ⟨j, bb, ss, rfl, rfl, rfl, hj1, hj2, hss, hbl, HBE, HKR, HBR⟩ := hrel
    have c0 := HBR.out.r0.cell 0
    have c1 := HBR.out.r0.cell 1
    have c2 := HBR.out.r0.cell 2
    have c3 := HBR.out.r0.cell 3
    simp only [List.getElem?_cons_zero, List.getElem?_cons_succ] at c0 c1 c2 c3
    by_cases hjl : j ≤ last
    · have hpa := Lib.hid (HPA2.out wr HKR.out j (by omega))
      have hdj : decide ((j : Int) ≤ (last : Int)) = true := by simpa using hjl
      go_upto_region 11 with (go_at_call 104; refine hpa.out.mono ?_; rintro e w2 ⟨ka, va, ia, kb, vb, ib, x, rfl, hp⟩; obtain ⟨ao1, ac1, ao2, ac2, ao3, ac3, rfl, rfl, rfl⟩ := hp.fst.forms; obtain ⟨bo1, bc1, bo2, bc2, bo3, bc3, rfl, rfl, rfl⟩ := hp.snd.forms; have HP := Lib.hid hp; clear hp)
      have HX0 := Lib.hid (box2 w2 (.bool false) (.slice ao1 (n.fst j).keys.length ac1) (.slice ao2 (n.fst j).vals.length ac2) (.slice ao3 (n.fst j).kids.length ac3) (.bool false) (.slice bo1 (n.snd j).keys.length bc1) (.slice bo2 (n.snd j).vals.length bc2) (.slice bo3 (n.snd j).kids.length bc3))
      generalize (w2.alloc (Obj.cells #[.bool false, .slice ao1 (n.fst j).keys.length ac1, .slice ao2 (n.fst j).vals.length ac2, .slice ao3 (n.fst j).kids.length ac3] 144)).alloc (Obj.cells #[.bool false, .slice bo1 (n.snd j).keys.length bc1, .slice bo2 (n.snd j).vals.length bc2, .slice bo3 (n.snd j).kids.length bc3] 144) = X at *
      have HX1 := Lib.hid (HX0.out.step ((Keep.refl No X).drew))
      have hL1 := HX1.out.limbs
      have HZ1 : Hid (∀ Y, Hid (Box2 w2 [.bool false, .slice ao1 (n.fst j).keys.length ac1, .slice ao2 (n.fst j).vals.length ac2, .slice ao3 (n.fst j).kids.length ac3] [.bool false, .slice bo1 (n.snd j).keys.length bc1, .slice bo2 (n.snd j).vals.length bc2, .slice bo3 (n.snd j).kids.length bc3] Y) → Calls Tryz.prog 74 #[.agg #[.bool false, .slice ao1 (n.fst j).keys.length ac1, .slice ao2 (n.fst j).vals.length ac2, .slice ao3 (n.fst j).kids.length ac3]] Y fun e w' => e = .returned (.int .i64 (n.fst j).size) ∧ Keep No Y w') := fun Y hY => size_half HP.out.fst (HF.out.fst j) (by rw [n.fst_leaf]; exact HLF.out) hY.out.keep
      have HZ2 : Hid (∀ Y, Hid (Box2 w2 [.bool false, .slice ao1 (n.fst j).keys.length ac1, .slice ao2 (n.fst j).vals.length ac2, .slice ao3 (n.fst j).kids.length ac3] [.bool false, .slice bo1 (n.snd j).keys.length bc1, .slice bo2 (n.snd j).vals.length bc2, .slice bo3 (n.snd j).kids.length bc3] Y) → Calls Tryz.prog 74 #[.agg #[.bool false, .slice bo1 (n.snd j).keys.length bc1, .slice bo2 (n.snd j).vals.length bc2, .slice bo3 (n.snd j).kids.length bc3]] Y fun e w' => e = .returned (.int .i64 (n.snd j).size) ∧ Keep No Y w') := fun Y hY => size_half HP.out.snd (HF.out.snd j) (by rw [n.snd_leaf]; exact HLF.out) hY.out.keep
      clear c0 c1 c2 c3
      go_region_held3 (fun Y => Y.cell? ⟨w2.heap.size, 0, none⟩ = some (.bool false) ∧ Y.cell? ⟨w2.heap.size, 1, none⟩ = some (.slice ao1 (n.fst j).keys.length ac1) ∧ Y.cell? ⟨w2.heap.size, 2, none⟩ = some (.slice ao2 (n.fst j).vals.length ac2) ∧ Y.cell? ⟨w2.heap.size, 3, none⟩ = some (.slice ao3 (n.fst j).kids.length ac3) ∧
          Y.cell? ⟨w2.heap.size + 1, 0, none⟩ = some (.bool false) ∧ Y.cell? ⟨w2.heap.size + 1, 1, none⟩ = some (.slice bo1 (n.snd j).keys.length bc1) ∧ Y.cell? ⟨w2.heap.size + 1, 2, none⟩ = some (.slice bo2 (n.snd j).vals.length bc2) ∧ Y.cell? ⟨w2.heap.size + 1, 3, none⟩ = some (.slice bo3 (n.snd j).kids.length bc3) ∧
          Hid (Box2 w2 [.bool false, .slice ao1 (n.fst j).keys.length ac1, .slice ao2 (n.fst j).vals.length ac2, .slice ao3 (n.fst j).kids.length ac3] [.bool false, .slice bo1 (n.snd j).keys.length bc1, .slice bo2 (n.snd j).vals.length bc2, .slice bo3 (n.snd j).kids.length bc3] Y))
        (assumption)
        (first
          | (go_at_call_of 74 (Value.slice ao1 (n.fst j).keys.length ac1); go_split_ands; refine (HZ1.out _ (by assumption)).mono ?_; rintro e w3 ⟨rfl, hk3⟩; have HK3 := Lib.hid hk3; clear hk3; have HX2 := Lib.hid (HX1.out.step HK3.out); have hL2 := HX2.out.limbs)
          | (go_at_call_of 74 (Value.slice bo1 (n.snd j).keys.length bc1); go_split_ands; refine (HZ2.out _ (by assumption)).mono ?_; rintro e w4 ⟨rfl, hk4⟩; have HK4 := Lib.hid hk4; clear hk4; have HX3 := Lib.hid (HX2.out.step HK4.out); have hL3 := HX3.out.limbs))
      go_upto_region 12 with fail
      have ew : (if (n.fst j).size < (n.snd j).size then ((n.snd j).size : Int) else ((n.fst j).size : Int)) = ((n.worst j : Nat) : Int) := by unfold Nd.worst; split <;> omega
      rw [ew]
      clear ew
      have hws : n.worst j ≤ 2005007 := by have h1 := (HF.out.fst j).size; have h2 := (HF.out.snd j).size; unfold Nd.worst; omega
      generalize hwj : n.worst j = ws at *
      have HWJ := Lib.hid hwj
      have HB4 := Lib.hid (((HBR.out.step HP.out.keep).step HX0.out.keep).step (((Keep.refl No X).drew.trans HK3.out (fun _ _ h => h)).trans HK4.out (fun _ _ h => h)))
      have HK5 := Lib.hid (((HKR.out.trans HP.out.keep (fun _ _ h => h)).trans HX0.out.keep (fun _ _ h => h)).trans (((Keep.refl No X).drew.trans HK3.out (fun _ _ h => h)).trans HK4.out (fun _ _ h => h)) (fun _ _ h => h))
      clear hwj
      by_cases hb0 : bb = 0
      · have hd0 : ((bb : Int) == 0) = true := by simp; omega
        have HBB := Lib.hid hb0
        clear hb0
        go_wp2_with fail
        go_roundw
        case rel => exact ⟨j + 1, j, ws, rfl, rfl, by go_num, by omega, by omega, by omega, by omega, HWJ.out ▸ HBE.out.take hj1 (.inl HBB.out), HK5.out, HB4.out⟩
        case measure => simp [intOf]; omega
      · have hd0 : ((bb : Int) == 0) = false := by simp; omega
        have HBB := Lib.hid hb0
        clear hb0
        by_cases hs : ws < ss
        · have hd1 : decide ((ws : Int) < (ss : Int)) = true := by simpa using hs
          go_wp2_with fail
          go_roundw
          case rel => exact ⟨j + 1, j, ws, rfl, rfl, by go_num, by omega, by omega, by omega, by omega, HWJ.out ▸ HBE.out.take hj1 (.inr (by rw [HWJ.out]; exact hs)), HK5.out, HB4.out⟩
          case measure => simp [intOf]; omega
        · have hd1 : decide ((ws : Int) < (ss : Int)) = false := by simpa using hs
          go_wp2_with fail
          go_roundw
          case rel => exact ⟨j + 1, bb, ss, rfl, rfl, by go_num, by omega, by omega, by omega, by omega, HBE.out.leave HBB.out (by rw [HWJ.out]; exact hs) hj1, HK5.out, HB4.out⟩
          case measure => simp [intOf]; omega
    · obtain rfl : j = last + 1 := by omega
      obtain ⟨gb1, gb2, gb3, gb4⟩ := HBE.out.some (by omega)
      have HG := Lib.hid gb4
      have hdj : decide (((last + 1 : Nat) : Int) ≤ (last : Int)) = false := by simp; omega
      have hpa := Lib.hid (HPA2.out wr HKR.out bb (by omega))
      clear gb3 gb4
      go_upto_region 15 with (go_at_call 104; refine hpa.out.mono ?_; rintro e w2 ⟨ka, va, ia, kb, vb, ib, x, rfl, hp⟩; obtain ⟨ao1, ac1, ao2, ac2, ao3, ac3, rfl, rfl, rfl⟩ := hp.fst.forms; obtain ⟨bo1, bc1, bo2, bc2, bo3, bc3, rfl, rfl, rfl⟩ := hp.snd.forms; obtain ⟨xo, xc, rfl, _, _⟩ := hp.key.form; have HP := Lib.hid hp; clear hp)
      have HX0 := Lib.hid (box2 w2 (.bool false) (.slice ao1 (n.fst bb).keys.length ac1) (.slice ao2 (n.fst bb).vals.length ac2) (.slice ao3 (n.fst bb).kids.length ac3) (.bool false) (.slice bo1 (n.snd bb).keys.length bc1) (.slice bo2 (n.snd bb).vals.length bc2) (.slice bo3 (n.snd bb).kids.length bc3))
      generalize (w2.alloc (Obj.cells #[.bool false, .slice ao1 (n.fst bb).keys.length ac1, .slice ao2 (n.fst bb).vals.length ac2, .slice ao3 (n.fst bb).kids.length ac3] 144)).alloc (Obj.cells #[.bool false, .slice bo1 (n.snd bb).keys.length bc1, .slice bo2 (n.snd bb).vals.length bc2, .slice bo3 (n.snd bb).kids.length bc3] 144) = X at *
      have HX1 := Lib.hid (HX0.out.step ((Keep.refl No X).drew))
      have HV1 := Lib.hid ((((HBR.out.step HP.out.keep).step HX0.out.keep).wait).step ((Keep.refl No X).drew))
      have HO1 : Hid (∀ Y, Hid (Box2 w2 [.bool false, .slice ao1 (n.fst bb).keys.length ac1, .slice ao2 (n.fst bb).vals.length ac2, .slice ao3 (n.fst bb).kids.length ac3] [.bool false, .slice bo1 (n.snd bb).keys.length bc1, .slice bo2 (n.snd bb).vals.length bc2, .slice bo3 (n.snd bb).kids.length bc3] Y) → Calls Tryz.prog 105 #[.agg #[.bool false, .slice ao1 (n.fst bb).keys.length ac1, .slice ao2 (n.fst bb).vals.length ac2, .slice ao3 (n.fst bb).kids.length ac3]] Y fun e w' => ∃ kv' vv' iv', e = .returned (.agg #[.bool false, kv', vv', iv']) ∧ NdO w' (From Y.heap.size) kv' vv' iv' (n.fst bb) ∧ Keep No Y w') := fun Y hY => own_half HP.out.fst (HF.out.fst bb) (by rw [n.fst_leaf]; exact HLF.out) hY.out.keep
      have HO2 : Hid (∀ Y, Hid (Box2 w2 [.bool false, .slice ao1 (n.fst bb).keys.length ac1, .slice ao2 (n.fst bb).vals.length ac2, .slice ao3 (n.fst bb).kids.length ac3] [.bool false, .slice bo1 (n.snd bb).keys.length bc1, .slice bo2 (n.snd bb).vals.length bc2, .slice bo3 (n.snd bb).kids.length bc3] Y) → Calls Tryz.prog 105 #[.agg #[.bool false, .slice bo1 (n.snd bb).keys.length bc1, .slice bo2 (n.snd bb).vals.length bc2, .slice bo3 (n.snd bb).kids.length bc3]] Y fun e w' => ∃ kv' vv' iv', e = .returned (.agg #[.bool false, kv', vv', iv']) ∧ NdO w' (From Y.heap.size) kv' vv' iv' (n.snd bb) ∧ Keep No Y w') := fun Y hY => own_half HP.out.snd (HF.out.snd bb) (by rw [n.snd_leaf]; exact HLF.out) hY.out.keep
      have HO3 : Hid (∀ Y, Hid (Box2 w2 [.bool false, .slice ao1 (n.fst bb).keys.length ac1, .slice ao2 (n.fst bb).vals.length ac2, .slice ao3 (n.fst bb).kids.length ac3] [.bool false, .slice bo1 (n.snd bb).keys.length bc1, .slice bo2 (n.snd bb).vals.length bc2, .slice bo3 (n.snd bb).kids.length bc3] Y) → Calls Tryz.prog 51 #[.slice xo (n.keys.getD bb []).length xc] Y fun e w' => ∃ v', e = .returned v' ∧ Own w' (From Y.heap.size) 5 v' ((n.keys.getD bb []).map u8) ∧ Keep No Y w') := fun Y hY => clone_B _ _ _ _ (HP.out.key.keep hY.out.keep (fun _ _ _ h => h)) (cells1_u8 _) (by have := mem_getD_len HF.out.klen bb; rw [List.length_map]; omega)
      have hL1 := HX1.out.limbs
      clear c0 c1 c2 c3
      have n6 : ¬ w.heap.size + 1 + 1 = w.heap.size + 1 := by omega
      have n7 : ¬ w.heap.size + 1 = w.heap.size + 1 + 1 := by omega
      have hw2 : w.heap.size + 1 + 1 < w2.heap.size := by obtain ⟨ds, h1, _⟩ := (HBR.out.step HP.out.keep).wait.r2; exact h1.lt
      have m1 : ¬ w2.heap.size = w.heap.size + 1 := by omega
      have m2 : ¬ w2.heap.size = w.heap.size + 1 + 1 := by omega
      have m3 : ¬ w2.heap.size + 1 = w.heap.size + 1 := by omega
      have m4 : ¬ w2.heap.size + 1 = w.heap.size + 1 + 1 := by omega
      have m5 : ¬ w.heap.size + 1 = w2.heap.size := by omega
      have m6 : ¬ w.heap.size + 1 + 1 = w2.heap.size := by omega
      have m7 : ¬ w.heap.size + 1 = w2.heap.size + 1 := by omega
      have m9 : ¬ w2.heap.size = w.heap.size := by omega
      have m10 : ¬ w.heap.size = w2.heap.size := by omega
      have m8 : ¬ w.heap.size + 1 + 1 = w2.heap.size + 1 := by omega
      obtain ⟨⟨f0, f1, f2, f3⟩, ⟨g0, g1, g2, g3⟩, _, _⟩ := HV1.out.limbs
      go_region_held3 (fun Y => Y.cell? ⟨w2.heap.size, 0, none⟩ = some (.bool false) ∧ Y.cell? ⟨w2.heap.size, 1, none⟩ = some (.slice ao1 (n.fst bb).keys.length ac1) ∧ Y.cell? ⟨w2.heap.size, 2, none⟩ = some (.slice ao2 (n.fst bb).vals.length ac2) ∧ Y.cell? ⟨w2.heap.size, 3, none⟩ = some (.slice ao3 (n.fst bb).kids.length ac3) ∧
          Y.cell? ⟨w2.heap.size + 1, 0, none⟩ = some (.bool false) ∧ Y.cell? ⟨w2.heap.size + 1, 1, none⟩ = some (.slice bo1 (n.snd bb).keys.length bc1) ∧ Y.cell? ⟨w2.heap.size + 1, 2, none⟩ = some (.slice bo2 (n.snd bb).vals.length bc2) ∧ Y.cell? ⟨w2.heap.size + 1, 3, none⟩ = some (.slice bo3 (n.snd bb).kids.length bc3))
        (first | (with_reducible (refine ⟨?_, ?_, ?_, ?_, ?_, ?_, ?_, ?_⟩ <;> assumption)) | go_keep)
        (first
          | (go_at_call_of 105 (Value.slice ao1 (n.fst bb).keys.length ac1); refine (HO1.out _ HX1).mono ?_; rintro e w3 ⟨k1, v1, i1, rfl, ho, hk⟩; obtain ⟨do1, dc1, do2, dc2, do3, dc3, rfl, rfl, rfl⟩ := ho.forms; have HK1 := Lib.hid hk; have HA := Lib.hid (ho.r.more (D' := fun b => w.heap.size + 1 + 1 < b) (fun b _ h => by obtain ⟨ds, h2, _⟩ := HV1.out.r2; have := h2.lt; unfold From at *; omega)); clear ho hk; have HX2 := Lib.hid (HX1.out.step HK1.out); have HV2 := Lib.hid (HV1.out.step HK1.out); clear hL1 f0 f1 f2 f3 g0 g1 g2 g3; obtain ⟨l0, l1, l2, l3, l4, l5, l6, l7, _⟩ := HX2.out.limbs)
          | (go_at_call 51; refine (HO3.out _ HX2).mono ?_; rintro e w4 ⟨xv, rfl, ho, hk⟩; have HK2 := Lib.hid hk; have HXV : Hid (BS w4 (fun b => w.heap.size + 1 + 1 < b) xv (n.keys.getD bb [])) := (ho.rs.more (fun b _ h => by obtain ⟨ds, h2, _⟩ := HV2.out.r2; have := h2.lt; unfold From at *; omega)); clear ho hk; obtain ⟨xvo, xvc, rfl, _, _⟩ := HXV.out.form; have HA := Lib.hid (HA.out.keep HK2.out (fun _ _ _ h => h)); have HX3 := Lib.hid (HX2.out.step HK2.out); have HV3 := Lib.hid (HV2.out.step HK2.out); clear l0 l1 l2 l3 l4 l5 l6 l7; obtain ⟨p0, p1, p2, p3, p4, p5, p6, p7, _⟩ := HX3.out.limbs)
          | (go_at_call_of 105 (Value.slice bo1 (n.snd bb).keys.length bc1); refine (HO2.out _ HX3).mono ?_; rintro e w5 ⟨k2, v2, i2, rfl, ho, hk⟩; obtain ⟨eo1, ec1, eo2, ec2, eo3, ec3, rfl, rfl, rfl⟩ := ho.forms; have HK3 := Lib.hid hk; have HE := Lib.hid (ho.r.more (D' := fun b => w.heap.size + 1 + 1 < b) (fun b _ h => by have h1 := HV3.out.keep.size; obtain ⟨ds, h2, _⟩ := HV3.out.r2; have := h2.lt; unfold From at *; omega)); clear ho hk; have HA := Lib.hid (HA.out.keep HK3.out (fun _ _ _ h => h)); have HXV := Lib.hid (HXV.out.keep HK3.out (fun _ _ _ h => h)); have HX4 := Lib.hid (HX3.out.step HK3.out); have HV4 := Lib.hid (HV3.out.step HK3.out); clear p0 p1 p2 p3 p4 p5 p6 p7; obtain ⟨q0, q1, q2, q3, q4, q5, q6, q7, _⟩ := HX4.out.limbs; obtain ⟨⟨r0, r1, r2, r3⟩, ⟨s0, s1, s2, s3⟩, ⟨t0, t1, t2, t3, tt0, tt1, tt2, tt3⟩, ⟨z0, z1, z2, z3, zz0, zz1, zz2, zz3⟩⟩ := HV4.out.limbs))
      all_goals go_wp2_with fail
      have hd := HV4.out.fill (.bool false) (.slice do1 (n.fst bb).keys.length dc1) (.slice do2 (n.fst bb).vals.length dc2) (.slice do3 (n.fst bb).kids.length dc3) (.bool false) (.slice eo1 (n.snd bb).keys.length ec1) (.slice eo2 (n.snd bb).vals.length ec2) (.slice eo3 (n.snd bb).kids.length ec3)
      have k8 := keep8 w w5 (.bool false) (.slice do1 (n.fst bb).keys.length dc1) (.slice do2 (n.fst bb).vals.length dc2) (.slice do3 (n.fst bb).kids.length dc3) (.bool false) (.slice eo1 (n.snd bb).keys.length ec1) (.slice eo2 (n.snd bb).vals.length ec2) (.slice eo3 (n.snd bb).kids.length ec3)
      have hne : ∀ b, w.heap.size + 1 + 1 < b → ¬ (b = w.heap.size + 1 ∨ b = w.heap.size + 1 + 1) := fun b h1 h2 => by omega
      refine bodyPost_ret (ret_node4 rfl _ hd.r1 rfl hd.r2 rfl) rfl ?_
      refine ⟨_, _, _, _, _, _, _, bb, rfl, ⟨gb1, by omega, fun i h1 h2 => HG.out i h1 (by omega)⟩, hd.keep, ?_, ?_, ?_⟩
      · exact (HA.out.keep k8 (fun b _ e => hne b e)).more (fun b _ e => by unfold From; omega)
      · exact (HE.out.keep k8 (fun b _ e => hne b e)).more (fun b _ e => by unfold From; omega)
      · exact (HXV.out.keep k8 (fun b _ e => hne b e)).more (fun b _ e => by unfold From; omega)
theorem split_nd (h : NdR w D kv vv iv n) (hf : n.Few) (hs : n.Sh) (hl : 1 ≤ n.last) : Calls Tryz.prog 75 #[.agg #[.bool n.leaf, kv, vv, iv]] w fun e w' => ∃ ka va ia kb vb ib x, ∃ k : Nat,
    e = .returned (.tuple #[.agg #[.bool n.leaf, ka, va, ia], x, .agg #[.bool n.leaf, kb, vb, ib], .bool true]) ∧ (1 ≤ k ∧ k ≤ n.last ∧ ∀ j, 1 ≤ j → j ≤ n.last → n.worst k ≤ n.worst j) ∧ SplitTo w n k ka va ia kb vb ib x w' := by
  rcases hlf : n.leaf with _ | _
  · exact split_false h hf hs hlf hl
  · exact split_true h hf hs hlf hl
end
end Go.Proofs.YtfhapbggngdckaaGreat
