/- Nodes: parts. -/
import Derived.Test.YtfhapbggngdckaaGreatOwnN
import Derived.Test.YtfhapbggngdckaaGreatRep
namespace Go.Proofs.YtfhapbggngdckaaGreat
set_option linter.unusedSimpArgs false
set_option linter.unusedVariables false
open Go.RowKit
/-- The two halves of a node at k. -/
def Nd.fst (n : Nd) (k : Nat) : Nd := ⟨n.leaf, n.keys.take k, n.vals.take k, if n.leaf then [] else n.kids.take (k + 1)⟩
def Nd.snd (n : Nd) (k : Nat) : Nd := if n.leaf then ⟨true, n.keys.drop k, n.vals.drop k, []⟩ else ⟨false, n.keys.drop (k + 1), [], n.kids.drop (k + 1)⟩
section
variable {P : Program} {t e : TypeId} {z : Value} {bytes : Nat} {w w' : World} {D : Nat → Prop} {u v kv vv iv : Value} {xs : List Value} {l : List Byt} {is : List Int} {n : Nd}
theorem run_slice_hi (E : ET P t e z bytes) (ao : Option Addr) (n cap hi : Nat) (h : hi ≤ cap) (w : World) :
    (Instr.slice t (.slice ao n cap) none (some (.int .i64 hi)) none).run P w = .ok (.slice (if cap = 0 then ao else ao.map (·.add 0)) hi cap) w := by
  obtain ⟨i, hi', hz, hs, hby⟩ := E.hi
  simp [Instr.slice, run_underlying E.ht, Instr.sliceBounds, Instr.sliceBound, asIntOf, h, sizeOf, typeInfo, hi', hs]
theorem RS.slice_hi (E : ET P t e z bytes) (h : RS w D u xs) (hi : Nat) (hl : hi ≤ xs.length) : ∃ ao cap, (∀ W, (Instr.slice t u none (some (.int .i64 hi)) none).run P W = .ok (.slice ao hi cap) W) ∧ RS w D (.slice ao hi cap) (xs.take hi) := by
  obtain ⟨ao, cap, rfl, hcap, hm, hcell⟩ := h
  refine ⟨_, cap, fun W => run_slice_hi E ao xs.length cap hi (by omega) W, if cap = 0 then ao else ao.map (·.add 0), cap, by simp [Nat.min_eq_left hl], by simp; omega, by omega, fun hp => ?_⟩
  rw [List.length_take] at hp
  obtain ⟨b, o, rfl, h1, h2, hc⟩ := hcell (by omega)
  refine ⟨b, o, by split <;> simp [Addr.add_lit], h1, h2, fun i hi => ?_⟩
  rw [List.length_take] at hi
  rw [hc i (by omega), List.getElem?_take_of_lt (by omega)]
theorem RS.slice_lo (E : ET P t e z bytes) (h : RS w D u xs) (lo : Nat) (hl : lo ≤ xs.length) : ∃ ao cap, (∀ W, (Instr.slice t u (some (.int .i64 lo)) none none).run P W = .ok (.slice ao (xs.length - lo) cap) W) ∧ RS w D (.slice ao (xs.length - lo) cap) (xs.drop lo) := by
  obtain ⟨u', h1, h2⟩ := h.slice_drop E lo hl
  obtain ⟨ao, cap, e, _⟩ := id h2
  rw [List.length_drop] at e
  subst e
  exact ⟨ao, cap, h1, h2⟩
theorem BBS.slice_hi (h : BBS w D v l) (hi : Nat) (hl : hi ≤ l.length) : ∃ ao cap, (∀ W, (Instr.slice 115 v none (some (.int .i64 hi)) none).run Tryz.prog W = .ok (.slice ao hi cap) W) ∧ BBS w D (.slice ao hi cap) (l.take hi) := by
  obtain ⟨vs, h1, h2⟩ := h
  obtain ⟨ao, cap, h3, h4⟩ := h1.slice_hi etBB hi (by rw [h2.1]; exact hl)
  exact ⟨ao, cap, h3, _, h4, h2.take hi⟩
theorem BBS.slice_lo (h : BBS w D v l) (lo : Nat) (hl : lo ≤ l.length) : ∃ ao cap, (∀ W, (Instr.slice 115 v (some (.int .i64 lo)) none none).run Tryz.prog W = .ok (.slice ao (l.length - lo) cap) W) ∧ BBS w D (.slice ao (l.length - lo) cap) (l.drop lo) := by
  obtain ⟨vs, h1, h2⟩ := h
  obtain ⟨ao, cap, h3, h4⟩ := h1.slice_lo etBB lo (by rw [h2.1]; exact hl)
  rw [h2.1] at h3 h4
  exact ⟨ao, cap, h3, _, h4, h2.drop lo⟩
theorem IS.slice_hi (h : IS w D v is) (hi : Nat) (hl : hi ≤ is.length) : ∃ ao cap, (∀ W, (Instr.slice 62 v none (some (.int .i64 hi)) none).run Tryz.prog W = .ok (.slice ao hi cap) W) ∧ IS w D (.slice ao hi cap) (is.take hi) := by
  obtain ⟨ao, cap, h3, h4⟩ := RS.slice_hi etI h hi (by simpa using hl)
  rw [← List.map_take] at h4
  exact ⟨ao, cap, h3, h4⟩
theorem IS.slice_lo (h : IS w D v is) (lo : Nat) (hl : lo ≤ is.length) : ∃ ao cap, (∀ W, (Instr.slice 62 v (some (.int .i64 lo)) none none).run Tryz.prog W = .ok (.slice ao (is.length - lo) cap) W) ∧ IS w D (.slice ao (is.length - lo) cap) (is.drop lo) := by
  obtain ⟨ao, cap, h3, h4⟩ := RS.slice_lo etI h lo (by simpa using hl)
  rw [List.length_map] at h3 h4
  rw [← List.map_drop] at h4
  exact ⟨ao, cap, h3, h4⟩
theorem BBS.nil (w : World) (D : Nat → Prop) : BBS w D (.slice none 0 0) [] := ⟨[], RS.nil _ _, Els.nil⟩
theorem IS.nil (w : World) (D : Nat → Prop) : IS w D (.slice none 0 0) [] := RS.nil _ _
/-- Four cells of a node's box, set. -/
theorem Row.set4 {X : World} {b : Nat} {T : TypeId} {ds : List Value} (h : Row X b T ds) (hl : ds.length = 4) (a0 a1 a2 a3 : Value) : Row ((((X.setCell ⟨b, 0, none⟩ a0).setCell ⟨b, 1, none⟩ a1).setCell ⟨b, 2, none⟩ a2).setCell ⟨b, 3, none⟩ a3) b T [a0, a1, a2, a3] := by
  match ds, hl, h with
  | [y0, y1, y2, y3], _, h3 => exact (((h3.set 0 a0).set 1 a1).set 2 a2).set 3 a3
theorem Row.far4 {X : World} {b c : Nat} {T : TypeId} {ds : List Value} (h : Row X c T ds) (hn : c ≠ b) (a0 a1 a2 a3 : Value) : Row ((((X.setCell ⟨b, 0, none⟩ a0).setCell ⟨b, 1, none⟩ a1).setCell ⟨b, 2, none⟩ a2).setCell ⟨b, 3, none⟩ a3) c T ds :=
  (((h.far (p := ⟨b, 0, none⟩) hn a0).far (p := ⟨b, 1, none⟩) hn a1).far (p := ⟨b, 2, none⟩) hn a2).far (p := ⟨b, 3, none⟩) hn a3
def zn : List Value := [.bool false, .slice none 0 0, .slice none 0 0, .slice none 0 0]
/-- A box with a node, and two boxes for nodes. -/
structure Box3 (w : World) (cs : List Value) (W : World) : Prop where
  keep : Keep No w W
  r0 : Row W w.heap.size 144 cs
  r1 : Row W (w.heap.size + 1) 144 zn
  r2 : Row W (w.heap.size + 1 + 1) 144 zn
theorem box3 (w : World) (a0 a1 a2 a3 : Value) : Box3 w [a0, a1, a2, a3] (((w.alloc (.cells #[a0, a1, a2, a3] 144)).alloc (.cells #[.bool false, .slice none 0 0, .slice none 0 0, .slice none 0 0] 144)).alloc (.cells #[.bool false, .slice none 0 0, .slice none 0 0, .slice none 0 0] 144)) := by
  have r0 := Row.new w 144 [a0, a1, a2, a3]
  have k0 := (Keep.refl No w).alloc (.cells #[a0, a1, a2, a3] 144)
  have s0 : (w.alloc (.cells #[a0, a1, a2, a3] 144)).heap.size = w.heap.size + 1 := by simp
  rw [show ([a0, a1, a2, a3] : List Value).toArray = #[a0, a1, a2, a3] from rfl] at r0
  generalize w.alloc (.cells #[a0, a1, a2, a3] 144) = W0 at *
  have r1 := Row.new W0 144 zn
  have k1 := (Keep.refl No W0).alloc (.cells #[.bool false, .slice none 0 0, .slice none 0 0, .slice none 0 0] 144)
  have s1 : (W0.alloc (.cells #[.bool false, .slice none 0 0, .slice none 0 0, .slice none 0 0] 144)).heap.size = W0.heap.size + 1 := by simp
  rw [show zn.toArray = #[.bool false, .slice none 0 0, .slice none 0 0, .slice none 0 0] from rfl] at r1
  generalize W0.alloc (.cells #[.bool false, .slice none 0 0, .slice none 0 0, .slice none 0 0] 144) = W1 at *
  have r2 := Row.new W1 144 zn
  have k2 := (Keep.refl No W1).alloc (.cells #[.bool false, .slice none 0 0, .slice none 0 0, .slice none 0 0] 144)
  rw [show zn.toArray = #[.bool false, .slice none 0 0, .slice none 0 0, .slice none 0 0] from rfl] at r2
  rw [s0] at r1 s1
  rw [s1] at r2
  exact ⟨(k0.trans k1 (fun _ _ h => h)).trans k2 (fun _ _ h => h), (r0.keep k1 (fun h => h)).keep k2 (fun h => h), r1.keep k2 (fun h => h), r2⟩
/-- Both boxes filled. -/
structure Box3d (w : World) (xs ys : List Value) (W : World) : Prop where
  keep : Keep No w W
  r1 : Row W (w.heap.size + 1) 144 xs
  r2 : Row W (w.heap.size + 1 + 1) 144 ys
theorem Box3.fill {w W : World} {cs : List Value} (h : Box3 w cs W) (a0 a1 a2 a3 b0 b1 b2 b3 : Value) : Box3d w [a0, a1, a2, a3] [b0, b1, b2, b3]
    ((((((((W.setCell ⟨w.heap.size + 1, 0, none⟩ a0).setCell ⟨w.heap.size + 1, 1, none⟩ a1).setCell ⟨w.heap.size + 1, 2, none⟩ a2).setCell ⟨w.heap.size + 1, 3, none⟩ a3).setCell ⟨w.heap.size + 1 + 1, 0, none⟩ b0).setCell ⟨w.heap.size + 1 + 1, 1, none⟩ b1).setCell ⟨w.heap.size + 1 + 1, 2, none⟩ b2).setCell ⟨w.heap.size + 1 + 1, 3, none⟩ b3) := by
  have k1 := four_keep W (w.heap.size + 1) a0 a1 a2 a3
  have r1 := h.r1.set4 rfl a0 a1 a2 a3
  have r2 := h.r2.far4 (b := w.heap.size + 1) (by omega) a0 a1 a2 a3
  generalize ((((W.setCell ⟨w.heap.size + 1, 0, none⟩ a0).setCell ⟨w.heap.size + 1, 1, none⟩ a1).setCell ⟨w.heap.size + 1, 2, none⟩ a2).setCell ⟨w.heap.size + 1, 3, none⟩ a3) = X at *
  have k2 := four_keep X (w.heap.size + 1 + 1) b0 b1 b2 b3
  exact ⟨(h.keep.trans k1 (fun i hi e => by unfold Just at e; omega)).trans k2 (fun i hi e => by unfold Just at e; omega), r1.far4 (b := w.heap.size + 1 + 1) (by omega) b0 b1 b2 b3, r2.set4 rfl b0 b1 b2 b3⟩
theorem Box3d.drew {w W : World} {xs ys : List Value} (h : Box3d w xs ys W) : Box3d w xs ys W.drew := ⟨h.keep.drew, h.r1.drew, h.r2.drew⟩
theorem Box3d.drewN {w W : World} {xs ys : List Value} (h : Box3d w xs ys W) (n : Nat) : Box3d w xs ys (W.drewN n) := ⟨h.keep.drewN n, h.r1.drewN n, h.r2.drewN n⟩
/-- Both halves, in the node's own memory. -/
structure Parts (w : World) (D : Nat → Prop) (n : Nd) (k : Nat) (ka va ia kb vb ib x : Value) (w' : World) : Prop where
  keep : Keep No w w'
  fst : NdR w' D ka va ia (n.fst k)
  snd : NdR w' D kb vb ib (n.snd k)
  key : BS w' D x (n.keys.getD k [])
set_option maxRecDepth 20000 in
set_option maxHeartbeats 2000000 in
theorem parts_leaf (h : NdR w D kv vv iv n) (hf : n.Few) (hlf : n.leaf = true) (k : Nat) (hk : k < n.keys.length) : Calls Tryz.prog 104 #[.agg #[.bool n.leaf, kv, vv, iv], .int .i64 k] w fun e w' => ∃ ka va ia kb vb ib x,
    e = .returned (.tuple #[.agg #[.bool n.leaf, ka, va, ia], x, .agg #[.bool n.leaf, kb, vb, ib]]) ∧ Parts w D n k ka va ia kb vb ib x w' := by
  have hvl := hf.lv hlf
  obtain ⟨a1, p1, s1, b1⟩ := h.keys.slice_hi k (by omega)
  obtain ⟨a2, p2, s2, b2⟩ := h.keys.slice_lo k (by omega)
  obtain ⟨a3, p3, s3, b3⟩ := h.vals.slice_hi k (by omega)
  obtain ⟨a4, p4, s4, b4⟩ := h.vals.slice_lo k (by omega)
  obtain ⟨ko, kc, vo, vc, io, ic, rfl, rfl, rfl⟩ := h.forms
  obtain ⟨_, _, ek, _, HKC⟩ := h.keys.form
  simp only [Value.slice.injEq, true_and] at ek
  obtain ⟨rfl, rfl⟩ := ek
  obtain ⟨gk, ok, uk, rfl, hDk, hgk, ck, bk⟩ := HKC.out k hk
  have BK := Lib.hid bk
  have HB1 := Lib.hid b1
  have HB2 := Lib.hid b2
  have HB3 := Lib.hid b3
  have HB4 := Lib.hid b4
  have hn := hf.keys
  have hfst : n.fst k = ⟨true, n.keys.take k, n.vals.take k, []⟩ := by unfold Nd.fst; simp [hlf]
  have hsnd : n.snd k = ⟨true, n.keys.drop k, n.vals.drop k, []⟩ := by unfold Nd.snd; simp [hlf]
  have hky : n.keys.getD k [] = n.keys[k] := by rw [List.getD_eq_getElem?_getD, List.getElem?_eq_getElem hk]; rfl
  have HF := Lib.hid hfst
  have HS := Lib.hid hsnd
  have HY := Lib.hid hky
  have HVL := Lib.hid hvl
  rw [hlf]
  clear h hf HKC b1 b2 b3 b4 bk hlf hvl hfst hsnd hky
  go_enter Tryz.func104, Tryz.ntmps104
  go_upto_region 2 with fail
  obtain ⟨W, hW⟩ : ∃ W, W = (((w.alloc (.cells #[.bool true, .slice (some ⟨gk, ok, none⟩) n.keys.length kc, .slice vo n.vals.length vc, .slice io n.kids.length ic] 144)).alloc (.cells #[.bool false, .slice none 0 0, .slice none 0 0, .slice none 0 0] 144)).alloc (.cells #[.bool false, .slice none 0 0, .slice none 0 0, .slice none 0 0] 144)) := ⟨_, rfl⟩
  have hB := box3 w (.bool true) (.slice (some ⟨gk, ok, none⟩) n.keys.length kc) (.slice vo n.vals.length vc) (.slice io n.kids.length ic)
  rw [← hW] at hB ⊢
  clear hW
  have HB := Lib.hid hB
  clear hB
  have ck : W.cell? ⟨gk, ok + k, none⟩ = some uk := (HB.out.keep.cell (p := ⟨gk, ok + k, none⟩) hgk (fun h => h)).trans ck
  have c0 := HB.out.r0.cell 0
  have c1 := HB.out.r0.cell 1
  have c2 := HB.out.r0.cell 2
  have c3 := HB.out.r0.cell 3
  have y0 := HB.out.r1.cell 0
  have y1 := HB.out.r1.cell 1
  have y2 := HB.out.r1.cell 2
  have y3 := HB.out.r1.cell 3
  have f0 := HB.out.r1.frozen 0
  have f1 := HB.out.r1.frozen 1
  have f2 := HB.out.r1.frozen 2
  have f3 := HB.out.r1.frozen 3
  have z0 := HB.out.r2.cell 0
  have z1 := HB.out.r2.cell 1
  have z2 := HB.out.r2.cell 2
  have z3 := HB.out.r2.cell 3
  have g0 := HB.out.r2.frozen 0
  have g1 := HB.out.r2.frozen 1
  have g2 := HB.out.r2.frozen 2
  have g3 := HB.out.r2.frozen 3
  simp only [zn, List.getElem?_cons_zero, List.getElem?_cons_succ] at c0 c1 c2 c3 y0 y1 y2 y3 z0 z1 z2 z3
  have n1 : ¬ gk = w.heap.size + 1 := by omega
  have n2 : ¬ gk = w.heap.size + 1 + 1 := by omega
  have n3 : ¬ w.heap.size + 1 = gk := by omega
  have n4 : ¬ w.heap.size + 1 + 1 = gk := by omega
  have n5 : ¬ w.heap.size + 1 + 1 = w.heap.size := by omega
  have n6 : ¬ w.heap.size + 1 + 1 = w.heap.size + 1 := by omega
  have n7 : ¬ w.heap.size + 1 = w.heap.size + 1 + 1 := by omega
  have hx0 : (0 : Int) ≤ (k : Int) := by omega
  have hx1 : (k : Int) < (n.keys.length : Int) := by omega
  go_region_held3 (fun w' => w'.cell? ⟨w.heap.size, 0, none⟩ = some (.bool true) ∧ w'.cell? ⟨w.heap.size, 1, none⟩ = some (.slice (some ⟨gk, ok, none⟩) n.keys.length kc) ∧ w'.cell? ⟨w.heap.size, 2, none⟩ = some (.slice vo n.vals.length vc) ∧ w'.cell? ⟨gk, ok + k, none⟩ = some uk)
    (go_keep) (fail)
  go_wp2_with fail
  have hd := (HB.out.fill (.bool true) (.slice a1 k p1) (.slice a3 k p3) (.slice none 0 0) (.bool true) (.slice a2 (n.keys.length - k) p2) (.slice a4 (n.vals.length - k) p4) (.slice none 0 0)).drew
  refine bodyPost_ret (ret_node3 rfl _ hd.r1 rfl hd.r2 rfl) rfl ?_
  refine ⟨_, _, _, _, _, _, _, rfl, hd.keep, ?_, ?_, ?_⟩
  · rw [HF.out]; exact ⟨HB1.out.keep hd.keep (fun _ _ _ h => h), HB3.out.keep hd.keep (fun _ _ _ h => h), IS.nil _ _⟩
  · rw [HS.out]; exact ⟨HB2.out.keep hd.keep (fun _ _ _ h => h), HB4.out.keep hd.keep (fun _ _ _ h => h), IS.nil _ _⟩
  · rw [HY.out]; exact BK.out.keep hd.keep (fun _ _ _ h => h)
set_option maxRecDepth 20000 in
set_option maxHeartbeats 2000000 in
theorem parts_inner (h : NdR w D kv vv iv n) (hf : n.Few) (hlf : n.leaf = false) (hkl : n.kids.length = n.keys.length + 1) (k : Nat) (hk : k < n.keys.length) : Calls Tryz.prog 104 #[.agg #[.bool n.leaf, kv, vv, iv], .int .i64 k] w fun e w' => ∃ ka va ia kb vb ib x,
    e = .returned (.tuple #[.agg #[.bool n.leaf, ka, va, ia], x, .agg #[.bool n.leaf, kb, vb, ib]]) ∧ (n.vals = [] → Parts w D n k ka va ia kb vb ib x w') := by
  obtain ⟨a1, p1, s1, b1⟩ := h.keys.slice_hi k (by omega)
  obtain ⟨a2, p2, s2, b2⟩ := h.keys.slice_lo (k + 1) (by omega)
  obtain ⟨a3, p3, s3, b3⟩ := h.kids.slice_hi (k + 1) (by omega)
  obtain ⟨a4, p4, s4, b4⟩ := h.kids.slice_lo (k + 1) (by omega)
  rw [show ((k + 1 : Nat) : Int) = (k : Int) + 1 by omega] at s2 s3 s4
  obtain ⟨ko, kc, vo, vc, io, ic, rfl, rfl, rfl⟩ := h.forms
  obtain ⟨_, _, ek, _, HKC⟩ := h.keys.form
  simp only [Value.slice.injEq, true_and] at ek
  obtain ⟨rfl, rfl⟩ := ek
  obtain ⟨gk, ok, uk, rfl, hDk, hgk, ck, bk⟩ := HKC.out k hk
  have BK := Lib.hid bk
  have HB1 := Lib.hid b1
  have HB2 := Lib.hid b2
  have HB3 := Lib.hid b3
  have HB4 := Lib.hid b4
  have hn := hf.keys
  have hky : n.keys.getD k [] = n.keys[k] := by rw [List.getD_eq_getElem?_getD, List.getElem?_eq_getElem hk]; rfl
  have HF : Hid (n.vals = [] → n.fst k = ⟨false, n.keys.take k, [], n.kids.take (k + 1)⟩) := by intro hv; unfold Nd.fst; simp [hlf, hv]
  have HS : Hid (n.snd k = ⟨false, n.keys.drop (k + 1), [], n.kids.drop (k + 1)⟩) := by show _ = _; unfold Nd.snd; simp [hlf]
  have HY := Lib.hid hky
  have q1 : IntKind.i64.wrap ((k : Int) + 1) = (k : Int) + 1 := IntWalk.i64_in _ (by omega)
  rw [hlf]
  have HKL := Lib.hid hkl
  clear h hf HKC b1 b2 b3 b4 bk hlf hky hkl
  go_enter Tryz.func104, Tryz.ntmps104
  go_upto_region 3 with fail
  obtain ⟨W, hW⟩ : ∃ W, W = (((w.alloc (.cells #[.bool false, .slice (some ⟨gk, ok, none⟩) n.keys.length kc, .slice vo n.vals.length vc, .slice io n.kids.length ic] 144)).alloc (.cells #[.bool false, .slice none 0 0, .slice none 0 0, .slice none 0 0] 144)).alloc (.cells #[.bool false, .slice none 0 0, .slice none 0 0, .slice none 0 0] 144)) := ⟨_, rfl⟩
  have hB := box3 w (.bool false) (.slice (some ⟨gk, ok, none⟩) n.keys.length kc) (.slice vo n.vals.length vc) (.slice io n.kids.length ic)
  rw [← hW] at hB ⊢
  clear hW
  have HB := Lib.hid hB
  clear hB
  have ck : W.cell? ⟨gk, ok + k, none⟩ = some uk := (HB.out.keep.cell (p := ⟨gk, ok + k, none⟩) hgk (fun h => h)).trans ck
  have c0 := HB.out.r0.cell 0
  have c1 := HB.out.r0.cell 1
  have c2 := HB.out.r0.cell 2
  have c3 := HB.out.r0.cell 3
  have y0 := HB.out.r1.cell 0
  have y1 := HB.out.r1.cell 1
  have y2 := HB.out.r1.cell 2
  have y3 := HB.out.r1.cell 3
  have f0 := HB.out.r1.frozen 0
  have f1 := HB.out.r1.frozen 1
  have f2 := HB.out.r1.frozen 2
  have f3 := HB.out.r1.frozen 3
  have z0 := HB.out.r2.cell 0
  have z1 := HB.out.r2.cell 1
  have z2 := HB.out.r2.cell 2
  have z3 := HB.out.r2.cell 3
  have g0 := HB.out.r2.frozen 0
  have g1 := HB.out.r2.frozen 1
  have g2 := HB.out.r2.frozen 2
  have g3 := HB.out.r2.frozen 3
  simp only [zn, List.getElem?_cons_zero, List.getElem?_cons_succ] at c0 c1 c2 c3 y0 y1 y2 y3 z0 z1 z2 z3
  have n1 : ¬ gk = w.heap.size + 1 := by omega
  have n2 : ¬ gk = w.heap.size + 1 + 1 := by omega
  have n3 : ¬ w.heap.size + 1 = gk := by omega
  have n4 : ¬ w.heap.size + 1 + 1 = gk := by omega
  have n5 : ¬ w.heap.size + 1 + 1 = w.heap.size := by omega
  have n6 : ¬ w.heap.size + 1 + 1 = w.heap.size + 1 := by omega
  have n7 : ¬ w.heap.size + 1 = w.heap.size + 1 + 1 := by omega
  have hx0 : (0 : Int) ≤ (k : Int) := by omega
  have hx1 : (k : Int) < (n.keys.length : Int) := by omega
  go_region_held3 (fun w' => w'.cell? ⟨w.heap.size, 1, none⟩ = some (.slice (some ⟨gk, ok, none⟩) n.keys.length kc) ∧ w'.cell? ⟨w.heap.size, 3, none⟩ = some (.slice io n.kids.length ic) ∧ w'.cell? ⟨gk, ok + k, none⟩ = some uk)
    (go_keep) (fail)
  go_wp2_with fail
  have hd := (HB.out.fill (.bool false) (.slice a1 k p1) (.slice none 0 0) (.slice a3 (k + 1) p3) (.bool false) (.slice a2 (n.keys.length - (k + 1)) p2) (.slice none 0 0) (.slice a4 (n.kids.length - (k + 1)) p4)).drew
  refine bodyPost_ret (ret_node3 rfl _ hd.r1 rfl hd.r2 rfl) rfl ?_
  refine ⟨_, _, _, _, _, _, _, rfl, fun hv => ⟨hd.keep, ?_, ?_, ?_⟩⟩
  · rw [HF.out hv]; exact ⟨HB1.out.keep hd.keep (fun _ _ _ h => h), BBS.nil _ _, HB3.out.keep hd.keep (fun _ _ _ h => h)⟩
  · rw [HS.out]; exact ⟨HB2.out.keep hd.keep (fun _ _ _ h => h), BBS.nil _ _, HB4.out.keep hd.keep (fun _ _ _ h => h)⟩
  · rw [HY.out]; exact BK.out.keep hd.keep (fun _ _ _ h => h)
end
end Go.Proofs.YtfhapbggngdckaaGreat
