/- Nodes: own. -/
import Derived.Test.YtfhapbggngdckaaGreatOwn
namespace Go.Proofs.YtfhapbggngdckaaGreat
open Go.RowKit
/-- Two boxes of nodes: one that is read, one that is written. -/
structure Two (w : World) (b : Nat) (cs : List Value) (X : World) : Prop where
  keep : Keep No w X
  row : Row X b 144 cs
  it : ∃ ds, Row X (b + 1) 144 ds ∧ ds.length = 4
  big : w.heap.size ≤ b
section
variable {w X Y : World} {b : Nat} {cs : List Value}
theorem Two.step (h : Two w b cs X) (k : Keep No X Y) : Two w b cs Y := by
  obtain ⟨h1, h2, ⟨ds, h3, h5⟩, h4⟩ := h
  exact ⟨h1.trans k (fun _ _ h => h), h2.keep k (fun h => h), ⟨ds, h3.keep k (fun h => h), h5⟩, h4⟩
theorem Two.set (h : Two w b cs X) (i : Nat) (u : Value) : Two w b cs (X.setCell ⟨b + 1, i, none⟩ u) := by
  obtain ⟨h1, h2, ⟨ds, h3, h5⟩, h4⟩ := h
  refine ⟨h1.setCell (p := ⟨b + 1, i, none⟩) (fun hb => by simp only at hb; omega) u, h2.far (p := ⟨b + 1, i, none⟩) (by simp) u, ⟨_, h3.set i u, by simp [h5]⟩, h4⟩
theorem Two.onto (h : Two w b cs X) (h' : Keep No X Y) : Two w b cs Y := h.step h'
theorem Two.limbs {a0 a1 a2 a3 : Value} (h : Two w b [a0, a1, a2, a3] X) : X.cell? ⟨b, 0, none⟩ = some a0 ∧ X.cell? ⟨b, 1, none⟩ = some a1 ∧ X.cell? ⟨b, 2, none⟩ = some a2 ∧ X.cell? ⟨b, 3, none⟩ = some a3 ∧
    X.frozen? ⟨b + 1, 0, none⟩ = false ∧ X.frozen? ⟨b + 1, 1, none⟩ = false ∧ X.frozen? ⟨b + 1, 2, none⟩ = false ∧ X.frozen? ⟨b + 1, 3, none⟩ = false ∧ Hid (Two w b [a0, a1, a2, a3] X) := by
  obtain ⟨ds, h3, h5⟩ := h.it
  exact ⟨h.row.cell 0, h.row.cell 1, h.row.cell 2, h.row.cell 3, h3.frozen 0, h3.frozen 1, h3.frozen 2, h3.frozen 3, h⟩
theorem Two.ys (h : Two w b cs X) : ∃ y0 y1 y2 y3, X.cell? ⟨b + 1, 0, none⟩ = some y0 ∧ X.cell? ⟨b + 1, 1, none⟩ = some y1 ∧ X.cell? ⟨b + 1, 2, none⟩ = some y2 ∧ X.cell? ⟨b + 1, 3, none⟩ = some y3 := by
  obtain ⟨ds, h3, h5⟩ := h.it
  match ds, h5 with
  | [y0, y1, y2, y3], _ => exact ⟨y0, y1, y2, y3, h3.cell 0, h3.cell 1, h3.cell 2, h3.cell 3⟩
theorem Two.done (h : Two w b cs X) (a0 a1 a2 a3 : Value) : Row ((((X.setCell ⟨b + 1, 0, none⟩ a0).setCell ⟨b + 1, 1, none⟩ a1).setCell ⟨b + 1, 2, none⟩ a2).setCell ⟨b + 1, 3, none⟩ a3) (b + 1) 144 [a0, a1, a2, a3] := by
  obtain ⟨ds, h3, h5⟩ := h.it
  match ds, h5, h3 with
  | [y0, y1, y2, y3], _, h3 => exact (((h3.set 0 a0).set 1 a1).set 2 a2).set 3 a3
theorem four_keep (X : World) (b : Nat) (a0 a1 a2 a3 : Value) : Keep (Just b) X ((((X.setCell ⟨b, 0, none⟩ a0).setCell ⟨b, 1, none⟩ a1).setCell ⟨b, 2, none⟩ a2).setCell ⟨b, 3, none⟩ a3) :=
  (((((Keep.refl (Just b) X).setCell (p := ⟨b, 0, none⟩) (fun _ => rfl) _).setCell (p := ⟨b, 1, none⟩) (fun _ => rfl) _).setCell (p := ⟨b, 2, none⟩) (fun _ => rfl) _).setCell (p := ⟨b, 3, none⟩) (fun _ => rfl) _)
theorem load_node {w : World} {g : Nat} {a b c d : Value} (hr : Row w g 144 [a, b, c, d]) : (loadVar 144 ⟨g, 0, none⟩).run Tryz.prog w = .ok (.agg #[a, b, c, d]) w :=
  run_loadVar_row (P := Tryz.prog) w g 144 144 #[a, b, c, d] (0, 0) _ hr Tryz.underlying144 rfl (by kernel_rfl)
/-- A node as the one result. -/
theorem ret_node1 {fn : Func} {p : Tmp} (h : fn.results = #[.cell p 144]) (tmps : Array Value) {w : World} {g : Nat} {a b c d : Value} (hr : Row w g 144 [a, b, c, d]) (hp : tmps.getD p undef = .pointer (some ⟨g, 0, none⟩)) :
    (results fn tmps).run Tryz.prog w = .ok (.agg #[a, b, c, d]) w :=
  results_cell_row h tmps w g 144 #[a, b, c, d] (0, 0) _ hp hr Tryz.underlying144 rfl (by kernel_rfl)
/-- Two nodes, a key between, a flag. -/
theorem ret_node4 {fn : Func} {p u q x : Tmp} (h : fn.results = #[.cell p 144, .tmp u, .cell q 144, .tmp x]) (tmps : Array Value) {w : World} {g g' : Nat} {a b c d a' b' c' d' : Value} (hr : Row w g 144 [a, b, c, d]) (hp : tmps.getD p undef = .pointer (some ⟨g, 0, none⟩))
    (hr' : Row w g' 144 [a', b', c', d']) (hp' : tmps.getD q undef = .pointer (some ⟨g', 0, none⟩)) :
    (results fn tmps).run Tryz.prog w = .ok (.tuple #[.agg #[a, b, c, d], tmps.getD u undef, .agg #[a', b', c', d'], tmps.getD x undef]) w := by
  have e : tmps[p]?.getD undef = .pointer (some ⟨g, 0, none⟩) := by simpa using hp
  have e' : tmps[q]?.getD undef = .pointer (some ⟨g', 0, none⟩) := by simpa using hp'
  simp only [results, h]
  simp [Sem.run_bind, Result.andThen, e, e', asAddr, load_node hr, load_node hr']
/-- Two nodes, a key between. -/
theorem ret_node3 {fn : Func} {p u q : Tmp} (h : fn.results = #[.cell p 144, .tmp u, .cell q 144]) (tmps : Array Value) {w : World} {g g' : Nat} {a b c d a' b' c' d' : Value} (hr : Row w g 144 [a, b, c, d]) (hp : tmps.getD p undef = .pointer (some ⟨g, 0, none⟩))
    (hr' : Row w g' 144 [a', b', c', d']) (hp' : tmps.getD q undef = .pointer (some ⟨g', 0, none⟩)) :
    (results fn tmps).run Tryz.prog w = .ok (.tuple #[.agg #[a, b, c, d], tmps.getD u undef, .agg #[a', b', c', d']]) w := by
  have e : tmps[p]?.getD undef = .pointer (some ⟨g, 0, none⟩) := by simpa using hp
  have e' : tmps[q]?.getD undef = .pointer (some ⟨g', 0, none⟩) := by simpa using hp'
  simp only [results, h]
  simp [Sem.run_bind, Result.andThen, e, e', asAddr, load_node hr, load_node hr']
end
section
variable {w : World} {D : Nat → Prop} {kv vv iv : Value} {n : Nd}
set_option maxRecDepth 20000 in
set_option maxHeartbeats 2000000 in
theorem own_nd (h : NdR w D kv vv iv n) (hf : n.Few) : Calls Tryz.prog 105 #[.agg #[.bool n.leaf, kv, vv, iv]] w fun e w' => ∃ kv' vv' iv', e = .returned (.agg #[.bool n.leaf, kv', vv', iv']) ∧ NdO w' (From w.heap.size) kv' vv' iv' n ∧ Keep No w w' := by
  have H := Lib.hid (h.more (D' := fun b => b < w.heap.size) (fun b hb _ => hb))
  have HF := Lib.hid hf
  obtain ⟨ko, kc, vo, vc, io, ic, rfl, rfl, rfl⟩ := h.forms
  clear h hf
  go_enter Tryz.func105, Tryz.ntmps105
  go_upto_region 1 with fail
  obtain ⟨W0, hW0⟩ : ∃ W, W = w.alloc (.cells #[.bool n.leaf, .slice ko n.keys.length kc, .slice vo n.vals.length vc, .slice io n.kids.length ic] 144) := ⟨_, rfl⟩
  obtain ⟨W, hW⟩ : ∃ W, W = W0.alloc (.cells #[.bool false, .slice none 0 0, .slice none 0 0, .slice none 0 0] 144) := ⟨_, rfl⟩
  have r0 : Row W0 w.heap.size 144 [.bool n.leaf, .slice ko n.keys.length kc, .slice vo n.vals.length vc, .slice io n.kids.length ic] := by rw [hW0]; exact Row.new w _ [_, _, _, _]
  have k0 : Keep No w W0 := by rw [hW0]; exact (Keep.refl No w).alloc _
  have s0 : W0.heap.size = w.heap.size + 1 := by rw [hW0]; simp
  have k1 : Keep No W0 W := by rw [hW]; exact (Keep.refl No W0).alloc _
  have r2 : Row W W0.heap.size 144 [.bool false, .slice none 0 0, .slice none 0 0, .slice none 0 0] := by rw [hW]; exact Row.new W0 _ [_, _, _, _]
  rw [s0] at r2
  have HT : Hid (Two w w.heap.size [.bool n.leaf, .slice ko n.keys.length kc, .slice vo n.vals.length vc, .slice io n.kids.length ic] W) := ⟨k0.trans k1 (fun _ _ h => h), r0.keep k1 (fun h => h), ⟨_, r2, rfl⟩, Nat.le_refl _⟩
  have HTD : Hid (Two w w.heap.size [.bool n.leaf, .slice ko n.keys.length kc, .slice vo n.vals.length vc, .slice io n.kids.length ic] W.drew) := HT.out.step ((Keep.refl No W).drew)
  have HS0 : Hid (W.drew.heap.size = w.heap.size + 2) := by show W.heap.size = _; rw [hW]; simp; omega
  rw [← hW0, ← hW]
  clear hW hW0 r0 k0 s0 k1 r2
  have HCK : Hid (∀ X, Hid (Two w w.heap.size [.bool n.leaf, .slice ko n.keys.length kc, .slice vo n.vals.length vc, .slice io n.kids.length ic] X) → Calls Tryz.prog 127 #[.slice ko n.keys.length kc] X fun e w' => ∃ v', e = .returned v' ∧ Cl X v' n.keys w') := fun X hX => clone_nd (H.out.keys.keep hX.out.keep (fun _ _ _ h => h)) HF.out.keys HF.out.klen
  have HCV : Hid (∀ X, Hid (Two w w.heap.size [.bool n.leaf, .slice ko n.keys.length kc, .slice vo n.vals.length vc, .slice io n.kids.length ic] X) → Calls Tryz.prog 127 #[.slice vo n.vals.length vc] X fun e w' => ∃ v', e = .returned v' ∧ Cl X v' n.vals w') := fun X hX => clone_nd (H.out.vals.keep hX.out.keep (fun _ _ _ h => h)) HF.out.vals HF.out.vlen
  have HCI : Hid (∀ X, Hid (Two w w.heap.size [.bool n.leaf, .slice ko n.keys.length kc, .slice vo n.vals.length vc, .slice io n.kids.length ic] X) → Calls Tryz.prog 128 #[.slice io n.kids.length ic] X fun e w' => ∃ v', e = .returned v' ∧ Own w' (From X.heap.size) 3 v' (n.kids.map (Value.int .i64)) ∧ Keep No X w') := fun X hX => clone_I _ _ _ _ (H.out.kids.keep hX.out.keep (fun _ _ _ h => h)) (cells1_int _ _) (by have := HF.out.kids; rw [List.length_map]; omega)
  have hL0 := HTD.out.limbs
  go_region_held3 (fun w' => w'.cell? ⟨w.heap.size, 0, none⟩ = some (.bool n.leaf) ∧ w'.cell? ⟨w.heap.size, 1, none⟩ = some (.slice ko n.keys.length kc) ∧ w'.cell? ⟨w.heap.size, 2, none⟩ = some (.slice vo n.vals.length vc) ∧ w'.cell? ⟨w.heap.size, 3, none⟩ = some (.slice io n.kids.length ic) ∧
      w'.frozen? ⟨w.heap.size + 1, 0, none⟩ = false ∧ w'.frozen? ⟨w.heap.size + 1, 1, none⟩ = false ∧ w'.frozen? ⟨w.heap.size + 1, 2, none⟩ = false ∧ w'.frozen? ⟨w.heap.size + 1, 3, none⟩ = false ∧ Hid (Two w w.heap.size [.bool n.leaf, .slice ko n.keys.length kc, .slice vo n.vals.length vc, .slice io n.kids.length ic] w'))
    (first | assumption | exact (Two.set (Two.set (Two.set (Two.set (Hid.out (by assumption)) 0 _) 1 _) 2 _) 3 _).limbs)
    (first
      | (go_at_call_of 127 (Value.slice ko n.keys.length kc); go_split_ands; refine (HCK.out _ (by assumption)).mono ?_; rintro e wk ⟨kv, rfl, hcl⟩; obtain ⟨kvo, kvc, rfl⟩ : ∃ a b, kv = .slice a n.keys.length b := (by obtain ⟨vs, ho, he⟩ := hcl.it; obtain ⟨a, b, hf⟩ := ho.form; exact ⟨a, b, by rw [hf, he.1]⟩); have HKC := Lib.hid hcl.keep; have HCLK := Lib.hid hcl.str; have HKW := HKC; clear hcl; (try have HCLV := Lib.hid (HCLV.out.keep HKC.out (fun _ _ h => h))); (try have HCLI := Lib.hid (HCLI.out.keep HKC.out (fun _ _ _ h => h))); have HTW : Hid (Two w w.heap.size [.bool n.leaf, .slice ko n.keys.length kc, .slice vo n.vals.length vc, .slice io n.kids.length ic] wk) := (Two.step (Hid.out (by assumption)) HKC.out); have HTWK := HTW; have hLK := HTW.out.limbs; obtain ⟨y0, y1, y2, y3, hy0, hy1, hy2, hy3⟩ := HTW.out.ys)
      | (go_at_call_of 127 (Value.slice vo n.vals.length vc); go_split_ands; refine (HCV.out _ (by assumption)).mono ?_; rintro e wv ⟨vv, rfl, hcl⟩; obtain ⟨vvo, vvc, rfl⟩ : ∃ a b, vv = .slice a n.vals.length b := (by obtain ⟨vs, ho, he⟩ := hcl.it; obtain ⟨a, b, hf⟩ := ho.form; exact ⟨a, b, by rw [hf, he.1]⟩); have HKC := Lib.hid hcl.keep; have HCLV := Lib.hid hcl.str; have HKK := HKC; clear hcl; (try have HCLK := Lib.hid (HCLK.out.keep HKC.out (fun _ _ h => h))); (try have HCLI := Lib.hid (HCLI.out.keep HKC.out (fun _ _ _ h => h))); have HTW : Hid (Two w w.heap.size [.bool n.leaf, .slice ko n.keys.length kc, .slice vo n.vals.length vc, .slice io n.kids.length ic] wv) := (Two.step (Hid.out (by assumption)) HKC.out); have HTWV := HTW; have hLV := HTW.out.limbs; obtain ⟨y0, y1, y2, y3, hy0, hy1, hy2, hy3⟩ := HTW.out.ys)
      | (go_at_call_of 128 (Value.slice io n.kids.length ic); go_split_ands; refine (HCI.out _ (by assumption)).mono ?_; rintro e wi ⟨iv, rfl, hcl, hkc⟩; obtain ⟨ivo, ivc, rfl⟩ : ∃ a b, iv = .slice a n.kids.length b := (by obtain ⟨a, b, hf⟩ := hcl.form; rw [List.length_map] at hf; exact ⟨a, b, hf⟩); have HKC := Lib.hid hkc; have HCLI := Lib.hid (hcl.more (B' := Str _ wi.heap.size) (fun k hk e => ⟨e, hk⟩)); have HKI := HKC; clear hcl hkc; (try have HCLK := Lib.hid (HCLK.out.keep HKC.out (fun _ _ h => h))); (try have HCLV := Lib.hid (HCLV.out.keep HKC.out (fun _ _ h => h))); have HTW : Hid (Two w w.heap.size [.bool n.leaf, .slice ko n.keys.length kc, .slice vo n.vals.length vc, .slice io n.kids.length ic] wi) := (Two.step (Hid.out (by assumption)) HKC.out); have hLI := HTW.out.limbs; obtain ⟨y0, y1, y2, y3, hy0, hy1, hy2, hy3⟩ := HTW.out.ys))
  go_wp2_with fail
  have hrow := HTW.out.done (.bool n.leaf) (.slice kvo n.keys.length kvc) (.slice vvo n.vals.length vvc) (.slice ivo n.kids.length ivc)
  refine bodyPost_ret (ret_node1 rfl _ hrow rfl) rfl ?_
  refine ⟨_, _, _, rfl, ?_, ?_⟩
  · have hs1 : w.heap.size ≤ W.drew.heap.size := HTD.out.keep.size
    have hs2 := HTW.out.big
    have hb : W.drew.heap.size = w.heap.size + 2 := HS0.out
    have hk4 := four_keep wi (w.heap.size + 1) (.bool n.leaf) (.slice kvo n.keys.length kvc) (.slice vvo n.vals.length vvc) (.slice ivo n.kids.length ivc)
    have hW := HTWK.out.keep.size
    have hV := HTWV.out.keep.size
    have h5 : wk.heap.size ≤ wv.heap.size := HKK.out.size
    have h6 : wv.heap.size ≤ wi.heap.size := HKI.out.size
    have h7 : W.drew.heap.size ≤ wk.heap.size := HKW.out.size
    have hne : ∀ b, W.drew.heap.size ≤ b → ¬ Just (w.heap.size + 1) b := fun b hb2 e => by unfold Just at e; omega
    exact ndO_of (HCLK.out.keep hk4 (fun b e => hne b e.1)) (HCLV.out.keep hk4 (fun b e => hne b (by have := e.1; omega))) (HCLI.out.keep hk4 (fun b _ e => hne b (by have := (HCLI.out.blk e).1.1; omega))) (.inl (by omega)) (.inl (by omega)) (.inl (by omega))
      (fun b e => by unfold Str From at *; omega)
  · exact (((HTW.out.set 0 _).set 1 _).set 2 _ |>.set 3 _).keep
end
end Go.Proofs.YtfhapbggngdckaaGreat
