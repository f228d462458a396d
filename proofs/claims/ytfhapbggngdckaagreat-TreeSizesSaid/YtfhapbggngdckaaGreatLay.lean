/- Trees: lay. -/
import Derived.Test.YtfhapbggngdckaaGreatTreeA
import Derived.Test.YtfhapbggngdckaaGreatHalf
namespace Go.Proofs.YtfhapbggngdckaaGreat
open Go.RowKit
theorem ret_laid {fn : Func} {p u : Tmp} (h : fn.results = #[.cell p 140, .tmp u]) (tmps : Array Value) {w : World} {g : Nat} {a b c : Value} (hr : Row w g 140 [a, b, c]) (hp : tmps.getD p undef = .pointer (some ⟨g, 0, none⟩)) :
    (results fn tmps).run Tryz.prog w = .ok (.tuple #[.agg #[a, b, c], tmps.getD u undef]) w := by
  have hl := run_loadVar_row (P := Tryz.prog) w g 140 140 #[a, b, c] (0, 0) _ hr Tryz.underlying140 rfl (by kernel_rfl)
  rw [results_cell_tmp h, hp]
  simp [asAddr, hl, Result.andThen]
theorem Row.set3 {X : World} {b : Nat} {T : TypeId} {ds : List Value} (h : Row X b T ds) (hl : ds.length = 3) (a0 a1 a2 : Value) : Row (((X.setCell ⟨b, 0, none⟩ a0).setCell ⟨b, 1, none⟩ a1).setCell ⟨b, 2, none⟩ a2) b T [a0, a1, a2] := by
  match ds, hl, h with
  | [y0, y1, y2], _, h3 => exact ((h3.set 0 a0).set 1 a1).set 2 a2
theorem three_keep (X : World) (b : Nat) (a0 a1 a2 : Value) : Keep (Just b) X (((X.setCell ⟨b, 0, none⟩ a0).setCell ⟨b, 1, none⟩ a1).setCell ⟨b, 2, none⟩ a2) :=
  ((((Keep.refl (Just b) X).setCell (p := ⟨b, 0, none⟩) (fun _ => rfl) _).setCell (p := ⟨b, 1, none⟩) (fun _ => rfl) _).setCell (p := ⟨b, 2, none⟩) (fun _ => rfl) _)
def zl : List Value := [.int .i64 0, .slice none 0 0, .int .i64 0]
/-- A box with a node, one for what is laid. -/
structure BoxL (w : World) (cs ds : List Value) (W : World) : Prop where
  keep : Keep No w W
  r0 : Row W w.heap.size 144 cs
  r1 : Row W (w.heap.size + 1) 140 ds
  sz : w.heap.size + 2 ≤ W.heap.size
theorem boxL (w : World) (a0 a1 a2 a3 : Value) : BoxL w [a0, a1, a2, a3] zl ((w.alloc (.cells #[a0, a1, a2, a3] 144)).alloc (.cells #[.int .i64 0, .slice none 0 0, .int .i64 0] 140)) := by
  have r0 := Row.new w 144 [a0, a1, a2, a3]
  have k0 := (Keep.refl No w).alloc (.cells #[a0, a1, a2, a3] 144)
  have s0 : (w.alloc (.cells #[a0, a1, a2, a3] 144)).heap.size = w.heap.size + 1 := by simp
  rw [show ([a0, a1, a2, a3] : List Value).toArray = #[a0, a1, a2, a3] from rfl] at r0
  generalize w.alloc (.cells #[a0, a1, a2, a3] 144) = W0 at *
  have r1 := Row.new W0 140 zl
  have k1 := (Keep.refl No W0).alloc (.cells #[.int .i64 0, .slice none 0 0, .int .i64 0] 140)
  have s1 : (W0.alloc (.cells #[.int .i64 0, .slice none 0 0, .int .i64 0] 140)).heap.size = W0.heap.size + 1 := by simp
  rw [show zl.toArray = #[.int .i64 0, .slice none 0 0, .int .i64 0] from rfl] at r1
  rw [s0] at r1
  exact ⟨k0.trans k1 (fun _ _ h => h), r0.keep k1 (fun h => h), r1, by omega⟩
theorem BoxL.step {F : Nat → Prop} {w W X : World} {cs ds : List Value} (h : BoxL w cs ds W) (k : Keep F W X) (h0 : ¬ F w.heap.size) (h1 : ¬ F (w.heap.size + 1)) (h2 : ∀ b, b < w.heap.size → ¬ F b) : BoxL w cs ds X :=
  ⟨(h.keep.trans (k.mono (G := fun b => F b) (fun _ _ h => h)) (fun b hb e => (h2 b hb e).elim)), h.r0.keep k h0, h.r1.keep k h1, Nat.le_trans h.sz k.size⟩
section
variable {w w' : World} {F : Nat → Prop} {tb pb : Nat} {root : Int} {st st' : List Int} {img img' : Nat → Byt} {k c : Nat} {n : Nd} {D : Nat → Prop} {kv vv iv : Value}
/-- A call on a tree within a function that has boxes of its own. -/
theorem TT.around {W w1 w2 : World} {G : Nat → Prop} {X Y : World → (Nat → Prop) → List Int → (Nat → Byt) → Prop} (h0 : Keep No w W) (t : TT W F tb pb root k c X w1) (k2 : Keep G w1 w2) (hG : ∀ b, G b → w.heap.size ≤ b ∧ b < W.heap.size) (hF : ∀ b, F b → b < w.heap.size) (htb : tb < w.heap.size)
    (hX : ∀ F1 st1 img1, (∀ b, F1 b → F b ∨ W.heap.size ≤ b) → (∀ b, F1 b → b < w1.heap.size) → X w1 F1 st1 img1 → Y w2 F1 st1 img1) : TT w F tb pb root k c Y w2 := by
  obtain ⟨⟨F1, st1, img1, k1, ht, hk1, hkp, hg, hx⟩⟩ := t
  have hs := h0.size
  have hF1G : ∀ b, F1 b → ¬ G b := fun b hb e => by
    have h1 := hG b e
    rcases hg b hb with e2 | e2
    · have := hF b e2; omega
    · omega
  refine ⟨F1, st1, img1, k1, ⟨ht.pages.keep k2 hF1G, ht.row.keep k2 (fun e => by have := (hG _ e).1; omega), ht.out⟩, hk1, ((h0.any F).trans hkp (fun _ _ h => h)).next k2 (fun b e => .inl (hG b e).1), fun b hb => ?_, hX F1 st1 img1 hg ht.pages.lt hx⟩
  rcases hg b hb with e | e
  · exact .inl e
  · exact .inr (by omega)
/-- Two calls, one behind the other. -/
theorem TT.trans {w1 w2 : World} {F1 : Nat → Prop} {k1 c1 c2 : Nat} {Y : World → (Nat → Prop) → List Int → (Nat → Byt) → Prop} (hkp : Keep F w w1) (hg : ∀ b, F1 b → F b ∨ w.heap.size ≤ b) (hk1 : k1 ≤ k + c1) (t : TT w1 F1 tb pb root k1 c2 Y w2) : TT w F tb pb root k (c1 + c2) Y w2 := by
  obtain ⟨⟨F2, st2, img2, k2, ht, hk2, hkp2, hg2, hx⟩⟩ := t
  have hs := hkp.size
  refine ⟨F2, st2, img2, k2, ht, by omega, hkp.next hkp2 (fun b e => (hg b e).symm), fun b hb => ?_, hx⟩
  rcases hg2 b hb with e | e
  · exact hg b e
  · exact .inr (by omega)
theorem TT.mono {X Y : World → (Nat → Prop) → List Int → (Nat → Byt) → Prop} {c' : Nat} (t : TT w F tb pb root k c X w') (hc : c ≤ c') (h : ∀ F1 st1 img1, (∀ b, F1 b → b < w'.heap.size) → (∀ b, F1 b → F b ∨ w.heap.size ≤ b) → X w' F1 st1 img1 → Y w' F1 st1 img1) : TT w F tb pb root k c' Y w' := by
  obtain ⟨⟨F1, st1, img1, k1, ht, hk1, hkp, hg, hx⟩⟩ := t
  exact ⟨F1, st1, img1, k1, ht, by omega, hkp, hg, h F1 st1 img1 ht.pages.lt hg hx⟩
set_option maxRecDepth 20000 in
set_option maxHeartbeats 2000000 in
theorem lay_fit (h : TrOK w F tb pb root st img k) (hr : NdR w D kv vv iv n) (hs : n.Sh) (hz : n.size ≤ 1024) (old p : Int) {X : World → (Nat → Prop) → List Int → (Nat → Byt) → Prop} (hX : ∀ a b F st img, X a F st img → X b F st img)
    (hw : ∀ W, Keep No w W → Calls Tryz.prog 54 #[.pointer (some ⟨tb, 0, none⟩), .agg #[.bool n.leaf, kv, vv, iv], .int .i64 old] W fun e w' => e = .returned (.tuple #[.int .i64 p, .int .i64 0]) ∧ TT W F tb pb root k c X w') :
    Calls Tryz.prog 52 #[.pointer (some ⟨tb, 0, none⟩), .agg #[.bool n.leaf, kv, vv, iv], .int .i64 old] w fun e w' => e = .returned (.tuple #[.agg #[.int .i64 p, .slice none 0 0, .int .i64 (-1)], .int .i64 0]) ∧ TT w F tb pb root k c X w' := by
  have H := Lib.hid h
  have HR := Lib.hid hr
  have HZ : decide ((n.size : Int) ≤ 1024) = true := by simp; omega
  obtain ⟨ko, kc, vo, vc, io, ic, rfl, rfl, rfl⟩ := hr.forms
  obtain ⟨W, hW⟩ : ∃ W, W = ((w.alloc (.cells #[.bool n.leaf, .slice ko n.keys.length kc, .slice vo n.vals.length vc, .slice io n.kids.length ic] 144)).alloc (.cells #[.int .i64 0, .slice none 0 0, .int .i64 0] 140)) := ⟨_, rfl⟩
  have hB := boxL w (.bool n.leaf) (.slice ko n.keys.length kc) (.slice vo n.vals.length vc) (.slice io n.kids.length ic)
  rw [← hW] at hB
  have HB := Lib.hid hB
  have HWW := Lib.hid hW
  have HSZ := Lib.hid (size_nd (hr.keep hB.keep (fun _ _ _ h => h)) (Nd.few_of hs (by omega)))
  have HWR := Lib.hid hw
  have c0 := hB.r0.cell 0
  have c1 := hB.r0.cell 1
  have c2 := hB.r0.cell 2
  have c3 := hB.r0.cell 3
  simp only [List.getElem?_cons_zero, List.getElem?_cons_succ] at c0 c1 c2 c3
  clear h hr hs hz hB hW hw
  go_enter Tryz.func52, Tryz.ntmps52
  go_upto_region 1 with fail
  rw [← HWW.out]
  clear HWW
  go_upto_region 2 with (go_at_call 74; refine HSZ.out.mono ?_; rintro e w1 ⟨rfl, hk1⟩; have HK1 := Lib.hid hk1; clear hk1)
  have hb1 := HB.out.step HK1.out (fun h => h) (fun h => h) (fun _ _ h => h)
  have d0 := hb1.r0.cell 0
  have d1 := hb1.r0.cell 1
  have d2 := hb1.r0.cell 2
  have d3 := hb1.r0.cell 3
  simp only [List.getElem?_cons_zero, List.getElem?_cons_succ] at d0 d1 d2 d3
  have HB1 := Lib.hid hb1
  have HW1 := Lib.hid (HWR.out w1 hb1.keep)
  clear c0 c1 c2 c3 hb1
  go_upto_region 3 with (go_at_call 54; refine HW1.out.mono ?_; rintro e w2 ⟨rfl, ht⟩; have HT := Lib.hid ht; clear ht)
  have hnF : ∀ b, w.heap.size ≤ b → ¬ F b := fun b hb hf => by have := H.out.pages.lt b hf; omega
  have hr2 : Row w2 (w.heap.size + 1) 140 zl := by
    obtain ⟨⟨F1, st1, img1, k1, ht, hk1, hkp, hg, hx⟩⟩ := HT.out
    exact HB1.out.r1.keep hkp (hnF _ (by omega))
  have e0 := hr2.cell 0
  have e1 := hr2.cell 1
  have e2 := hr2.cell 2
  have f0 := hr2.frozen 0
  have f1 := hr2.frozen 1
  have f2 := hr2.frozen 2
  simp only [zl, List.getElem?_cons_zero, List.getElem?_cons_succ] at e0 e1 e2
  have HR2 := Lib.hid hr2
  clear hr2 d0 d1 d2 d3
  go_wp2_with fail
  have r3 := HR2.out.set3 rfl (.int .i64 p) (.slice none 0 0) (.int .i64 (-1))
  have k3 := three_keep w2 (w.heap.size + 1) (.int .i64 p) (.slice none 0 0) (.int .i64 (-1))
  refine bodyPost_ret (ret_laid rfl _ r3 rfl) rfl ?_
  have hsz := HB1.out.sz
  exact ⟨rfl, HT.out.around HB1.out.keep k3 (fun b e => by unfold Just at e; omega) H.out.pages.lt H.out.lt (fun F1 st1 img1 _ _ hx => hX _ _ _ _ _ hx)⟩
/-- What lay leaves where it has split. -/
structure LSplit (w : World) (n : Nd) (p q kk : Nat) (xv : Value) (st : List Int) (img : Nat → Byt) (w' : World) (F' : Nat → Prop) (st' : List Int) (img' : Nat → Byt) : Prop where
  st : st' = st.set q 2
  img : img' = upd (upd img p (n.fst kk).page) q (n.snd kk).page
  key : BS w' (fun b => w.heap.size ≤ b ∧ ¬ F' b) xv (n.keys.getD kk [])
set_option maxRecDepth 20000 in
set_option maxHeartbeats 4000000 in
theorem lay_split (h : TrOK w F tb pb root st img k) (hr : NdR w D kv vv iv n) (hs : n.Sh) (hz : 1024 < n.size) (hz2 : n.size ≤ if n.leaf then 1527 else 1300) (p q : Nat) (hp : st[p]? = some 2) (hq : ixOf 0 st = q) (hk : k < 1099511627750) :
    Calls Tryz.prog 52 #[.pointer (some ⟨tb, 0, none⟩), .agg #[.bool n.leaf, kv, vv, iv], .int .i64 p] w fun e w' => ∃ xv, ∃ kk : Nat, e = .returned (.tuple #[.agg #[.int .i64 p, xv, .int .i64 q], .int .i64 0]) ∧ (1 ≤ kk ∧ kk ≤ n.last) ∧
      ((n.fst kk).Sh ∧ (n.snd kk).Sh ∧ (n.fst kk).size ≤ 1024 ∧ (n.snd kk).size ≤ 1024) ∧ TT w F tb pb root k 12 (LSplit w n p q kk xv st img) w' := by
  have H := Lib.hid h
  have hh := Nd.halves hs hz hz2
  have hl1 := hh.1
  have HH := Lib.hid hh.2
  have hfew : n.Few := Nd.few_of hs (by split at hz2 <;> omega)
  have HZ : decide ((n.size : Int) ≤ 1024) = false := by simp; omega
  have hbase : n.leaf = n.leaf := rfl
  obtain ⟨ko, kc, vo, vc, io, ic, rfl, rfl, rfl⟩ := hr.forms
  obtain ⟨W, hW⟩ : ∃ W, W = ((w.alloc (.cells #[.bool n.leaf, .slice ko n.keys.length kc, .slice vo n.vals.length vc, .slice io n.kids.length ic] 144)).alloc (.cells #[.int .i64 0, .slice none 0 0, .int .i64 0] 140)) := ⟨_, rfl⟩
  have hB := boxL w (.bool n.leaf) (.slice ko n.keys.length kc) (.slice vo n.vals.length vc) (.slice io n.kids.length ic)
  rw [← hW] at hB
  have HB := Lib.hid hB
  have HWW := Lib.hid hW
  have hrW := hr.keep hB.keep (fun _ _ _ h => h)
  have HSZ := Lib.hid (size_nd hrW hfew)
  have HSPL : Hid (∀ X, Keep No W X → Calls Tryz.prog 75 #[.agg #[.bool n.leaf, .slice ko n.keys.length kc, .slice vo n.vals.length vc, .slice io n.kids.length ic]] X fun e w' => ∃ ka va ia kb vb ib x, ∃ k : Nat,
    e = .returned (.tuple #[.agg #[.bool n.leaf, ka, va, ia], x, .agg #[.bool n.leaf, kb, vb, ib], .bool true]) ∧ (1 ≤ k ∧ k ≤ n.last ∧ ∀ j, 1 ≤ j → j ≤ n.last → n.worst k ≤ n.worst j) ∧ SplitTo X n k ka va ia kb vb ib x w') := fun X hX => split_nd (hrW.keep hX (fun _ _ _ h => h)) hfew hs hl1
  have HP := Lib.hid hp
  have HQ := Lib.hid hq
  have c0 := hB.r0.cell 0
  have c1 := hB.r0.cell 1
  have c2 := hB.r0.cell 2
  have c3 := hB.r0.cell 3
  simp only [List.getElem?_cons_zero, List.getElem?_cons_succ] at c0 c1 c2 c3
  clear h hr hs hz hB hW hz2 hh hfew hbase hrW hp hq
  go_enter Tryz.func52, Tryz.ntmps52
  go_upto_region 1 with fail
  rw [← HWW.out]
  clear HWW
  go_upto_region 4 with (go_at_call 74; refine HSZ.out.mono ?_; rintro e w1 ⟨rfl, hk1⟩; have HK1 := Lib.hid hk1; clear hk1)
  have hb1 := HB.out.step HK1.out (fun h => h) (fun h => h) (fun _ _ h => h)
  have d0 := hb1.r0.cell 0
  have d1 := hb1.r0.cell 1
  have d2 := hb1.r0.cell 2
  have d3 := hb1.r0.cell 3
  simp only [List.getElem?_cons_zero, List.getElem?_cons_succ] at d0 d1 d2 d3
  have HB1 := Lib.hid hb1
  have HS1 := Lib.hid (HSPL.out w1 HK1.out)
  clear c0 c1 c2 c3 hb1
  go_upto_region 5 with (go_at_call 75; refine HS1.out.mono ?_; rintro e w2 ⟨ka, va, ia, kb, vb, ib, x, kk, rfl, hkk, hsp⟩; obtain ⟨ao1, ac1, ao2, ac2, ao3, ac3, rfl, rfl, rfl⟩ := hsp.fst.forms; obtain ⟨bo1, bc1, bo2, bc2, bo3, bc3, rfl, rfl, rfl⟩ := hsp.snd.forms; obtain ⟨xo, xc, rfl, _, _⟩ := hsp.key.form; have HSP := Lib.hid hsp; have HKK := Lib.hid hkk; clear hsp hkk)
  have HFIT := Lib.hid (HH.out kk HKK.out.1 HKK.out.2.1 HKK.out.2.2)
  have HX0 := Lib.hid (box2 w2 (.bool n.leaf) (.slice ao1 (n.fst kk).keys.length ac1) (.slice ao2 (n.fst kk).vals.length ac2) (.slice ao3 (n.fst kk).kids.length ac3) (.bool n.leaf) (.slice bo1 (n.snd kk).keys.length bc1) (.slice bo2 (n.snd kk).vals.length bc2) (.slice bo3 (n.snd kk).kids.length bc3))
  generalize (w2.alloc (Obj.cells #[.bool n.leaf, .slice ao1 (n.fst kk).keys.length ac1, .slice ao2 (n.fst kk).vals.length ac2, .slice ao3 (n.fst kk).kids.length ac3] 144)).alloc (Obj.cells #[.bool n.leaf, .slice bo1 (n.snd kk).keys.length bc1, .slice bo2 (n.snd kk).vals.length bc2, .slice bo3 (n.snd kk).kids.length bc3] 144) = X at *
  have hkX : Keep No w X := (HB1.out.keep.trans HSP.out.keep (fun _ _ h => h)).trans HX0.out.keep (fun _ _ h => h)
  have HKX := Lib.hid hkX
  have HTX := Lib.hid (H.out.step hkX)
  have ha : NdR X (From w1.heap.size) (.slice ao1 (n.fst kk).keys.length ac1) (.slice ao2 (n.fst kk).vals.length ac2) (.slice ao3 (n.fst kk).kids.length ac3) (n.fst kk) := HSP.out.fst.keep HX0.out.keep (fun _ _ _ h => h)
  have hb : NdR X (From w1.heap.size) (.slice bo1 (n.snd kk).keys.length bc1) (.slice bo2 (n.snd kk).vals.length bc2) (.slice bo3 (n.snd kk).kids.length bc3) (n.snd kk) := HSP.out.snd.keep HX0.out.keep (fun _ _ _ h => h)
  have HBN := Lib.hid hb
  have HKY : Hid (BS X (fun b => w1.heap.size ≤ b ∧ b < X.heap.size) _ _) := ((HSP.out.key.keep HX0.out.keep (fun _ _ _ h => h)).more (fun b hb e => ⟨e, hb⟩))
  have hwa := write_fresh HTX.out ha HFIT.out.1 HFIT.out.2.2.1 p HP.out (by omega)
  rw [n.fst_leaf] at hwa
  have HWA := Lib.hid hwa
  have x0 := HX0.out.r0.cell 0
  have x1 := HX0.out.r0.cell 1
  have x2 := HX0.out.r0.cell 2
  have x3 := HX0.out.r0.cell 3
  simp only [List.getElem?_cons_zero, List.getElem?_cons_succ] at x0 x1 x2 x3
  clear d0 d1 d2 d3 hkX ha hb hwa
  go_upto_region 8 with (go_at_call 54; refine HWA.out.mono ?_; rintro e w3 ⟨rfl, ht⟩; have HT := Lib.hid ht; clear ht)
  obtain ⟨⟨F1, st1, img1, k1, ht1, hk1, hkp1, hg1, rfl, rfl⟩⟩ := HT.out
  have hnF : ∀ b, w.heap.size ≤ b → ¬ F b := fun b hb hf => by have := H.out.pages.lt b hf; omega
  have hs1 := HB1.out.sz
  have hs2 : w1.heap.size ≤ w2.heap.size := HSP.out.keep.size
  have hb3 := HBN.out.keep hkp1 (fun b _ e f => hnF b (by unfold From at e; omega) f)
  have HBS3 := Lib.hid (HKY.out.keep hkp1 (fun b _ e f => hnF b (by omega) f))
  have hwb := write_new ht1 hb3 HFIT.out.2.1 HFIT.out.2.2.2 q HQ.out (by omega)
  rw [n.snd_leaf] at hwb
  have HWB := Lib.hid hwb
  have hr1 := HX0.out.r1.keep hkp1 (hnF _ (by omega))
  have e0 := hr1.cell 0
  have e1 := hr1.cell 1
  have e2 := hr1.cell 2
  have e3 := hr1.cell 3
  simp only [List.getElem?_cons_zero, List.getElem?_cons_succ] at e0 e1 e2 e3
  have HT1 := Lib.hid ht1
  have HKP1 := Lib.hid hkp1
  have HG1 := Lib.hid hg1
  clear x0 x1 x2 x3 ht1 hkp1 hg1 hb3 hwb hr1 HT
  go_upto_region 9 with (go_at_call 54; refine HWB.out.mono ?_; rintro e w4 ⟨rfl, ht⟩; have HT2 := Lib.hid ht; clear ht)
  obtain ⟨⟨F2, st2, img2, k2, ht2, hk2, hkp2, hg2, hst2, himg2⟩⟩ := HT2.out
  have hF1 : ∀ b, w.heap.size ≤ b → b < X.heap.size → ¬ F1 b := fun b hb hb2 hf => by
    rcases HG1.out b hf with e | e
    · exact hnF b hb e
    · omega
  have hsX : w2.heap.size ≤ X.heap.size := HX0.out.keep.size
  have hr2 : Row w4 (w.heap.size + 1) 140 zl := ((((HB1.out.r1.keep HSP.out.keep (fun h => h)).keep HX0.out.keep (fun h => h)).keep HKP1.out (hnF _ (by omega))).keep hkp2 (hF1 _ (by omega) (by omega)))
  have e0 := hr2.cell 0
  have e1 := hr2.cell 1
  have e2 := hr2.cell 2
  have f0 := hr2.frozen 0
  have f1 := hr2.frozen 1
  have f2 := hr2.frozen 2
  simp only [zl, List.getElem?_cons_zero, List.getElem?_cons_succ] at e0 e1 e2
  have HR2 := Lib.hid hr2
  have HKP2 := Lib.hid hkp2
  have HB4 := Lib.hid (HBS3.out.keep hkp2 (fun b _ e f => hF1 b (by omega) e.2 f))
  have HS2 := Lib.hid hst2
  have HI2 := Lib.hid himg2
  clear hr2 ht2 hg2 hst2 himg2 hkp2
  go_wp2_with fail
  have r3 := HR2.out.set3 rfl (.int .i64 p) (.slice xo (n.keys.getD kk []).length xc) (.int .i64 q)
  have k3 := three_keep w4 (w.heap.size + 1) (.int .i64 p) (.slice xo (n.keys.getD kk []).length xc) (.int .i64 q)
  refine bodyPost_ret (ret_laid rfl _ r3 rfl) rfl ?_
  have hT := TT.trans (c1 := 4) HKP1.out HG1.out hk1 HT2.out
  refine ⟨_, kk, rfl, ⟨HKK.out.1, HKK.out.2.1⟩, HFIT.out, hT.around HKX.out k3 (fun b e => by unfold Just at e; omega) H.out.pages.lt H.out.lt (fun F' st' img' hg hlt hx => ⟨hx.1, hx.2, ?_⟩)⟩
  refine (HB4.out.keep k3 (fun b _ e f => by unfold Just at f; omega)).more (fun b hb e => ⟨by omega, fun hf => ?_⟩)
  rcases hg b hf with e2 | e2
  · exact hnF b (by omega) e2
  · omega
end
end Go.Proofs.YtfhapbggngdckaaGreat
