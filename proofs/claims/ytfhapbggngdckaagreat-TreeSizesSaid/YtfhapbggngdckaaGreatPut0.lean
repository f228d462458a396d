/- Trees: put at a leaf. -/
import Derived.Test.YtfhapbggngdckaaGreatPutL
namespace Go.Proofs.YtfhapbggngdckaaGreat
set_option linter.unusedSimpArgs false
set_option linter.unusedVariables false
open Go.RowKit
section
variable {w w' : World} {F : Nat → Prop} {tb pb : Nat} {root : Int} {st st' : List Int} {img img' : Nat → Byt} {k c : Nat} {n : Nd} {kv vv iv kx vx : Value} {key val : Byt}
/-- The node in its box has turned; nothing else that matters has. -/
structure PutMid (X : World) (F1 : Nat → Prop) (c b12 : Nat) (lf : Bool) (n' : Nd) (wc : World) : Prop where
  keep : Keep (fun b => ¬ F1 b ∧ c ≤ b) X wc
  it : ∃ kv vv iv, Row wc b12 144 [.bool lf, kv, vv, iv] ∧ NdO wc (fun b => ¬ F1 b) kv vv iv n'
/-- The second insert at a leaf. -/
theorem put_vals {X w5 : World} {F1 : Nat → Prop} {cW cb i : Nat} {n5 : Nd} {kv vv iv vx kv' : Value} {val : Byt} (N5 : NdO w5 (fun b => ¬ F1 b ∧ b ≠ cb) kv' vv iv n5) (M5 : Moved X kv kv') (K5 : Keep (fun b => kv.ownBlock = some b) X w5) (HV : BS X (fun b => ¬ F1 b ∧ b < cW) vx val)
    (HAR : ∀ b, kv.ownBlock = some b ∨ vv.ownBlock = some b ∨ iv.ownBlock = some b → cW ≤ b ∧ b < cb ∧ ¬ F1 b) (HBX : ∀ b, X.heap.size ≤ b → ¬ F1 b ∧ b ≠ cb) (hi : i ≤ n5.vals.length) (hl : n5.vals.length ≤ 1000) (Y : World) (vb : Nat) (hk : Keep No w5 Y) (hr : Row Y vb 23 [vx]) (hvb : X.heap.size ≤ vb) (hcb : cW ≤ cb) (hcX : cb < X.heap.size) :
    Calls Tryz.prog 76 #[vv, .int .i64 i, .slice (some ⟨vb, 0, none⟩) 1 1] Y fun e w' => ∃ ao ac, e = .returned (.slice ao (n5.vals.length + 1) ac) ∧ NdO w' (fun b => ¬ F1 b ∧ b ≠ cb) kv' (.slice ao (n5.vals.length + 1) ac) iv { n5 with vals := n5.vals.take i ++ (val :: n5.vals.drop i) } ∧ Keep (fun b => kv.ownBlock = some b ∨ vv.ownBlock = some b) X w' := by
  have h5 : BS w5 (fun b => ¬ F1 b ∧ b < cW) vx val := HV.keep K5 (fun b _ e f => by have := (HAR b (.inl f)).1; omega)
  have hs := K5.size
  refine (vals_ins N5 (fun b hb => HBX b (by omega)) hi hl (h5.more (fun b _ e => ⟨⟨e.1, by omega⟩, fun f => ?_, fun f => by have := (HAR b (.inr (.inl f))).1; omega, fun f => by have := (HAR b (.inr (.inr f))).1; omega⟩)) Y vb hk hr (fun e => by have := (HAR _ (.inr (.inl e))).2.1; omega)).mono fun e w' => ?_
  · rcases M5 with m | ⟨g, m, hg⟩
    · rw [m] at f; have := (HAR b (.inl f)).1; omega
    · rw [m] at f; cases f; omega
  · rintro ⟨ao, ac, rfl, h1, h2, _⟩
    exact ⟨ao, ac, rfl, h1, (K5.mono (fun b _ e => .inl e)).trans ((hk.any _).trans h2 (fun _ _ h => h)) (fun b _ e => .inr e)⟩
theorem put_fin {X w6 : World} {F1 : Nat → Prop} {cW cb : Nat} {m : Nd} {kv vv iv kv' vv' iv' a1 a2 : Value} {lf : Bool} (N6 : NdO w6 (fun b => ¬ F1 b ∧ b ≠ cb) kv' vv' iv' m) (K6 : Keep (fun b => kv.ownBlock = some b ∨ vv.ownBlock = some b) X w6) (R6 : Row w6 cb 144 [.bool lf, a1, a2, iv'])
    (HAR : ∀ b, kv.ownBlock = some b ∨ vv.ownBlock = some b ∨ iv.ownBlock = some b → cW ≤ b ∧ b < cb ∧ ¬ F1 b) (hcb : cW ≤ cb) (hF : ¬ F1 cb) : PutMid X F1 cW cb lf m ((w6.setCell ⟨cb, 1, none⟩ kv').setCell ⟨cb, 2, none⟩ vv') := by
  have k7 : Keep (Just cb) w6 ((w6.setCell ⟨cb, 1, none⟩ kv').setCell ⟨cb, 2, none⟩ vv') := ((Keep.refl (Just cb) w6).setCell (p := ⟨cb, 1, none⟩) (fun _ => rfl) _).setCell (p := ⟨cb, 2, none⟩) (fun _ => rfl) _
  refine ⟨(K6.mono (G := fun b => ¬ F1 b ∧ cW ≤ b) (fun b _ e => ?_)).trans (k7.mono (G := fun b => ¬ F1 b ∧ cW ≤ b) (fun b _ e => by cases e; exact ⟨hF, hcb⟩)) (fun _ _ h => h), kv', vv', iv', (R6.set 1 kv').set 2 vv', (N6.keep k7 (fun b _ e f => e.2 f)).more (fun b _ e => e.1)⟩
  rcases e with e | e
  · have := HAR b (.inl e); exact ⟨this.2.2, this.1⟩
  · have := HAR b (.inr (.inl e)); exact ⟨this.2.2, this.1⟩
/-- The node that put lays at a leaf. -/
def Nd.putAt (n : Nd) (i : Nat) (key val : Byt) : Nd := if n.keys[i]? = some key then { n with vals := n.vals.set i val } else { n with keys := n.keys.take i ++ (key :: n.keys.drop i), vals := n.vals.take i ++ (val :: n.vals.drop i) }
set_option maxRecDepth 20000 in
set_option maxHeartbeats 8000000 in
theorem put_leaf (h : TrOK w F tb pb root st img k) (p : Nat) (hp : st[p]? = some 2) (hn : OnPage img p n) (hlf : n.leaf = true) (deep : Int) (hd : deep ≤ 20) (hk : k < 1099511627700)
    (hkx : BS w (fun b => ¬ F b) kx key) (hvx : BS w (fun b => ¬ F b) vx val) (hkl : key.length ≤ 240) (hvl : val.length ≤ 260) {c : Nat} {Y : Nat → Value → Int → World → (Nat → Prop) → List Int → (Nat → Byt) → Prop} (hY : ∀ i x b w1 w2 F' st img {G : Nat → Prop}, Keep G w1 w2 → (∀ b, G b → b = w.heap.size) → ¬ F' w.heap.size → Y i x b w1 F' st img → Y i x b w2 F' st img)
    (hlay : ∀ (i : Nat) (X : World) (F1 : Nat → Prop) (k1 : Nat) (kv vv iv : Value), i ≤ n.keys.length → Plc n.keys key i → w.heap.size < X.heap.size → TrOK X F1 tb pb root st img k1 → k1 ≤ k + 4 → NdR X (fun b => ¬ F1 b) kv vv iv (n.putAt i key val) →
      Calls Tryz.prog 52 #[.pointer (some ⟨tb, 0, none⟩), .agg #[.bool true, kv, vv, iv], .int .i64 p] X fun e w' => ∃ xo xl xc b, e = .returned (.tuple #[.agg #[.int .i64 p, .slice xo xl xc, .int .i64 b], .int .i64 0]) ∧ TT X F1 tb pb root k1 c (Y i (.slice xo xl xc) b) w') :
    Calls Tryz.prog 53 #[.pointer (some ⟨tb, 0, none⟩), .int .i64 p, .int .i64 deep, kx, vx] w fun e w' => ∃ i x b, e = .returned (.tuple #[.agg #[.int .i64 p, x, .int .i64 b], .int .i64 0]) ∧ i ≤ n.keys.length ∧ Plc n.keys key i ∧ TT w F tb pb root k (4 + c) (Y i x b) w' := by
  have H := Lib.hid h
  have HN := Lib.hid hn
  have HKX := Lib.hid (hkx.more (D' := fun b => ¬ F b ∧ b < w.heap.size) (fun b hb e => ⟨e, hb⟩))
  have HVX := Lib.hid (hvx.more (D' := fun b => ¬ F b ∧ b < w.heap.size) (fun b hb e => ⟨e, hb⟩))
  have HLAY := Lib.hid hlay
  have HY := Lib.hid hY
  obtain ⟨kxo, kxc, rfl, _, _⟩ := hkx.form
  obtain ⟨vxo, vxc, rfl, _, _⟩ := hvx.form
  obtain ⟨W, hW⟩ : ∃ W, W = w.alloc (.cells #[.int .i64 0, .slice none 0 0, .int .i64 0] 140) := ⟨_, rfl⟩
  have k0 : Keep No w W := by rw [hW]; exact (Keep.refl No w).alloc _
  have r0 : Row W w.heap.size 140 zl := by rw [hW]; exact Row.new w _ zl
  have s0 : W.heap.size = w.heap.size + 1 := by rw [hW]; simp
  have hrd := read_any (h.step k0) p (.inr hp) hn deep hd (by omega)
  rw [hlf] at hrd
  have HRD := Lib.hid hrd
  have HK0 := Lib.hid k0
  have HR0 := Lib.hid r0
  have HS0 := Lib.hid s0
  have HWW := Lib.hid hW
  have HLF := Lib.hid hlf
  have hcn := Nd.count_lt hn.sh (by have := hn.size; omega)
  clear h hn hkx hvx hlay k0 r0 s0 hrd hW hp hY hlf
  go_enter Tryz.func53, Tryz.ntmps53
  go_upto_region 1 with fail
  rw [← HWW.out]
  clear HWW
  go_upto_region 5 with (go_at_call 55; refine HRD.out.mono ?_; rintro e w1 ⟨kv, vv, iv, rfl, ht⟩; obtain ⟨⟨F1, st1, img1, k1, ht1, hk1, hkp1, hg1, ⟨rfl, rfl⟩, hnd⟩⟩ := ht; obtain ⟨ko, kc, vo, vc, io, ic, rfl, rfl, rfl⟩ := hnd.forms; have HT1 := Lib.hid ht1; have HKP1 := Lib.hid hkp1; have HG1 := Lib.hid hg1; have HND := Lib.hid hnd; clear ht1 hkp1 hg1 hnd)
  have hb0 := Row.new w1 144 [.bool true, .slice ko n.keys.length kc, .slice vo n.vals.length vc, .slice io n.kids.length ic]
  have hkX0 := (Keep.refl No w1).alloc (.cells [.bool true, .slice ko n.keys.length kc, .slice vo n.vals.length vc, .slice io n.kids.length ic].toArray 144)
  have hsX0 : (w1.alloc (.cells [.bool true, .slice ko n.keys.length kc, .slice vo n.vals.length vc, .slice io n.kids.length ic].toArray 144)).heap.size = w1.heap.size + 1 := by simp
  rw [show (Obj.cells #[.bool true, .slice ko n.keys.length kc, .slice vo n.vals.length vc, .slice io n.kids.length ic] 144) = (Obj.cells [.bool true, .slice ko n.keys.length kc, .slice vo n.vals.length vc, .slice io n.kids.length ic].toArray 144) from rfl]
  generalize w1.alloc (.cells [.bool true, .slice ko n.keys.length kc, .slice vo n.vals.length vc, .slice io n.kids.length ic].toArray 144) = X0 at *
  have HKX0 := Lib.hid hkX0
  have HSX0 := Lib.hid hsX0
  have HFD := Lib.hid (find_any (HND.out.r.keep hkX0 (fun _ _ _ h => h)) HN.out.sh.rise hcn (((HKX.out.keep HK0.out (fun _ _ _ h => h)).keep HKP1.out (fun b _ e f => e.1 f)).keep hkX0 (fun _ _ _ h => h)))
  rw [HLF.out] at HFD
  have HB0 := Lib.hid hb0
  have c0 := hb0.cell 0
  have c1 := hb0.cell 1
  have c2 := hb0.cell 2
  have c3 := hb0.cell 3
  simp only [List.getElem?_cons_zero, List.getElem?_cons_succ] at c0 c1 c2 c3
  clear hkX0 hb0 hsX0
  go_upto_if 37 with (go_at_call 56; refine HFD.out.mono ?_; rintro e X ⟨i, rfl, hpl, hkX⟩; have HPL := Lib.hid hpl; have HKX1 := Lib.hid hkX; have hile := hpl.le; generalize hbb : decide (n.keys[i]? = some key) = bb; have HBB := Lib.hid hbb; clear hpl hkX hbb)
  have hkk := HKX0.out.trans HKX1.out (fun _ _ h => h)
  have HKK := Lib.hid hkk
  have HNX := Lib.hid (HND.out.keep hkk (fun _ _ _ h => h))
  have HB1 := Lib.hid (HB0.out.keep HKX1.out (fun h => h))
  have HTX := Lib.hid (HT1.out.step hkk)
  have hF1lt : ∀ b, F1 b → b < w1.heap.size := HT1.out.pages.lt
  have HFL := Lib.hid hF1lt
  have HVX2 : Hid (BS X (fun b => ¬ F1 b ∧ b < W.heap.size) (.slice vxo val.length vxc) val) := ((((HVX.out.more (D' := fun b => (¬ F b ∧ b < w.heap.size)) (fun _ _ h => h)).keep HK0.out (fun _ _ _ h => h)).keep HKP1.out (fun b _ e f => e.1 f)).keep hkk (fun _ _ _ h => h)).more (fun b _ e => ⟨fun f => by
    rcases HG1.out b f with e2 | e2
    · exact e.1 e2
    · have := HS0.out; omega, by have := HS0.out; omega⟩)
  have HKX2 : Hid (BS X (fun b => ¬ F1 b ∧ b < W.heap.size) (.slice kxo key.length kxc) key) := ((((HKX.out.more (D' := fun b => (¬ F b ∧ b < w.heap.size)) (fun _ _ h => h)).keep HK0.out (fun _ _ _ h => h)).keep HKP1.out (fun b _ e f => e.1 f)).keep hkk (fun _ _ _ h => h)).more (fun b _ e => ⟨fun f => by
    rcases HG1.out b f with e2 | e2
    · exact e.1 e2
    · have := HS0.out; omega, by have := HS0.out; omega⟩)
  clear hkk hF1lt c0 c1 c2 c3
  go_cut [] (fun wc => Hid (PutMid X F1 W.heap.size w1.heap.size true (n.putAt i key val) wc))
  case first =>
    have c1 := HB1.out.cell 1
    have c2 := HB1.out.cell 2
    have f1 := HB1.out.frozen 1
    have f2 := HB1.out.frozen 2
    simp only [List.getElem?_cons_zero, List.getElem?_cons_succ] at c1 c2
    rcases bb with _ | _
    · have hvl2 : n.vals.length = n.keys.length := (HN.out.sh.lf HLF.out).1
      have hwX : w1.heap.size < X.heap.size := HB1.out.lt
      have HN2 : Hid (NdO X (fun b => ¬ F1 b ∧ b ≠ w1.heap.size) (.slice ko n.keys.length kc) (.slice vo n.vals.length vc) (.slice io n.kids.length ic) n) := (((HND.out.more (B' := fun b => (W.heap.size ≤ b ∧ ¬ F1 b) ∧ b < w1.heap.size) (fun b hb e => ⟨e, hb⟩)).keep HKK.out (fun _ _ _ h => h)).more (fun b _ e => ⟨e.1.2, by omega⟩))
      have HAR : Hid (∀ b, (Value.slice ko n.keys.length kc).ownBlock = some b ∨ (Value.slice vo n.vals.length vc).ownBlock = some b ∨ (Value.slice io n.kids.length ic).ownBlock = some b → W.heap.size ≤ b ∧ b < w1.heap.size ∧ ¬ F1 b) := by
        obtain ⟨⟨ks, ho1, _⟩, ⟨vs1, ho2, _⟩, ho3, _⟩ := HND.out
        rintro b (e | e | e)
        · exact ⟨(ho1.blk e).1.1, (ho1.blk e).2, (ho1.blk e).1.2⟩
        · exact ⟨(ho2.blk e).1.1, (ho2.blk e).2, (ho2.blk e).1.2⟩
        · exact ⟨(ho3.blk e).1.1, (ho3.blk e).2, (ho3.blk e).1.2⟩
      have hWw : W.heap.size ≤ w1.heap.size := HKP1.out.size
      have HEK : Hid (BS X (Elm (fun b => ¬ F1 b ∧ b ≠ w1.heap.size) (.slice ko n.keys.length kc) (.slice vo n.vals.length vc) (.slice io n.kids.length ic)) (.slice kxo key.length kxc) key) := HKX2.out.more (fun b _ e => ⟨⟨e.1, by omega⟩, fun f => by have := (HAR.out b (.inl f)).1; omega, fun f => by have := (HAR.out b (.inr (.inl f))).1; omega, fun f => by have := (HAR.out b (.inr (.inr f))).1; omega⟩)
      have HBX : Hid (∀ b, X.heap.size ≤ b → ¬ F1 b ∧ b ≠ w1.heap.size) := fun b hb => ⟨fun f => by have := HFL.out b f; omega, by omega⟩
      have HV2 := Lib.hid hvl2
      have hil2 : i ≤ n.vals.length := by omega
      have hvn : n.vals.length ≤ 1000 := by omega
      have HIL2 := Lib.hid hil2
      have HVN := Lib.hid hvn
      have HNB1 : Hid ((Value.slice ko n.keys.length kc).ownBlock ≠ some w1.heap.size) := fun e => by have := (HAR.out _ (.inl e)).2.1; omega
      have HNB2 : Hid ((Value.slice vo n.vals.length vc).ownBlock ≠ some w1.heap.size) := fun e => by have := (HAR.out _ (.inr (.inl e))).2.1; omega
      have hF1w : ¬ F1 w1.heap.size := fun f => by have := HFL.out _ f; omega
      have HPA : Hid (n.putAt i key val = ⟨n.leaf, n.keys.take i ++ (key :: n.keys.drop i), n.vals.take i ++ (val :: n.vals.drop i), n.kids⟩) := by
        show _ = _
        unfold Nd.putAt
        rw [if_neg (of_decide_eq_false HBB.out)]
      clear hvl2 hil2 hvn
      go_upto_region 8 with fail
      go_region_law (first
        | (go_simp; go_at_call_of 76 (Value.slice ko n.keys.length kc); refine Calls.mono (keys_ins (i := i) HN2.out HBX.out hile hcn HEK.out _ _ ?ka ?kb ?kc) ?_; (case ka => (repeat (first | exact Keep.refl _ _ | refine Keep.drew ?_ | refine Keep.alloc ?_ _))); (case kb => (first | exact Nat.le_refl _ | exact Nat.le_succ _)); (case kc => (first | exact (row1 X _ _).drew | exact (row2 X _ _ _).drew | exact (row3 X _ _ _).drew)); rintro e w5 ⟨ao5, ac5, rfl, hn5, hk5, hm5⟩; have hkX5 : Keep (fun b => (Value.slice ko n.keys.length kc).ownBlock = some b) X w5 := Keep.trans (by (repeat (first | exact Keep.refl _ _ | refine Keep.drew ?_ | refine Keep.alloc ?_ _))) hk5 (fun _ _ h => h); (try (have RB2 : Row w5 (X.heap.size + 1) 23 [.slice vxo val.length vxc] := Row.keep (row2 X _ _ _).drew hk5 (fun e => by have := (HAR.out _ (.inl e)).2.1; omega))); (try (have RB2 : Row w5 X.heap.size 23 [.slice vxo val.length vxc] := Row.keep (row3 X _ _ _).drew hk5 (fun e => by have := (HAR.out _ (.inl e)).2.1; omega))); have N5 := Lib.hid hn5; have M5 := Lib.hid hm5; have K5 := Lib.hid hkX5; have R5 := Lib.hid (HB1.out.keep hkX5 HNB1.out); have d2 := R5.out.cell 2; have hw5 := R5.out.lt; simp only [List.getElem?_cons_zero, List.getElem?_cons_succ] at d2; clear hn5 hm5 hk5 hkX5)
        | (go_simp; go_at_call_of 76 (Value.slice vo n.vals.length vc); refine Calls.mono (put_vals N5.out M5.out K5.out HVX2.out HAR.out HBX.out HIL2.out HVN.out _ _ ?va ?vb ?vc hWw hwX) ?_; (case va => (repeat (first | exact Keep.refl _ _ | refine Keep.drew ?_ | refine Keep.alloc ?_ _))); (case vb => (first | exact RB2 | exact row1 w5 _ _)); (case vc => (first | exact Nat.le_refl _ | exact Nat.le_succ _ | exact K5.out.size)); rintro e w6 ⟨ao6, ac6, rfl, hn6, hk6⟩; have N6 := Lib.hid hn6; have K6 := Lib.hid hk6; have r6 := HB1.out.keep hk6 (fun e => e.elim HNB1.out HNB2.out); have R6 := Lib.hid r6; have e1 := r6.cell 1; have e2 := r6.cell 2; have g1 := r6.frozen 1; have g2 := r6.frozen 2; simp only [List.getElem?_cons_zero, List.getElem?_cons_succ] at e1 e2; clear hn6 hk6 r6))
      all_goals
        go_wp2_with fail
        go_meet
        refine Lib.hid ?_
        rw [HPA.out]
        exact put_fin N6.out K6.out R6.out HAR.out hWw hF1w
    · have hlt : i < n.keys.length := by
        rcases Nat.lt_or_ge i n.keys.length with h | h
        · exact h
        · have := HBB.out
          rw [decide_eq_true_iff, List.getElem?_eq_none h] at this
          simp at this
      have hvl2 : n.vals.length = n.keys.length := (HN.out.sh.lf HLF.out).1
      obtain ⟨vs, ho, he⟩ := HNX.out.vals
      have hvs : vs.length = n.vals.length := he.1
      rcases ho with ⟨e1, e2⟩ | ⟨g, rest, e1, hB, hrow, hm⟩
      · rw [e2] at hvs; simp at hvs; omega
      simp only [Value.slice.injEq] at e1
      have hvc := e1.2.2
      obtain rfl := e1.1
      clear e1
      have HVC := Lib.hid hvc
      clear hvc
      obtain ⟨v0, hcell⟩ : ∃ v0, X.cell? ⟨g, i, none⟩ = some v0 := ⟨vs[i]'(by omega), by rw [hrow.cell, List.getElem?_append_left (by omega), List.getElem?_eq_getElem]⟩
      have hfr := hrow.frozen i
      have hx1 : (i : Int) < (n.vals.length : Int) := by omega
      have HROW := Lib.hid hrow
      have HHE := Lib.hid he
      have HHB := Lib.hid hB
      have HHM := Lib.hid hm
      have HVS := Lib.hid hvs
      have HV2 := Lib.hid hvl2
      clear hrow he hvs hB hvl2
      go_wp2_with fail
      go_meet
      case rel =>
        have hk1 : Keep (Just g) X (X.setCell ⟨g, i, none⟩ (.slice vxo val.length vxc)) := (Keep.refl (Just g) X).setCell (p := ⟨g, i, none⟩) (fun _ => rfl) _
        have hk2 : Keep (fun b => (Value.slice (some ⟨g, 0, none⟩) n.vals.length vc).ownBlock = some b) X (X.setCell ⟨g, i, none⟩ (.slice vxo val.length vxc)) := hk1.mono (fun b _ e => by cases e; rfl)
        have hpa : n.putAt i key val = { n with vals := n.vals.set i val } := by
          unfold Nd.putAt
          rw [if_pos (of_decide_eq_true HBB.out)]
        have hbs : BS X (Elm (fun b => ¬ F1 b) (.slice ko n.keys.length kc) (.slice (some ⟨g, 0, none⟩) n.vals.length vc) (.slice io n.kids.length ic)) (.slice vxo val.length vxc) val := HVX2.out.more (fun b _ e => by
          obtain ⟨⟨ks, ho1, _⟩, ⟨vs1, ho2, _⟩, ho3, _⟩ := HNX.out
          exact ⟨e.1, fun f => by have := (ho1.blk f).1.1; omega, fun f => by have := (ho2.blk f).1.1; omega, fun f => by have := (ho3.blk f).1.1; omega⟩)
        have hnd := (HNX.out.more (B' := fun b => ¬ F1 b) (fun b _ e => e.2)).newVals hk2 (.inl rfl) (fun _ _ h => h) (vs' := vs.set i (.slice vxo val.length vxc)) (vals' := n.vals.set i val)
          (.inr ⟨g, rest, by rw [List.length_set, HVC.out, HVS.out], HHB.out.2, by
            have := HROW.out.set i (.slice vxo val.length vxc)
            rwa [List.set_append_left _ _ (by have := HVS.out; have := HV2.out; omega)] at this, by rw [List.length_set]; exact HHM.out⟩)
          ((HHE.out.more (fun b _ e => ⟨e.1.2, e.2⟩)).set i hbs)
        refine ⟨hk1.mono (fun b _ e => by cases e; exact ⟨HHB.out.2, HHB.out.1⟩), _, _, _, HB1.out.far (p := ⟨g, i, none⟩) (fun e => ?_) _, ?_⟩
        · exact HB1.out.ne HROW.out (by decide) e
        · rw [hpa]; exact hnd
  case rest =>
    have hm := Lib.hid hcut.out.keep
    obtain ⟨kv2, vv2, iv2, hrow2, hnd2⟩ := hcut.out.it
    obtain ⟨xo1, xc1, xo2, xc2, xo3, xc3, rfl, rfl, rfl⟩ := hnd2.forms
    have ht2 : TrOK wc F1 tb pb root st1 img1 k1 := ⟨HTX.out.pages.keep hm.out (fun b hb e => e.1 hb), HTX.out.row.keep hm.out (fun e => by have := H.out.lt; have := HS0.out; omega), HTX.out.out⟩
    have hwc : w.heap.size < wc.heap.size := by
      have h1 : w1.heap.size ≤ X.heap.size := HKK.out.size
      have h2 : X.heap.size ≤ wc.heap.size := hm.out.size
      have h3 : W.heap.size ≤ w1.heap.size := HKP1.out.size
      have := HS0.out
      omega
    have hl := HLAY.out i wc F1 k1 _ _ _ hile HPL.out hwc ht2 hk1 hnd2.r
    clear hwc
    have HL := Lib.hid hl
    have c0 := hrow2.cell 0
    have c1 := hrow2.cell 1
    have c2 := hrow2.cell 2
    have c3 := hrow2.cell 3
    simp only [List.getElem?_cons_zero, List.getElem?_cons_succ] at c0 c1 c2 c3
    have hlb : Row wc w.heap.size 140 zl := ((((HR0.out.keep HKP1.out (fun f => by have := H.out.pages.lt _ f; omega)).keep HKX0.out (fun h => h)).keep HKX1.out (fun h => h)).keep hm.out (fun e => by have := HS0.out; omega))
    have HLB := Lib.hid hlb
    have HT2 := Lib.hid ht2
    clear hcut hrow2 hnd2 ht2 hl hlb
    go_wp2_with (go_at_call 52; refine HL.out.mono ?_; rintro e w5 ⟨xo, xl, xc, b, rfl, ht⟩; have HT5 := Lib.hid ht; have hlb5 : Row w5 w.heap.size 140 zl := (by obtain ⟨⟨F2, st2, img2, k2, ht2, hk2, hkp2, hg2, hx2⟩⟩ := ht; exact HLB.out.keep hkp2 (fun f => by rcases HG1.out _ f with e | e; exact absurd (H.out.pages.lt _ e) (Nat.lt_irrefl _); have := HS0.out; omega)); have y0 := hlb5.cell 0; have y1 := hlb5.cell 1; have y2 := hlb5.cell 2; have z0 := hlb5.frozen 0; have z1 := hlb5.frozen 1; have z2 := hlb5.frozen 2; simp only [zl, List.getElem?_cons_zero, List.getElem?_cons_succ] at y0 y1 y2; have HLB5 := Lib.hid hlb5; clear ht hlb5)
    have r3 := HLB5.out.set3 rfl (.int .i64 p) (.slice xo xl xc) (.int .i64 b)
    have k3 := three_keep w5 w.heap.size (.int .i64 p) (.slice xo xl xc) (.int .i64 b)
    refine bodyPost_ret (ret_laid rfl _ r3 rfl) rfl ?_
    have hsW := HS0.out
    have hkw : Keep F w wc := ((((HK0.out.any F).trans HKP1.out (fun _ _ h => h)).next HKK.out (fun _ e => e.elim)).next hm.out (fun b e => .inl (by omega)))
    refine ⟨i, _, b, rfl, hile, HPL.out, HT5.out.wrap hkw (fun b hb => (HG1.out b hb).imp id (fun e => by omega)) hk1 k3 (fun b e => ?_) H.out.lt (fun F2 st2 img2 hg2 hlt hx => ?_)⟩
    · have h1 := hkw.size
      unfold Just at e
      have h2 : W.heap.size ≤ w1.heap.size := HKP1.out.size
      have h3 : w1.heap.size ≤ wc.heap.size := Nat.le_trans HKK.out.size hm.out.size
      refine ⟨by omega, by omega, fun f => ?_⟩
      rcases HG1.out _ f with e2 | e2
      · have := H.out.pages.lt _ e2; omega
      · omega
    · exact HY.out i _ b w5 _ F2 st2 img2 k3 (fun b e => e) (fun f => by
        rcases hg2 _ f with e2 | e2
        · rcases HG1.out _ e2 with e3 | e3
          · have := H.out.pages.lt _ e3; omega
          · omega
        · have h2 : W.heap.size ≤ w1.heap.size := HKP1.out.size
          have h3 : w1.heap.size ≤ wc.heap.size := Nat.le_trans HKK.out.size hm.out.size
          omega) hx
end
end Go.Proofs.YtfhapbggngdckaaGreat
