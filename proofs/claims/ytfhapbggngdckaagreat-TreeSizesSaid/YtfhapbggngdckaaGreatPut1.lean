/- Trees: put at an inner node. -/
import Derived.Test.YtfhapbggngdckaaGreatPut0
import Derived.Test.YtfhapbggngdckaaGreatPre
namespace Go.Proofs.YtfhapbggngdckaaGreat
set_option linter.unusedSimpArgs false
set_option linter.unusedVariables false
open Go.RowKit
/-- The inner node with one kid more. -/
def Nd.kidAt (n : Nd) (i : Nat) (sep : Byt) (q : Int) : Nd := { n with keys := n.keys.take i ++ (sep :: n.keys.drop i), kids := n.kids.take (i + 1) ++ (q :: n.kids.drop (i + 1)) }
/-- The kid's place. -/
structure KPlc (n : Nd) (key : Byt) (i : Nat) : Prop where
  le : i ≤ n.keys.length
  low : ∀ j (h : j < n.keys.length), j < i → ¬ lt key n.keys[j]
  high : ∀ j (h : j < n.keys.length), i ≤ j → lt key n.keys[j]
theorem kids_ins1 {X : World} {B : Nat → Prop} {n : Nd} {kv vv iv : Value} (h : NdO X B kv vv iv n) (hB : ∀ b, X.heap.size ≤ b → B b) {i : Nat} (hi : i + 1 ≤ n.kids.length) (hl : n.kids.length ≤ 1001) {x : Int} (Y : World) (vb : Nat) (hk : Keep No X Y) (hr : Row Y vb 3 [.int .i64 x]) (hne : iv.ownBlock ≠ some vb) :
    Calls Tryz.prog 77 #[iv, .int .i64 ((i : Int) + 1), .slice (some ⟨vb, 0, none⟩) 1 1] Y fun e w' => ∃ ao ac, e = .returned (.slice ao (n.kids.length + 1) ac) ∧ NdO w' B kv vv (.slice ao (n.kids.length + 1) ac) { n with kids := n.kids.take (i + 1) ++ (x :: n.kids.drop (i + 1)) } ∧ Keep (fun b => iv.ownBlock = some b) Y w' ∧ Moved X iv (.slice ao (n.kids.length + 1) ac) := by
  have := kids_ins h hB hi hl (x := x) Y vb hk hr hne
  rwa [show ((i + 1 : Nat) : Int) = (i : Int) + 1 by omega] at this
/-- A node's box and what was laid, held. -/
structure Hold2 (Z : World) (G : Nat → Prop) (b1 b2 : Nat) (cs ds : List Value) (Y : World) : Prop where
  keep : Keep G Z Y
  r1 : Row Y b1 144 cs
  r2 : Row Y b2 140 ds
theorem Hold2.drew {Z Y : World} {G : Nat → Prop} {b1 b2 : Nat} {cs ds : List Value} (h : Hold2 Z G b1 b2 cs ds Y) : Hold2 Z G b1 b2 cs ds Y.drew := ⟨h.keep.drew, h.r1.drew, h.r2.drew⟩
theorem Hold2.alloc {Z Y : World} {G : Nat → Prop} {b1 b2 : Nat} {cs ds : List Value} (h : Hold2 Z G b1 b2 cs ds Y) (o : Obj) : Hold2 Z G b1 b2 cs ds (Y.alloc o) := ⟨h.keep.alloc o, h.r1.alloc o, h.r2.alloc o⟩
theorem Hold2.step {Z Y Y' : World} {G G' : Nat → Prop} {b1 b2 : Nat} {cs ds : List Value} (h : Hold2 Z G b1 b2 cs ds Y) (k : Keep G' Y Y') (hG : ∀ b, G' b → G b) (h1 : ¬ G b1) (h2 : ¬ G b2) : Hold2 Z G b1 b2 cs ds Y' := ⟨h.keep.trans k (fun _ _ e => hG _ e), h.r1.keep k (fun e => h1 (hG _ e)), h.r2.keep k (fun e => h2 (hG _ e))⟩
theorem Hold2.limbs {Z Y : World} {G : Nat → Prop} {b1 b2 : Nat} {a0 a1 a2 a3 d0 d1 d2 : Value} (h : Hold2 Z G b1 b2 [a0, a1, a2, a3] [d0, d1, d2] Y) : Y.cell? ⟨b1, 1, none⟩ = some a1 ∧ Y.cell? ⟨b1, 3, none⟩ = some a3 ∧ Y.cell? ⟨b2, 1, none⟩ = some d1 ∧ Y.cell? ⟨b2, 2, none⟩ = some d2 :=
  ⟨h.r1.cell 1, h.r1.cell 3, h.r2.cell 1, h.r2.cell 2⟩
theorem put_fin2 {X w6 : World} {F1 F2 : Nat → Prop} {cW cb c5 : Nat} {m : Nd} {kv vv iv kv' vv' iv' a1 a3 : Value} {lf : Bool} (N6 : NdO w6 (fun b => ¬ F2 b ∧ b ≠ cb ∧ b ≠ c5) kv' vv' iv' m) (K6 : Keep (fun b => kv.ownBlock = some b ∨ iv.ownBlock = some b) X w6) (R6 : Row w6 cb 144 [.bool lf, a1, vv', a3])
    (HAR : ∀ b, kv.ownBlock = some b ∨ vv.ownBlock = some b ∨ iv.ownBlock = some b → cW ≤ b ∧ b < cb ∧ ¬ F1 b) (hF12 : ∀ b, b < cb → ¬ F1 b → ¬ F2 b) (hcb : cW ≤ cb) (hF : ¬ F2 cb) : PutMid X F2 cW cb lf m ((w6.setCell ⟨cb, 1, none⟩ kv').setCell ⟨cb, 3, none⟩ iv') := by
  have k7 : Keep (Just cb) w6 ((w6.setCell ⟨cb, 1, none⟩ kv').setCell ⟨cb, 3, none⟩ iv') := ((Keep.refl (Just cb) w6).setCell (p := ⟨cb, 1, none⟩) (fun _ => rfl) _).setCell (p := ⟨cb, 3, none⟩) (fun _ => rfl) _
  refine ⟨(K6.mono (G := fun b => ¬ F2 b ∧ cW ≤ b) (fun b _ e => ?_)).trans (k7.mono (G := fun b => ¬ F2 b ∧ cW ≤ b) (fun b _ e => by cases e; exact ⟨hF, hcb⟩)) (fun _ _ h => h), kv', vv', iv', (R6.set 1 kv').set 3 iv', (N6.keep k7 (fun b _ e f => e.2.1 f)).more (fun b _ e => e.1)⟩
  rcases e with e | e
  · have := HAR b (.inl e); exact ⟨hF12 b this.2.1 this.2.2, this.1⟩
  · have := HAR b (.inr (.inr e)); exact ⟨hF12 b this.2.1 this.2.2, this.1⟩
/-- What the kid's put has answered. -/
structure KAns (c : Nat) (x : Value) (b : Int) (w : World) (F : Nat → Prop) : Prop where
  it : b = -1 ∨ ∃ q : Nat, b = q ∧ ∃ sep : Byt, sep.length ≤ 1000 ∧ BS w (fun b => c ≤ b ∧ ¬ F b) x sep
section
variable {w w' : World} {F : Nat → Prop} {tb pb : Nat} {root : Int} {st st' : List Int} {img img' : Nat → Byt} {k c ck : Nat} {n : Nd} {kv vv iv kx vx : Value} {key val : Byt}
set_option maxRecDepth 20000 in
set_option maxHeartbeats 8000000 in
theorem put_inner (h : TrOK w F tb pb root st img k) (p : Nat) (hp : st[p]? = some 2) (hn : OnPage img p n) (hlf : n.leaf = false) (deep : Int) (hd0 : 0 ≤ deep) (hd : deep ≤ 20) (hk : k < 1099511627700)
    (hkx : BS w (fun b => ¬ F b) kx key) (hvx : BS w (fun b => ¬ F b) vx val) (hkl : key.length ≤ 240) (hvl : val.length ≤ 260) {KY Y : Nat → Value → Int → World → (Nat → Prop) → List Int → (Nat → Byt) → Prop}
    (hkid : ∀ (i : Nat) (X : World) (F1 : Nat → Prop) (k1 : Nat) (pk : Int), KPlc n key i → n.kids[i]? = some pk → TrOK X F1 tb pb root st img k1 → k1 ≤ k + 4 → BS X (fun b => ¬ F1 b) kx key → BS X (fun b => ¬ F1 b) vx val →
      Calls Tryz.prog 53 #[.pointer (some ⟨tb, 0, none⟩), .int .i64 pk, .int .i64 (deep + 1), kx, vx] X fun e w' => ∃ xo xl xc b, e = .returned (.tuple #[.agg #[.int .i64 pk, .slice xo xl xc, .int .i64 b], .int .i64 0]) ∧
        TT X F1 tb pb root k1 ck (fun w2 F2 st2 img2 => KAns X.heap.size (.slice xo xl xc) b w2 F2 ∧ KY i (.slice xo xl xc) b w2 F2 st2 img2) w')
    (hone : ∀ i x w2 F2 st2 img2, KPlc n key i → KY i x (-1) w2 F2 st2 img2 → Y i (.slice none 0 0) (-1) w2 F2 st2 img2)
    (hlay : ∀ (i : Nat) (x : Value) (q : Nat) (sep : Byt) (w2 : World) (F2 : Nat → Prop) (st2 : List Int) (img2 : Nat → Byt) (k2 : Nat) (X : World) (kv vv iv : Value), KPlc n key i → BS w2 (fun b => ¬ F2 b) x sep → KY i x q w2 F2 st2 img2 → w.heap.size < X.heap.size → TrOK X F2 tb pb root st2 img2 k2 → k2 ≤ k + 4 + ck → NdR X (fun b => ¬ F2 b) kv vv iv (n.kidAt i sep q) →
      Calls Tryz.prog 52 #[.pointer (some ⟨tb, 0, none⟩), .agg #[.bool false, kv, vv, iv], .int .i64 p] X fun e w' => ∃ xo xl xc b, e = .returned (.tuple #[.agg #[.int .i64 p, .slice xo xl xc, .int .i64 b], .int .i64 0]) ∧ TT X F2 tb pb root k2 c (Y i (.slice xo xl xc) b) w')
    (hY : ∀ i x b w1 w2 F' st img {G : Nat → Prop}, Keep G w1 w2 → (∀ b, G b → b = w.heap.size) → ¬ F' w.heap.size → Y i x b w1 F' st img → Y i x b w2 F' st img) :
    Calls Tryz.prog 53 #[.pointer (some ⟨tb, 0, none⟩), .int .i64 p, .int .i64 deep, kx, vx] w fun e w' => ∃ i x b, e = .returned (.tuple #[.agg #[.int .i64 p, x, .int .i64 b], .int .i64 0]) ∧ KPlc n key i ∧ TT w F tb pb root k (4 + ck + c) (Y i x b) w' := by
  have H := Lib.hid h
  have HN := Lib.hid hn
  have HKX := Lib.hid (hkx.more (D' := fun b => ¬ F b ∧ b < w.heap.size) (fun b hb e => ⟨e, hb⟩))
  have HVX := Lib.hid (hvx.more (D' := fun b => ¬ F b ∧ b < w.heap.size) (fun b hb e => ⟨e, hb⟩))
  have HLAY := Lib.hid hlay
  have HKID := Lib.hid hkid
  have HONE := Lib.hid hone
  have HY := Lib.hid hY
  obtain ⟨kxo, kxc, rfl, _, _⟩ := hkx.form
  obtain ⟨vxo, vxc, rfl, _, _⟩ := hvx.form
  obtain ⟨W, hW⟩ : ∃ W, W = w.alloc (.cells #[.int .i64 0, .slice none 0 0, .int .i64 0] 140) := ⟨_, rfl⟩
  have k0 : Keep No w W := by rw [hW]; exact (Keep.refl No w).alloc _
  have r0 : Row W w.heap.size 140 zl := by rw [hW]; exact Row.new w _ zl
  have s0 : W.heap.size = w.heap.size + 1 := by rw [hW]; simp
  have hrd := read_any (h.step k0) p (.inr hp) hn deep hd (by omega)
  rw [hlf] at hrd
  have HRD := Lib.hid hrd
  have HK0 := Lib.hid k0
  have HR0 := Lib.hid r0
  have HS0 := Lib.hid s0
  have HWW := Lib.hid hW
  have HLF := Lib.hid hlf
  have hcn := Nd.count_lt hn.sh (by have := hn.size; omega)
  have hkn := (hn.sh.inn hlf).2.1
  have HKN := Lib.hid hkn
  have hwd : IntKind.i64.wrap (deep + 1) = deep + 1 := IntWalk.i64_in _ (by omega)
  clear h hn hkx hvx hlay k0 r0 s0 hrd hW hp hY hlf hkid hone hkn
  go_enter Tryz.func53, Tryz.ntmps53
  go_upto_region 1 with fail
  rw [← HWW.out]
  clear HWW
  go_upto_region 10 with (go_at_call 55; refine HRD.out.mono ?_; rintro e w1 ⟨kv, vv, iv, rfl, ht⟩; obtain ⟨⟨F1, st1, img1, k1, ht1, hk1, hkp1, hg1, ⟨rfl, rfl⟩, hnd⟩⟩ := ht; obtain ⟨ko, kc, vo, vc, io, ic, rfl, rfl, rfl⟩ := hnd.forms; have HT1 := Lib.hid ht1; have HKP1 := Lib.hid hkp1; have HG1 := Lib.hid hg1; have HND := Lib.hid hnd; clear ht1 hkp1 hg1 hnd)
  have hb0 := Row.new w1 144 [.bool false, .slice ko n.keys.length kc, .slice vo n.vals.length vc, .slice io n.kids.length ic]
  have hkX0 := (Keep.refl No w1).alloc (.cells [.bool false, .slice ko n.keys.length kc, .slice vo n.vals.length vc, .slice io n.kids.length ic].toArray 144)
  have hsX0 : (w1.alloc (.cells [.bool false, .slice ko n.keys.length kc, .slice vo n.vals.length vc, .slice io n.kids.length ic].toArray 144)).heap.size = w1.heap.size + 1 := by simp
  rw [show (Obj.cells #[.bool false, .slice ko n.keys.length kc, .slice vo n.vals.length vc, .slice io n.kids.length ic] 144) = (Obj.cells [.bool false, .slice ko n.keys.length kc, .slice vo n.vals.length vc, .slice io n.kids.length ic].toArray 144) from rfl]
  generalize w1.alloc (.cells [.bool false, .slice ko n.keys.length kc, .slice vo n.vals.length vc, .slice io n.kids.length ic].toArray 144) = X0 at *
  have HKX0 := Lib.hid hkX0
  have HSX0 := Lib.hid hsX0
  have HFD := Lib.hid (kid_any (HND.out.r.keep hkX0 (fun _ _ _ h => h)) HN.out.sh.rise hcn (((HKX.out.keep HK0.out (fun _ _ _ h => h)).keep HKP1.out (fun b _ e f => e.1 f)).keep hkX0 (fun _ _ _ h => h)))
  rw [HLF.out] at HFD
  have HB0 := Lib.hid hb0
  have c0 := hb0.cell 0
  have c1 := hb0.cell 1
  have c2 := hb0.cell 2
  have c3 := hb0.cell 3
  simp only [List.getElem?_cons_zero, List.getElem?_cons_succ] at c0 c1 c2 c3
  clear hkX0 hb0 hsX0
  go_upto_region 11 with (go_at_call 57; refine HFD.out.mono ?_; rintro e X ⟨i, rfl, hil, hlo, hhi, hkX⟩; have HPL : Hid (KPlc n key i) := ⟨hil, hlo, hhi⟩; have HKX1 := Lib.hid hkX; clear hkX hlo hhi)
  have hkk := HKX0.out.trans HKX1.out (fun _ _ h => h)
  have HKK := Lib.hid hkk
  have HB1 := Lib.hid (HB0.out.keep HKX1.out (fun h => h))
  have HTX := Lib.hid (HT1.out.step hkk)
  have hF1lt : ∀ b, F1 b → b < w1.heap.size := HT1.out.pages.lt
  have HFL := Lib.hid hF1lt
  have HVX2 : Hid (BS X (fun b => ¬ F1 b ∧ b < W.heap.size) (.slice vxo val.length vxc) val) := ((((HVX.out.more (D' := fun b => (¬ F b ∧ b < w.heap.size)) (fun _ _ h => h)).keep HK0.out (fun _ _ _ h => h)).keep HKP1.out (fun b _ e f => e.1 f)).keep hkk (fun _ _ _ h => h)).more (fun b _ e => ⟨fun f => by
    rcases HG1.out b f with e2 | e2
    · exact e.1 e2
    · have := HS0.out; omega, by have := HS0.out; omega⟩)
  have HKX2 : Hid (BS X (fun b => ¬ F1 b ∧ b < W.heap.size) (.slice kxo key.length kxc) key) := ((((HKX.out.more (D' := fun b => (¬ F b ∧ b < w.heap.size)) (fun _ _ h => h)).keep HK0.out (fun _ _ _ h => h)).keep HKP1.out (fun b _ e f => e.1 f)).keep hkk (fun _ _ _ h => h)).more (fun b _ e => ⟨fun f => by
    rcases HG1.out b f with e2 | e2
    · exact e.1 e2
    · have := HS0.out; omega, by have := HS0.out; omega⟩)
  clear hkk hF1lt c0 c1 c2 c3
  have hik : i < n.kids.length := by have := HKN.out; omega
  have hNX := (HND.out.keep HKK.out (fun _ _ _ h => h))
  obtain ⟨gi, rest, hio, hgB, hgr⟩ : ∃ gi rest, io = some ⟨gi, 0, none⟩ ∧ (W.heap.size ≤ gi ∧ ¬ F1 gi) ∧ Row X gi 3 (n.kids.map (Value.int .i64) ++ rest) := by
    rcases hNX.kids with ⟨e1, e2⟩ | ⟨g, rest, e1, hB, hrow, hm⟩
    · have e3 : n.kids.length = 0 := by have := congrArg List.length e2; simpa using this
      omega
    · simp only [Value.slice.injEq] at e1
      exact ⟨g, rest, e1.1, hB, hrow⟩
  subst hio
  have hgi := hgr.lt
  have hci : X.cell? ⟨gi, i, none⟩ = some (.int .i64 n.kids[i]) := by rw [hgr.cell, List.getElem?_append_left (by simp; exact hik), List.getElem?_map, List.getElem?_eq_getElem hik]; rfl
  have hgw : gi < w1.heap.size := by
    rcases HND.out.kids with ⟨e1, e2⟩ | ⟨g, rest, e1, hB, hrow, hm⟩
    · have e3 : n.kids.length = 0 := by have := congrArg List.length e2; simpa using this
      omega
    · simp only [Value.slice.injEq, Option.some.injEq, Addr.mk.injEq, and_true] at e1
      have := hrow.lt
      omega
  have c3 := HB1.out.cell 3
  simp only [List.getElem?_cons_zero, List.getElem?_cons_succ] at c3
  have hx0 : (i : Int) < (n.kids.length : Int) := by omega
  have HNX := Lib.hid hNX
  have hpk : n.kids[i]? = some n.kids[i] := List.getElem?_eq_getElem hik
  generalize hpke : n.kids[i] = pk at *
  have HKC := Lib.hid (HKID.out i X F1 k1 pk HPL.out hpk HTX.out hk1 (HKX2.out.more (fun b _ e => e.1)) (HVX2.out.more (fun b _ e => e.1)))
  have HPK := Lib.hid hpke
  have HGR := Lib.hid hgr
  have HGB := Lib.hid hgB
  clear hpk hNX hpke hgr hgB
  go_upto_region 14 with (go_at_call 53; refine HKC.out.mono ?_; rintro e w5 ⟨xo, xl, xc, b, rfl, ht⟩; have HT5 := Lib.hid ht; clear ht)
  obtain ⟨⟨F2, st2, img2, k2, ht2, hk2, hkp2, hg2, ⟨hka⟩, hky⟩⟩ := HT5.out
  have HT2 := Lib.hid ht2
  have HKP2 := Lib.hid hkp2
  have HG2 := Lib.hid hg2
  have HKY := Lib.hid hky
  have hwX : w1.heap.size < X.heap.size := HB1.out.lt
  have hWw : W.heap.size ≤ w1.heap.size := HKP1.out.size
  have hs0 := HS0.out
  have hF1n : ∀ b, w1.heap.size ≤ b → ¬ F1 b := fun b hb f => by have := HFL.out b f; omega
  have hX5 : X.heap.size ≤ w5.heap.size := hkp2.size
  have kw5 := (Keep.refl No w5).alloc (.cells #[.int .i64 pk, .slice xo xl xc, .int .i64 b] 140)
  have hr5 := Row.new w5 140 [.int .i64 pk, .slice xo xl xc, .int .i64 b]
  generalize w5.alloc (.cells #[.int .i64 pk, .slice xo xl xc, .int .i64 b] 140) = X5 at *
  have HW5 := Lib.hid kw5
  have HL5 := Lib.hid hr5
  have hb5 := (HB1.out.keep hkp2 (hF1n _ (Nat.le_refl _))).keep kw5 (fun h => h)
  have HB5 := Lib.hid hb5
  have hg5 := (HGR.out.keep hkp2 HGB.out.2).keep kw5 (fun h => h)
  have HG5 := Lib.hid hg5
  have hL0 : Row X5 w.heap.size 140 zl := ((((HR0.out.keep HKP1.out (fun f => by have := H.out.pages.lt _ f; omega)).keep HKK.out (fun h => h)).keep hkp2 (fun f => by
    rcases HG1.out _ f with e | e
    · have := H.out.pages.lt _ e; omega
    · omega)).keep kw5 (fun h => h))
  have HL0 := Lib.hid hL0
  have l0 := hr5.cell 0
  have l1 := hr5.cell 1
  have l2 := hr5.cell 2
  have d0 := hb5.cell 0
  have d1 := hb5.cell 1
  have d2 := hb5.cell 2
  have d3 := hb5.cell 3
  simp only [List.getElem?_cons_zero, List.getElem?_cons_succ] at l0 l1 l2 d0 d1 d2 d3
  have hci5 : X5.cell? ⟨gi, i, none⟩ = some (.int .i64 pk) := by rw [hg5.cell, List.getElem?_append_left (by simp; exact hik), List.getElem?_map, List.getElem?_eq_getElem hik, HPK.out]; rfl
  have hkw : Keep F w X := (((HK0.out.any F).trans HKP1.out (fun _ _ h => h)).next HKK.out (fun _ e => e.elim))
  have HKW := Lib.hid hkw
  have hF2w : ¬ F2 w.heap.size := fun f => by
    rcases hg2 _ f with e | e
    · rcases HG1.out _ e with e | e
      · have := H.out.pages.lt _ e; omega
      · omega
    · omega
  have HF2W := Lib.hid hF2w
  have hgF : ∀ b, F1 b → F b ∨ w.heap.size ≤ b := fun b hb => (HG1.out b hb).imp id (fun e => by omega)
  have HGF := Lib.hid hgF
  clear ht2 hkp2 hg2 hky kw5 hr5 hb5 hg5 hL0 hci c3 hgF hkw HT5 hF2w
  rcases hka with rfl | ⟨q, rfl, sep, hsl, hbs⟩
  · have y0 := HL0.out.cell 0
    have y1 := HL0.out.cell 1
    have y2 := HL0.out.cell 2
    have z0 := HL0.out.frozen 0
    have z1 := HL0.out.frozen 1
    have z2 := HL0.out.frozen 2
    simp only [zl, List.getElem?_cons_zero, List.getElem?_cons_succ] at y0 y1 y2
    have hpp : ((pk : Int) == pk) = true := by simp
    go_quiet (fail)
    go_wp2_with fail
    have r3 := (HL0.out.drewN nq).set3 rfl (.int .i64 p) (.slice none 0 0) (.int .i64 (-1))
    have k3 := three_keep (X5.drewN nq) w.heap.size (.int .i64 p) (.slice none 0 0) (.int .i64 (-1))
    have kk : Keep (Just w.heap.size) w5 _ := ((HW5.out.drewN nq).any (Just w.heap.size)).trans k3 (fun _ _ h => h)
    refine bodyPost_ret (ret_laid rfl _ r3 rfl) rfl ?_
    refine ⟨i, _, _, rfl, HPL.out, (TT.wrap (c1 := 4) (c2 := ck) HKW.out HGF.out hk1 ⟨F2, st2, img2, k2, HT2.out, hk2, HKP2.out, HG2.out, HKY.out⟩ kk (fun b e => ?_) H.out.lt (fun F3 st3 img3 hg3 hlt hx => ?_)).mono (by omega) (fun _ _ _ _ _ h => h)⟩
    · unfold Just at e
      subst e
      exact ⟨Nat.le_refl _, by omega, fun f => by
        rcases HG1.out _ f with e2 | e2
        · have := H.out.pages.lt _ e2; omega
        · omega⟩
    · exact HY.out i _ _ w5 _ F3 st3 img3 kk (fun b e => e) (fun f => by
        rcases hg3 _ f with e2 | e2
        · rcases HG1.out _ e2 with e3 | e3
          · have := H.out.pages.lt _ e3; omega
          · omega
        · omega) (HONE.out i _ w5 F3 st3 img3 HPL.out hx)
  · have hd1 : ((q : Int) == -1) = false := by simp
    have hfi := HG5.out.frozen i
    go_quiet (fail)
    go_upto_region 18 with fail
    obtain ⟨Z, hZ⟩ : ∃ Z, Z = (X5.drewN nq).setCell ⟨gi, i, none⟩ (.int .i64 pk) := ⟨_, rfl⟩
    have kZ : Keep (Just gi) X5 Z := by rw [hZ]; exact ((Keep.refl (Just gi) X5).drewN nq).setCell (p := ⟨gi, i, none⟩) (fun _ => rfl) _
    have rZ : Row Z gi 3 (n.kids.map (Value.int .i64) ++ rest) := by
      have h1 := (HG5.out.drewN nq).set i (.int .i64 pk)
      rw [← hZ] at h1
      have e : (n.kids.map (Value.int .i64) ++ rest).set i (.int .i64 pk) = n.kids.map (Value.int .i64) ++ rest := by
        refine List.ext_getElem? fun j => ?_
        rw [List.getElem?_set]
        split
        · rename_i e
          subst e
          rw [if_pos (by simp; omega), List.getElem?_append_left (by simp; exact hik), List.getElem?_map, List.getElem?_eq_getElem hik, HPK.out]; rfl
        · rfl
      rwa [e] at h1
    rw [← hZ]
    clear hZ
    have HKZ := Lib.hid kZ
    have hgx : gi ≠ w1.heap.size ∧ gi ≠ w5.heap.size := ⟨by omega, by omega⟩
    have HBZ := Lib.hid (HB5.out.keep kZ (fun e => hgx.1 e.symm))
    have HLZ := Lib.hid (HL5.out.keep kZ (fun e => hgx.2 e.symm))
    have HAR : Hid (∀ b, (Value.slice ko n.keys.length kc).ownBlock = some b ∨ (Value.slice vo n.vals.length vc).ownBlock = some b ∨ (Value.slice (some ⟨gi, 0, none⟩) n.kids.length ic).ownBlock = some b → W.heap.size ≤ b ∧ b < w1.heap.size ∧ ¬ F1 b) := by
      obtain ⟨⟨ks, ho1, _⟩, ⟨vs1, ho2, _⟩, ho3, _⟩ := HND.out
      rintro b (e | e | e)
      · exact ⟨(ho1.blk e).1.1, (ho1.blk e).2, (ho1.blk e).1.2⟩
      · exact ⟨(ho2.blk e).1.1, (ho2.blk e).2, (ho2.blk e).1.2⟩
      · exact ⟨(ho3.blk e).1.1, (ho3.blk e).2, (ho3.blk e).1.2⟩
    have hF12 : ∀ b, b < w1.heap.size → ¬ F1 b → ¬ F2 b := fun b hb e f => by
      rcases HG2.out b f with e2 | e2
      · exact e e2
      · omega
    have hN5 : NdO X5 (fun b => (W.heap.size ≤ b ∧ ¬ F1 b) ∧ b < w1.heap.size) (.slice ko n.keys.length kc) (.slice vo n.vals.length vc) (.slice (some ⟨gi, 0, none⟩) n.kids.length ic) n :=
      (((HND.out.more (B' := fun b => (W.heap.size ≤ b ∧ ¬ F1 b) ∧ b < w1.heap.size) (fun b hb e => ⟨e, hb⟩)).keep HKK.out (fun _ _ _ h => h)).keep HKP2.out (fun b _ e f => e.1.2 f)).keep HW5.out (fun _ _ _ h => h)
    have hNZ : NdO Z (fun b => ¬ F2 b ∧ b ≠ w1.heap.size ∧ b ≠ w5.heap.size) (.slice ko n.keys.length kc) (.slice vo n.vals.length vc) (.slice (some ⟨gi, 0, none⟩) n.kids.length ic) n := by
      have h1 := hN5.more (B' := fun b => ¬ F2 b ∧ b ≠ w1.heap.size ∧ b ≠ w5.heap.size) (fun b _ e => ⟨hF12 b e.2 e.1.2, by omega, by omega⟩)
      have hcap : ic = n.kids.length + rest.length ∧ n.kids.length + rest.length ≤ 9223372036854775807 := by
        rcases h1.kids with ⟨e1, e2⟩ | ⟨g, rest', e1, hB, hrow, hm⟩
        · cases e1
        · simp only [Value.slice.injEq, Option.some.injEq, Addr.mk.injEq, and_true, true_and, List.length_map] at e1 hm
          obtain ⟨rfl, e2⟩ := e1
          have e3 := (hrow.uniq HG5.out).2
          have e4 : rest'.length = rest.length := by have := congrArg List.length e3; simpa using this
          exact ⟨by omega, by omega⟩
      have h2 := h1.newKids (w' := Z) (iv' := .slice (some ⟨gi, 0, none⟩) n.kids.length ic) (kids' := n.kids) (kZ.mono (fun b _ e => by cases e; rfl)) (.inl rfl) (fun _ _ h => h)
        (.inr ⟨gi, rest, by rw [List.length_map, hcap.1], ⟨hF12 gi hgw HGB.out.2, hgx.1, hgx.2⟩, rZ, by rw [List.length_map]; exact hcap.2⟩)
      exact h2
    have HNZ := Lib.hid hNZ
    have hw5Z : w5.heap.size < Z.heap.size := HLZ.out.lt
    have HSEP : Hid (BS Z (fun b => (X.heap.size ≤ b ∧ ¬ F2 b) ∧ b < w5.heap.size) (.slice xo xl xc) sep) := ((hbs.more (D' := fun b => (X.heap.size ≤ b ∧ ¬ F2 b) ∧ b < w5.heap.size) (fun b hb e => ⟨e, hb⟩)).keep HW5.out (fun _ _ _ h => h)).keep kZ (fun b _ e f => by unfold Just at f; omega)
    have HBS := Lib.hid hbs
    have HELS : Hid (BS Z (Elm (fun b => ¬ F2 b ∧ b ≠ w1.heap.size ∧ b ≠ w5.heap.size) (.slice ko n.keys.length kc) (.slice vo n.vals.length vc) (.slice (some ⟨gi, 0, none⟩) n.kids.length ic)) (.slice xo xl xc) sep) := HSEP.out.more (fun b _ e => ⟨⟨e.1.2, by omega, by omega⟩, fun f => by have := (HAR.out b (.inl f)).2.1; omega, fun f => by have := (HAR.out b (.inr (.inl f))).2.1; omega, fun f => by have := (HAR.out b (.inr (.inr f))).2.1; omega⟩)
    have hF2lt : ∀ b, F2 b → b < w5.heap.size := HT2.out.pages.lt
    have HBX : Hid (∀ b, Z.heap.size ≤ b → ¬ F2 b ∧ b ≠ w1.heap.size ∧ b ≠ w5.heap.size) := fun b hb => ⟨fun f => by have := hF2lt b f; omega, by omega, by omega⟩
    have HZK := Lib.hid ((HW5.out.any (Just gi)).trans kZ (fun _ _ h => h))
    have HO0 : Hid (Hold2 Z (fun b => (Value.slice ko n.keys.length kc).ownBlock = some b ∨ (Value.slice (some ⟨gi, 0, none⟩) n.kids.length ic).ownBlock = some b) w1.heap.size w5.heap.size [.bool false, .slice ko n.keys.length kc, .slice vo n.vals.length vc, .slice (some ⟨gi, 0, none⟩) n.kids.length ic] [.int .i64 pk, .slice xo xl xc, .int .i64 q] Z) := ⟨Keep.refl _ _, HBZ.out, HLZ.out⟩
    have HG1' : Hid (¬ ((Value.slice ko n.keys.length kc).ownBlock = some w1.heap.size ∨ (Value.slice (some ⟨gi, 0, none⟩) n.kids.length ic).ownBlock = some w1.heap.size)) := fun e => by
      rcases e with e | e
      · have := (HAR.out _ (.inl e)).2.1; omega
      · have := (HAR.out _ (.inr (.inr e))).2.1; omega
    have HG5' : Hid (¬ ((Value.slice ko n.keys.length kc).ownBlock = some w5.heap.size ∨ (Value.slice (some ⟨gi, 0, none⟩) n.kids.length ic).ownBlock = some w5.heap.size)) := fun e => by
      rcases e with e | e
      · have := (HAR.out _ (.inl e)).2.1; omega
      · have := (HAR.out _ (.inr (.inr e))).2.1; omega
    have hkl2 : n.kids.length ≤ 1001 := by have := HKN.out; omega
    have hi1 : i + 1 ≤ n.kids.length := by omega
    have hq1 : IntKind.i64.wrap ((i : Int) + 1) = (i : Int) + 1 := IntWalk.i64_in _ (by omega)
    clear hN5 hNZ kZ rZ l0 l1 l2 d0 d1 d2 d3 hci5 hfi hgx hF12 hbs
    go_cut [] (fun wc => Hid (PutMid Z F2 W.heap.size w1.heap.size false (n.kidAt i sep q) wc))
    case first =>
      have hS0 := HO0.out.drew.limbs
      have hF1F2 : ∀ b, b < w1.heap.size → ¬ F1 b → ¬ F2 b := fun b hb e f => by
        rcases HG2.out b f with e2 | e2
        · exact e e2
        · omega
      have hF2w1 : ¬ F2 w1.heap.size := fun f => by
        rcases HG2.out _ f with e2 | e2
        · exact hF1n _ (Nat.le_refl _) e2
        · omega
      have HFF := Lib.hid hF1F2
      clear hF1F2
      refine wp_region_pre 16 (fun Y => Y.cell? ⟨w1.heap.size, 1, none⟩ = some (.slice ko n.keys.length kc) ∧ Y.cell? ⟨w1.heap.size, 3, none⟩ = some (.slice (some ⟨gi, 0, none⟩) n.kids.length ic) ∧ Y.cell? ⟨w5.heap.size, 1, none⟩ = some (.slice xo xl xc) ∧ Y.cell? ⟨w5.heap.size, 2, none⟩ = some (.int .i64 q)) (by kernel_rfl) (by kernel_rfl) hS0 ?_
      -- BEGIN PRINTED
      refine pre_take_at 0 (v := ?v1) (by kernel_rfl) (by kernel_rfl) (by kernel_rfl) (fun _ _ _ _ h => h) (by rfl) (by assumption) ?y1 ?r1
      case y1 =>
        intro wq hSq
        try dsimp only at hSq
        go_split_ands
        simp only [List.getElem_toArray, List.getElem_cons_succ, List.getElem_cons_zero]
        go_simp
        try rfl
      try simp only [List.getElem_toArray, List.getElem_cons_succ, List.getElem_cons_zero, Act.put, List.setIfInBounds_toArray, List.set_cons_zero, List.set_cons_succ]
      refine pre_take_at 1 (v := ?v2) (by kernel_rfl) (by kernel_rfl) (by kernel_rfl) (fun _ _ _ _ h => h) (by rfl) (by assumption) ?y2 ?r2
      case y2 =>
        intro wq hSq
        try dsimp only at hSq
        go_split_ands
        simp only [List.getElem_toArray, List.getElem_cons_succ, List.getElem_cons_zero]
        go_simp
        try rfl
      try simp only [List.getElem_toArray, List.getElem_cons_succ, List.getElem_cons_zero, Act.put, List.setIfInBounds_toArray, List.set_cons_zero, List.set_cons_succ]
      refine pre_take_at 2 (v := ?v3) (by kernel_rfl) (by kernel_rfl) (by kernel_rfl) (fun _ _ _ _ h => h) (by rfl) (by assumption) ?y3 ?r3
      case y3 =>
        intro wq hSq
        try dsimp only at hSq
        go_split_ands
        simp only [List.getElem_toArray, List.getElem_cons_succ, List.getElem_cons_zero]
        go_simp
        try rfl
      try simp only [List.getElem_toArray, List.getElem_cons_succ, List.getElem_cons_zero, Act.put, List.setIfInBounds_toArray, List.set_cons_zero, List.set_cons_succ]
      refine pre_take_at 3 (v := ?v4) (by kernel_rfl) (by kernel_rfl) (by kernel_rfl) (fun _ _ _ _ h => h) (by rfl) (by assumption) ?y4 ?r4
      case y4 =>
        intro wq hSq
        try dsimp only at hSq
        go_split_ands
        simp only [List.getElem_toArray, List.getElem_cons_succ, List.getElem_cons_zero]
        go_simp
        try rfl
      try simp only [List.getElem_toArray, List.getElem_cons_succ, List.getElem_cons_zero, Act.put, List.setIfInBounds_toArray, List.set_cons_zero, List.set_cons_succ]
      refine pre_take_at 4 (v := ?v5) (by kernel_rfl) (by kernel_rfl) (by kernel_rfl) (fun _ _ _ _ h => h) (by rfl) (by assumption) ?y5 ?r5
      case y5 =>
        intro wq hSq
        try dsimp only at hSq
        go_split_ands
        simp only [List.getElem_toArray, List.getElem_cons_succ, List.getElem_cons_zero]
        go_simp
        try rfl
      try simp only [List.getElem_toArray, List.getElem_cons_succ, List.getElem_cons_zero, Act.put, List.setIfInBounds_toArray, List.set_cons_zero, List.set_cons_succ]
      refine pre_take_at 7 (v := ?v6) (by kernel_rfl) (by kernel_rfl) (by kernel_rfl) (fun _ _ _ _ h => h) (by rfl) (by assumption) ?y6 ?r6
      case y6 =>
        intro wq hSq
        try dsimp only at hSq
        go_split_ands
        simp only [List.getElem_toArray, List.getElem_cons_succ, List.getElem_cons_zero]
        go_simp
        try rfl
      try simp only [List.getElem_toArray, List.getElem_cons_succ, List.getElem_cons_zero, Act.put, List.setIfInBounds_toArray, List.set_cons_zero, List.set_cons_succ]
      refine pre_take_at 8 (v := ?v7) (by kernel_rfl) (by kernel_rfl) (by kernel_rfl) (fun _ _ _ _ h => h) (by rfl) (by assumption) ?y7 ?r7
      case y7 =>
        intro wq hSq
        try dsimp only at hSq
        go_split_ands
        simp only [List.getElem_toArray, List.getElem_cons_succ, List.getElem_cons_zero]
        go_simp
        try rfl
      try simp only [List.getElem_toArray, List.getElem_cons_succ, List.getElem_cons_zero, Act.put, List.setIfInBounds_toArray, List.set_cons_zero, List.set_cons_succ]
      refine pre_take_at 9 (v := ?v8) (by kernel_rfl) (by kernel_rfl) (by kernel_rfl) (fun _ _ _ _ h => h) (by rfl) (by assumption) ?y8 ?r8
      case y8 =>
        intro wq hSq
        try dsimp only at hSq
        go_split_ands
        simp only [List.getElem_toArray, List.getElem_cons_succ, List.getElem_cons_zero]
        go_simp
        try rfl
      try simp only [List.getElem_toArray, List.getElem_cons_succ, List.getElem_cons_zero, Act.put, List.setIfInBounds_toArray, List.set_cons_zero, List.set_cons_succ]
      refine pre_take_at 10 (v := ?v9) (by kernel_rfl) (by kernel_rfl) (by kernel_rfl) (fun _ _ _ _ h => h) (by rfl) (by assumption) ?y9 ?r9
      case y9 =>
        intro wq hSq
        try dsimp only at hSq
        go_split_ands
        simp only [List.getElem_toArray, List.getElem_cons_succ, List.getElem_cons_zero]
        go_simp
        try rfl
      try simp only [List.getElem_toArray, List.getElem_cons_succ, List.getElem_cons_zero, Act.put, List.setIfInBounds_toArray, List.set_cons_zero, List.set_cons_succ]
      refine pre_take_at 11 (v := ?v10) (by kernel_rfl) (by kernel_rfl) (by kernel_rfl) (fun _ _ _ _ h => h) (by rfl) (by assumption) ?y10 ?r10
      case y10 =>
        intro wq hSq
        try dsimp only at hSq
        go_split_ands
        simp only [List.getElem_toArray, List.getElem_cons_succ, List.getElem_cons_zero]
        go_simp
        try rfl
      try simp only [List.getElem_toArray, List.getElem_cons_succ, List.getElem_cons_zero, Act.put, List.setIfInBounds_toArray, List.set_cons_zero, List.set_cons_succ]
      refine pre_take_at 12 (v := ?v11) (by kernel_rfl) (by kernel_rfl) (by kernel_rfl) (fun _ _ _ _ h => h) (by rfl) (by assumption) ?y11 ?r11
      case y11 =>
        intro wq hSq
        try dsimp only at hSq
        go_split_ands
        simp only [List.getElem_toArray, List.getElem_cons_succ, List.getElem_cons_zero]
        go_simp
        try rfl
      try simp only [List.getElem_toArray, List.getElem_cons_succ, List.getElem_cons_zero, Act.put, List.setIfInBounds_toArray, List.set_cons_zero, List.set_cons_succ]
      refine pre_ready [5, 13] (by kernel_rfl) (by simp) ?_
      refine PreAll.at 5 (by kernel_rfl) (fun K hK => ?_) ?_
      · simp only [List.getElem_toArray, List.getElem_cons_succ, List.getElem_cons_zero]
        go_simp
        have HO8 := Lib.hid (HO0.out.alloc (.cells #[.slice xo xl xc] 23)).drew
        refine hK.out _ _ HO8.out.limbs ?_
        have hHeld := HO8.out.limbs
        clear hK K
        try simp only [List.getElem_toArray, List.getElem_cons_succ, List.getElem_cons_zero, Act.put, List.setIfInBounds_toArray, List.set_cons_zero, List.set_cons_succ]
        refine pre_ready [6, 13] (by kernel_rfl) (by simp) ?_
        refine PreAll.at 6 (by kernel_rfl) (fun K hK => ?_) ?_
        · simp only [List.getElem_toArray, List.getElem_cons_succ, List.getElem_cons_zero]
          go_simp
          refine Calls.mono (keys_ins (i := i) HNZ.out HBX.out hil hcn HELS.out _ _ ?ka11 ?kb11 ?kc11) ?_
          case ka11 => (repeat (first | exact Keep.refl _ _ | refine Keep.drew ?_ | refine Keep.alloc ?_ _))
          case kb11 => first | exact Nat.le_refl _ | exact Nat.le_succ _
          case kc11 => exact (row1 Z _ _).drew
          rintro e w6 ⟨ao6, ac6, rfl, hn6, hk6, hm6⟩
          have HO6 := Lib.hid (Hold2.step HO8.out hk6 (fun _ e => .inl e) HG1'.out HG5'.out)
          have HN6 := Lib.hid hn6
          have hz6 : Z.heap.size ≤ w6.heap.size := HO6.out.keep.size
          clear hn6 hk6 hm6
          refine hK.out _ _ HO6.out.limbs ?_
          have hHeld := HO6.out.limbs
          clear hK K
          try simp only [List.getElem_toArray, List.getElem_cons_succ, List.getElem_cons_zero, Act.put, List.setIfInBounds_toArray, List.set_cons_zero, List.set_cons_succ]
          refine pre_take_at 15 (v := ?v12) (by kernel_rfl) (by kernel_rfl) (by kernel_rfl) (fun _ _ _ _ h => h) (by rfl) (by assumption) ?y12 ?r12
          case y12 =>
            intro wq hSq
            try dsimp only at hSq
            go_split_ands
            simp only [List.getElem_toArray, List.getElem_cons_succ, List.getElem_cons_zero]
            go_simp
            try rfl
          try simp only [List.getElem_toArray, List.getElem_cons_succ, List.getElem_cons_zero, Act.put, List.setIfInBounds_toArray, List.set_cons_zero, List.set_cons_succ]
          refine pre_ready [13] (by kernel_rfl) (by simp) ?_
          refine PreAll.at 13 (by kernel_rfl) (fun K hK => ?_) ?_
          · simp only [List.getElem_toArray, List.getElem_cons_succ, List.getElem_cons_zero]
            go_simp
            have HO9 := Lib.hid (HO6.out.alloc (.cells #[.int .i64 q] 3))
            refine hK.out _ _ HO9.out.limbs ?_
            have hHeld := HO9.out.limbs
            clear hK K
            try simp only [List.getElem_toArray, List.getElem_cons_succ, List.getElem_cons_zero, Act.put, List.setIfInBounds_toArray, List.set_cons_zero, List.set_cons_succ]
            refine pre_ready [14] (by kernel_rfl) (by simp) ?_
            refine PreAll.at 14 (by kernel_rfl) (fun K hK => ?_) ?_
            · simp only [List.getElem_toArray, List.getElem_cons_succ, List.getElem_cons_zero]
              go_simp
              refine Calls.mono (kids_ins1 (i := i) (x := q) HN6.out (fun b hb => HBX.out b (by omega)) hi1 hkl2 _ _ ?va12 ?vc12 ?vd12) ?_
              case va12 => (repeat (first | exact Keep.refl _ _ | refine Keep.drew ?_ | refine Keep.alloc ?_ _))
              case vc12 => exact row1 w6 _ _
              case vd12 => exact (fun e => by have := (HAR.out _ (.inr (.inr e))).2.1; omega)
              rintro e w7 ⟨ao7, ac7, rfl, hn7, hk7, hm7⟩
              have HO7 := Lib.hid (Hold2.step HO9.out hk7 (fun _ e => .inr e) HG1'.out HG5'.out)
              have HN7 := Lib.hid hn7
              clear hn7 hk7 hm7
              refine hK.out _ _ HO7.out.limbs ?_
              have hHeld := HO7.out.limbs
              clear hK K
              try simp only [List.getElem_toArray, List.getElem_cons_succ, List.getElem_cons_zero, Act.put, List.setIfInBounds_toArray, List.set_cons_zero, List.set_cons_succ]
              refine pre_done (by kernel_rfl) ?_
              simp only [List.drop_succ_cons, List.drop_zero]
              have r7 := HO7.out.r1
              have e1 := r7.cell 1
              have e3 := r7.cell 3
              have g1 := r7.frozen 1
              have g3 := r7.frozen 3
              simp only [List.getElem?_cons_zero, List.getElem?_cons_succ] at e1 e3
              clear r7
              go_wp2_with fail
              refine NoPanic.normal ?_
              go_wp2_with fail
              go_meet
              case rel => exact put_fin2 HN7.out HO7.out.keep HO7.out.r1 HAR.out HFF.out hWw hF2w1
            exact PreAll.nil
          exact PreAll.nil
        refine PreAll.at 13 (by kernel_rfl) (fun K hK => ?_) ?_
        · simp only [List.getElem_toArray, List.getElem_cons_succ, List.getElem_cons_zero]
          go_simp
          have HO9 := Lib.hid ((HO0.out.alloc (.cells #[.slice xo xl xc] 23)).alloc (.cells #[.int .i64 q] 3)).drew
          refine hK.out _ _ HO9.out.limbs ?_
          have hHeld := HO9.out.limbs
          clear hK K
          try simp only [List.getElem_toArray, List.getElem_cons_succ, List.getElem_cons_zero, Act.put, List.setIfInBounds_toArray, List.set_cons_zero, List.set_cons_succ]
          refine pre_ready [6] (by kernel_rfl) (by simp) ?_
          refine PreAll.at 6 (by kernel_rfl) (fun K hK => ?_) ?_
          · simp only [List.getElem_toArray, List.getElem_cons_succ, List.getElem_cons_zero]
            go_simp
            refine Calls.mono (keys_ins (i := i) HNZ.out HBX.out hil hcn HELS.out _ _ ?ka12 ?kb12 ?kc12) ?_
            case ka12 => (repeat (first | exact Keep.refl _ _ | refine Keep.drew ?_ | refine Keep.alloc ?_ _))
            case kb12 => first | exact Nat.le_refl _ | exact Nat.le_succ _
            case kc12 => exact (row3 Z _ _ _).drew
            rintro e w6 ⟨ao6, ac6, rfl, hn6, hk6, hm6⟩
            have HO6 := Lib.hid (Hold2.step HO9.out hk6 (fun _ e => .inl e) HG1'.out HG5'.out)
            have HN6 := Lib.hid hn6
            have hz6 : Z.heap.size ≤ w6.heap.size := HO6.out.keep.size
            have RB2 : Row w6 (Z.heap.size + 1) 3 [.int .i64 q] := Row.keep (row2 Z _ _ _).drew hk6 (fun e => by have := (HAR.out _ (.inl e)).2.1; omega)
            clear hn6 hk6 hm6
            refine hK.out _ _ HO6.out.limbs ?_
            have hHeld := HO6.out.limbs
            clear hK K
            try simp only [List.getElem_toArray, List.getElem_cons_succ, List.getElem_cons_zero, Act.put, List.setIfInBounds_toArray, List.set_cons_zero, List.set_cons_succ]
            refine pre_take_at 15 (v := ?v13) (by kernel_rfl) (by kernel_rfl) (by kernel_rfl) (fun _ _ _ _ h => h) (by rfl) (by assumption) ?y13 ?r13
            case y13 =>
              intro wq hSq
              try dsimp only at hSq
              go_split_ands
              simp only [List.getElem_toArray, List.getElem_cons_succ, List.getElem_cons_zero]
              go_simp
              try rfl
            try simp only [List.getElem_toArray, List.getElem_cons_succ, List.getElem_cons_zero, Act.put, List.setIfInBounds_toArray, List.set_cons_zero, List.set_cons_succ]
            refine pre_ready [14] (by kernel_rfl) (by simp) ?_
            refine PreAll.at 14 (by kernel_rfl) (fun K hK => ?_) ?_
            · simp only [List.getElem_toArray, List.getElem_cons_succ, List.getElem_cons_zero]
              go_simp
              refine Calls.mono (kids_ins1 (i := i) (x := q) HN6.out (fun b hb => HBX.out b (by omega)) hi1 hkl2 _ _ ?va13 ?vc13 ?vd13) ?_
              case va13 => (repeat (first | exact Keep.refl _ _ | refine Keep.drew ?_ | refine Keep.alloc ?_ _))
              case vc13 => exact RB2
              case vd13 => exact (fun e => by have := (HAR.out _ (.inr (.inr e))).2.1; omega)
              rintro e w7 ⟨ao7, ac7, rfl, hn7, hk7, hm7⟩
              have HO7 := Lib.hid (Hold2.step HO6.out hk7 (fun _ e => .inr e) HG1'.out HG5'.out)
              have HN7 := Lib.hid hn7
              clear hn7 hk7 hm7
              refine hK.out _ _ HO7.out.limbs ?_
              have hHeld := HO7.out.limbs
              clear hK K
              try simp only [List.getElem_toArray, List.getElem_cons_succ, List.getElem_cons_zero, Act.put, List.setIfInBounds_toArray, List.set_cons_zero, List.set_cons_succ]
              refine pre_done (by kernel_rfl) ?_
              simp only [List.drop_succ_cons, List.drop_zero]
              have r7 := HO7.out.r1
              have e1 := r7.cell 1
              have e3 := r7.cell 3
              have g1 := r7.frozen 1
              have g3 := r7.frozen 3
              simp only [List.getElem?_cons_zero, List.getElem?_cons_succ] at e1 e3
              clear r7
              go_wp2_with fail
              refine NoPanic.normal ?_
              go_wp2_with fail
              go_meet
              case rel => exact put_fin2 HN7.out HO7.out.keep HO7.out.r1 HAR.out HFF.out hWw hF2w1
            exact PreAll.nil
          exact PreAll.nil
        exact PreAll.nil
      refine PreAll.at 13 (by kernel_rfl) (fun K hK => ?_) ?_
      · simp only [List.getElem_toArray, List.getElem_cons_succ, List.getElem_cons_zero]
        go_simp
        have HO8 := Lib.hid (HO0.out.alloc (.cells #[.int .i64 q] 3)).drew
        refine hK.out _ _ HO8.out.limbs ?_
        have hHeld := HO8.out.limbs
        clear hK K
        try simp only [List.getElem_toArray, List.getElem_cons_succ, List.getElem_cons_zero, Act.put, List.setIfInBounds_toArray, List.set_cons_zero, List.set_cons_succ]
        refine pre_ready [5] (by kernel_rfl) (by simp) ?_
        refine PreAll.at 5 (by kernel_rfl) (fun K hK => ?_) ?_
        · simp only [List.getElem_toArray, List.getElem_cons_succ, List.getElem_cons_zero]
          go_simp
          have HO9 := Lib.hid ((HO0.out.alloc (.cells #[.int .i64 q] 3)).alloc (.cells #[.slice xo xl xc] 23)).drew
          refine hK.out _ _ HO9.out.limbs ?_
          have hHeld := HO9.out.limbs
          clear hK K
          try simp only [List.getElem_toArray, List.getElem_cons_succ, List.getElem_cons_zero, Act.put, List.setIfInBounds_toArray, List.set_cons_zero, List.set_cons_succ]
          refine pre_ready [6] (by kernel_rfl) (by simp) ?_
          refine PreAll.at 6 (by kernel_rfl) (fun K hK => ?_) ?_
          · simp only [List.getElem_toArray, List.getElem_cons_succ, List.getElem_cons_zero]
            go_simp
            refine Calls.mono (keys_ins (i := i) HNZ.out HBX.out hil hcn HELS.out _ _ ?ka13 ?kb13 ?kc13) ?_
            case ka13 => (repeat (first | exact Keep.refl _ _ | refine Keep.drew ?_ | refine Keep.alloc ?_ _))
            case kb13 => first | exact Nat.le_refl _ | exact Nat.le_succ _
            case kc13 => exact (row2 Z _ _ _).drew
            rintro e w6 ⟨ao6, ac6, rfl, hn6, hk6, hm6⟩
            have HO6 := Lib.hid (Hold2.step HO9.out hk6 (fun _ e => .inl e) HG1'.out HG5'.out)
            have HN6 := Lib.hid hn6
            have hz6 : Z.heap.size ≤ w6.heap.size := HO6.out.keep.size
            have RB2 : Row w6 Z.heap.size 3 [.int .i64 q] := Row.keep (row3 Z _ _ _).drew hk6 (fun e => by have := (HAR.out _ (.inl e)).2.1; omega)
            clear hn6 hk6 hm6
            refine hK.out _ _ HO6.out.limbs ?_
            have hHeld := HO6.out.limbs
            clear hK K
            try simp only [List.getElem_toArray, List.getElem_cons_succ, List.getElem_cons_zero, Act.put, List.setIfInBounds_toArray, List.set_cons_zero, List.set_cons_succ]
            refine pre_take_at 15 (v := ?v14) (by kernel_rfl) (by kernel_rfl) (by kernel_rfl) (fun _ _ _ _ h => h) (by rfl) (by assumption) ?y14 ?r14
            case y14 =>
              intro wq hSq
              try dsimp only at hSq
              go_split_ands
              simp only [List.getElem_toArray, List.getElem_cons_succ, List.getElem_cons_zero]
              go_simp
              try rfl
            try simp only [List.getElem_toArray, List.getElem_cons_succ, List.getElem_cons_zero, Act.put, List.setIfInBounds_toArray, List.set_cons_zero, List.set_cons_succ]
            refine pre_ready [14] (by kernel_rfl) (by simp) ?_
            refine PreAll.at 14 (by kernel_rfl) (fun K hK => ?_) ?_
            · simp only [List.getElem_toArray, List.getElem_cons_succ, List.getElem_cons_zero]
              go_simp
              refine Calls.mono (kids_ins1 (i := i) (x := q) HN6.out (fun b hb => HBX.out b (by omega)) hi1 hkl2 _ _ ?va14 ?vc14 ?vd14) ?_
              case va14 => (repeat (first | exact Keep.refl _ _ | refine Keep.drew ?_ | refine Keep.alloc ?_ _))
              case vc14 => exact RB2
              case vd14 => exact (fun e => by have := (HAR.out _ (.inr (.inr e))).2.1; omega)
              rintro e w7 ⟨ao7, ac7, rfl, hn7, hk7, hm7⟩
              have HO7 := Lib.hid (Hold2.step HO6.out hk7 (fun _ e => .inr e) HG1'.out HG5'.out)
              have HN7 := Lib.hid hn7
              clear hn7 hk7 hm7
              refine hK.out _ _ HO7.out.limbs ?_
              have hHeld := HO7.out.limbs
              clear hK K
              try simp only [List.getElem_toArray, List.getElem_cons_succ, List.getElem_cons_zero, Act.put, List.setIfInBounds_toArray, List.set_cons_zero, List.set_cons_succ]
              refine pre_done (by kernel_rfl) ?_
              simp only [List.drop_succ_cons, List.drop_zero]
              have r7 := HO7.out.r1
              have e1 := r7.cell 1
              have e3 := r7.cell 3
              have g1 := r7.frozen 1
              have g3 := r7.frozen 3
              simp only [List.getElem?_cons_zero, List.getElem?_cons_succ] at e1 e3
              clear r7
              go_wp2_with fail
              refine NoPanic.normal ?_
              go_wp2_with fail
              go_meet
              case rel => exact put_fin2 HN7.out HO7.out.keep HO7.out.r1 HAR.out HFF.out hWw hF2w1
            exact PreAll.nil
          exact PreAll.nil
        exact PreAll.nil
      exact PreAll.nil
      -- END PRINTED
    case rest =>
      have hm := Lib.hid hcut.out.keep
      obtain ⟨kv2, vv2, iv2, hrow2, hnd2⟩ := hcut.out.it
      obtain ⟨xo1, xc1, xo2, xc2, xo3, xc3, rfl, rfl, rfl⟩ := hnd2.forms
      have hF2n : ∀ b, w.heap.size ≤ b → b < X.heap.size → ¬ F1 b → ¬ F2 b := fun b h1 h2 e f => by
        rcases HG2.out b f with e2 | e2
        · exact e e2
        · omega
      have hkwc : Keep F w wc := (((HKW.out.next HKP2.out (fun b e => (HGF.out b e).symm)).next HZK.out (fun b e => .inl (by unfold Just at e; have := HGB.out.1; omega))).next hm.out (fun b e => .inl (by omega)))
      have hgwc : ∀ b, F2 b → F b ∨ w.heap.size ≤ b := fun b hb => by
        rcases HG2.out b hb with e | e
        · exact HGF.out b e
        · exact .inr (by omega)
      have ht2 : TrOK wc F2 tb pb root st2 img2 k2 := by
        have h1 : TrOK Z F2 tb pb root st2 img2 k2 := ⟨HT2.out.pages.keep HZK.out (fun b hb e => by unfold Just at e; subst e; exact hF2n b (by have := HGB.out.1; omega) (by omega) HGB.out.2 hb), HT2.out.row.keep HZK.out (fun e => by unfold Just at e; have := H.out.lt; have := HGB.out.1; omega), HT2.out.out⟩
        exact ⟨h1.pages.keep hm.out (fun b hb e => e.1 hb), h1.row.keep hm.out (fun e => by have := H.out.lt; omega), h1.out⟩
      have hl := HLAY.out i _ q sep w5 F2 st2 img2 k2 wc _ _ _ HPL.out (HBS.out.more (fun b _ e => e.2)) HKY.out (by have : Z.heap.size ≤ wc.heap.size := hm.out.size; omega) ht2 (by omega) hnd2.r
      have HL := Lib.hid hl
      have c0 := hrow2.cell 0
      have c1 := hrow2.cell 1
      have c2 := hrow2.cell 2
      have c3 := hrow2.cell 3
      simp only [List.getElem?_cons_zero, List.getElem?_cons_succ] at c0 c1 c2 c3
      have hlb : Row wc w.heap.size 140 zl := (HL0.out.keep HKZ.out (fun e => by unfold Just at e; have := HGB.out.1; omega)).keep hm.out (fun e => by omega)
      have HLB := Lib.hid hlb
      have HT3 := Lib.hid ht2
      have HKWC := Lib.hid hkwc
      have HGWC := Lib.hid hgwc
      clear hcut hrow2 hnd2 ht2 hl hlb hF2n hkwc hgwc
      go_wp2_with (go_at_call 52; refine HL.out.mono ?_; rintro e w8 ⟨ro, rl, rc, b, rfl, ht⟩; have HT8 := Lib.hid ht; have hlb5 : Row w8 w.heap.size 140 zl := (by obtain ⟨⟨F3, st3, img3, k3, ht3, hk3, hkp3, hg3, hx3⟩⟩ := ht; exact HLB.out.keep hkp3 HF2W.out); have y0 := hlb5.cell 0; have y1 := hlb5.cell 1; have y2 := hlb5.cell 2; have z0 := hlb5.frozen 0; have z1 := hlb5.frozen 1; have z2 := hlb5.frozen 2; simp only [zl, List.getElem?_cons_zero, List.getElem?_cons_succ] at y0 y1 y2; have HLB5 := Lib.hid hlb5; clear ht hlb5)
      have r3 := HLB5.out.set3 rfl (.int .i64 p) (.slice ro rl rc) (.int .i64 b)
      have k3 := three_keep w8 w.heap.size (.int .i64 p) (.slice ro rl rc) (.int .i64 b)
      refine bodyPost_ret (ret_laid rfl _ r3 rfl) rfl ?_
      have hsz : w.heap.size < wc.heap.size := HLB.out.lt
      refine ⟨i, _, b, rfl, HPL.out, HT8.out.wrap (c1 := 4 + ck) HKWC.out HGWC.out (by omega) k3 (fun b e => ?_) H.out.lt (fun F3 st3 img3 hg3 hlt hx => ?_)⟩
      · unfold Just at e
        subst e
        exact ⟨Nat.le_refl _, hsz, HF2W.out⟩
      · exact HY.out i _ b w8 _ F3 st3 img3 k3 (fun b e => e) (fun f => by
          rcases hg3 _ f with e2 | e2
          · exact HF2W.out e2
          · omega) hx
end
end Go.Proofs.YtfhapbggngdckaaGreat
