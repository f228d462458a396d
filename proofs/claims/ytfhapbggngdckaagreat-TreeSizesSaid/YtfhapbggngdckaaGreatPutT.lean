/- Trees: Put. -/
import Derived.Test.YtfhapbggngdckaaGreatHeight
import Derived.Outline
namespace Go.Proofs.YtfhapbggngdckaaGreat
open Go.RowKit
theorem TT.le {w w' : World} {F : Nat → Prop} {tb pb : Nat} {root : Int} {k c c' : Nat} {X : World → (Nat → Prop) → List Int → (Nat → Byt) → Prop} (t : TT w F tb pb root k c X w') (hc : c ≤ c') : TT w F tb pb root k c' X w' := by
  obtain ⟨⟨F1, st1, img1, k1, h1, h2, h3, h4, h5⟩⟩ := t
  exact ⟨F1, st1, img1, k1, h1, by omega, h3, h4, h5⟩
/-- What a call leaves that may turn the tree's root. -/
structure TU (w : World) (F : Nat → Prop) (tb pb : Nat) (k c : Nat) (X : Int → World → (Nat → Prop) → List Int → (Nat → Byt) → Prop) (w' : World) : Prop where
  ex : ∃ root' F' st' img' k', TrOK w' F' tb pb root' st' img' k' ∧ k' ≤ k + c ∧ Keep (fun b => F b ∨ b = tb) w w' ∧ (∀ b, F' b → F b ∨ w.heap.size ≤ b) ∧ X root' w' F' st' img'
/-- The tree with an entry put in. -/
structure PutDone (st : List Int) (img : Nat → Byt) (ps : List Nat) (es : List Ent) (root' : Int) (st' : List Int) (img' : Nat → Byt) : Prop where
  it : ∃ hgt' ps', Top img' root' hgt' ps' es ∧ Mv st img ps st' img' ps'
/-- What has been laid, ahead of a new root. -/
structure PutMd (w : World) (F : Nat → Prop) (tb pb : Nat) (root : Int) (k c rc : Nat) (st : List Int) (img : Nat → Byt) (ps : List Nat) (es : List Ent) (h b8 : Nat) (wc : World) : Prop where
  it : ∃ (pg : Nat) (xo : Option Addr) (xl xc : Nat) (b : Int), Row wc b8 140 [.int .i64 pg, .slice xo xl xc, .int .i64 b] ∧ TT w F tb pb root k c (fun w' F' st' img' => PutR (b8 + 1) rc h none none pg ps es st img (.slice xo xl xc) b w' F' st' img' ∧ ¬ F' b8) wc
section
variable {w w' : World} {F D : Nat → Prop} {tb pb : Nat} {root : Int} {st st' : List Int} {img img' : Nat → Byt} {k c h hgt : Nat} {lo hi : Option Byt} {m n : Nd} {kv vv iv kx vx : Value} {p : Nat} {ps : List Nat} {es : List Ent} {key val : Byt}
set_option maxRecDepth 20000 in
set_option maxHeartbeats 400000 in
/-- What may not be put is refused. -/
theorem tput_bad (hkx : BS w D kx key) (hvx : BS w D vx val) (hb : key.length < 1 ∨ 240 < key.length ∨ 260 < val.length) :
    Calls Tryz.prog 30 #[.pointer (some ⟨tb, 0, none⟩), kx, vx] w fun e w' => e = .returned (.int .i64 1) ∧ w' = w := by
  obtain ⟨kxo, kxc, rfl, _, _⟩ := hkx.form
  obtain ⟨vxo, vxc, rfl, _, _⟩ := hvx.form
  have hq : ∀ w : World, (binOp .eql 70 (.pointer (some ⟨tb, 0, none⟩)) (.pointer none)).run Tryz.prog w = .ok (.bool false) w := fun w => by kernel_rfl
  clear hkx hvx
  rcases Nat.lt_or_ge key.length 1 with h1 | h1
  · have hd1 : decide ((key.length : Int) < 1) = true := by simp; omega
    go_enter Tryz.func30, Tryz.ntmps30
    go_wp2_with fail
    go_ret
    exact ⟨rfl, rfl⟩
  · have hd1 : decide ((key.length : Int) < 1) = false := by simp; omega
    rcases Nat.lt_or_ge 240 key.length with h2 | h2
    · have hd2 : decide ((240 : Int) < (key.length : Int)) = true := by simp; omega
      go_enter Tryz.func30, Tryz.ntmps30
      go_wp2_with fail
      go_ret
      exact ⟨rfl, rfl⟩
    · have hd2 : decide ((240 : Int) < (key.length : Int)) = false := by simp; omega
      have hd3 : decide ((260 : Int) < (val.length : Int)) = true := by simp; omega
      go_enter Tryz.func30, Tryz.ntmps30
      go_wp2_with fail
      go_ret
      exact ⟨rfl, rfl⟩
/-- A root of two kids, in two boxes. -/
theorem root_two {X : World} {D : Nat → Prop} {sv : Value} {sep : Byt} {a b : Int} (hs : BS X D sv sep) : NdR ((X.alloc (.cells #[sv] 23)).alloc (.cells #[.int .i64 a, .int .i64 b] 3)) (fun b => D b ∨ X.heap.size ≤ b) (.slice (some ⟨X.heap.size, 0, none⟩) 1 1) (.slice none 0 0) (.slice (some ⟨X.heap.size + 1, 0, none⟩) 2 2) ⟨false, [sep], [], [a, b]⟩ := by
  have k1 := (Keep.refl No X).alloc (.cells #[sv] 23)
  have k2 := k1.alloc (.cells #[.int .i64 a, .int .i64 b] 3)
  have r2 := Row.new (X.alloc (.cells #[sv] 23)) 3 [.int .i64 a, .int .i64 b]
  rw [show (X.alloc (.cells #[sv] 23)).heap.size = X.heap.size + 1 by simp] at r2
  exact ⟨⟨[sv], ((row3 X (.cells #[.int .i64 a, .int .i64 b] 3) 23 sv).rs 1 rfl (by omega)).more (fun b _ e => .inr (by unfold Just at e; omega)), (Els.one hs).keep k2 (fun _ _ _ h => h) |>.more (fun b _ e => .inl e)⟩, BBS.nil _ _, (r2.rs 2 rfl (by omega)).more (fun b _ e => .inr (by unfold Just at e; omega))⟩
/-- A leaf of one entry, in two boxes. -/
theorem leaf_one {X : World} {D : Nat → Prop} (hkx : BS X D kx key) (hvx : BS X D vx val) : NdR ((X.alloc (.cells #[kx] 23)).alloc (.cells #[vx] 23)) (fun b => D b ∨ X.heap.size ≤ b) (.slice (some ⟨X.heap.size, 0, none⟩) 1 1) (.slice (some ⟨X.heap.size + 1, 0, none⟩) 1 1) (.slice none 0 0) ⟨true, [key], [val], []⟩ := by
  have k1 := (Keep.refl No X).alloc (.cells #[kx] 23)
  have k2 := k1.alloc (.cells #[vx] 23)
  refine ⟨⟨[kx], ((row3 X (.cells #[vx] 23) 23 kx).rs 1 rfl (by omega)).more (fun b _ e => .inr (by unfold Just at e; omega)), (Els.one hkx).keep k2 (fun _ _ _ h => h) |>.more (fun b _ e => .inl e)⟩,
    ⟨[vx], ((row2 X (.cells #[kx] 23) 23 vx).rs 1 rfl (by omega)).more (fun b _ e => .inr (by unfold Just at e; omega)), (Els.one hvx).keep k2 (fun _ _ _ h => h) |>.more (fun b _ e => .inl e)⟩, IS.nil _ _⟩
set_option maxRecDepth 20000 in
set_option maxHeartbeats 4000000 in
theorem tput_any (ht : TrOK w F tb pb root st img k) (htop : Top img root hgt ps es) (hh : Has st ps) (hhg : hgt ≤ 18) (hroom : 2 * hgt + 3 ≤ roomOf st) (hk : k < 1099511626000) (hkx : BS w (fun b => ¬ F b) kx key) (hvx : BS w (fun b => ¬ F b) vx val) (hk1 : 1 ≤ key.length) (hk2 : key.length ≤ 240) (hvl : val.length ≤ 260) :
    Calls Tryz.prog 30 #[.pointer (some ⟨tb, 0, none⟩), kx, vx] w fun e w' => e = .returned (.int .i64 0) ∧ TU w F tb pb k 500 (fun root' _ _ st' img' => PutDone st img ps (insE es key val) root' st' img') w' := by
  have H := Lib.hid ht
  have HTOP := Lib.hid htop
  have HH := Lib.hid hh
  obtain ⟨kxo, kxc, rfl, _, _⟩ := hkx.form
  obtain ⟨vxo, vxc, rfl, _, _⟩ := hvx.form
  have HKX := Lib.hid (hkx.more (D' := fun b => ¬ F b ∧ b < w.heap.size) (fun b hb e => ⟨e, hb⟩))
  have HVX := Lib.hid (hvx.more (D' := fun b => ¬ F b ∧ b < w.heap.size) (fun b hb e => ⟨e, hb⟩))
  have hq : ∀ w : World, (binOp .eql 70 (.pointer (some ⟨tb, 0, none⟩)) (.pointer none)).run Tryz.prog w = .ok (.bool false) w := fun w => by kernel_rfl
  have hd1 : decide ((key.length : Int) < 1) = false := by simp; omega
  have hd2 : decide ((240 : Int) < (key.length : Int)) = false := by simp; omega
  have hd3 : decide ((260 : Int) < (val.length : Int)) = false := by simp; omega
  have HRM := Lib.hid (troom_any ht htop hh (by omega) hroom (by omega))
  clear ht htop hh hkx hvx
  go_enter Tryz.func30, Tryz.ntmps30
  go_upto_region 8 with (go_at_call 50; refine HRM.out.mono ?_; rintro e w1 ⟨rfl, ht⟩; have HT0 := Lib.hid ht; clear ht)
  obtain ⟨F1, st1, img1, k1, ht1, hk1', hkp1, hg1, rfl, rfl⟩ := HT0.out.ex
  have HT1 := Lib.hid ht1
  have HKP1 := Lib.hid hkp1
  have HG1 := Lib.hid hg1
  have HCK := Lib.hid (clone_B w1 _ _ _ (HKX.out.keep hkp1 (fun b _ e f => e.1 f)) (cells1_u8 _) (by rw [List.length_map]; omega))
  clear ht1 hkp1 hg1
  go_upto_region 10 with (first
    | (go_at_call_of 51 (Value.slice kxo key.length kxc); refine HCK.out.mono ?_; rintro e w2 ⟨kx2, rfl, ho2, hkp2⟩; obtain ⟨kao, kac, e2⟩ := ho2.form; rw [List.length_map] at e2; subst e2; have HO2 := Lib.hid ho2; have HKP2 := Lib.hid hkp2; have HCV := Lib.hid (clone_B w2 _ _ _ ((HVX.out.keep HKP1.out (fun b _ e f => e.1 f)).keep hkp2 (fun _ _ _ h => h)) (cells1_u8 _) (by rw [List.length_map]; omega)); clear ho2 hkp2)
    | (go_at_call_of 51 (Value.slice vxo val.length vxc); refine HCV.out.mono ?_; rintro e w3 ⟨vx2, rfl, ho3, hkp3⟩; obtain ⟨vao, vac, e3⟩ := ho3.form; rw [List.length_map] at e3; subst e3; have HO3 := Lib.hid ho3; have HKP3 := Lib.hid hkp3; clear ho3 hkp3))
  have hr8 := Row.new w3 140 [.int .i64 (-1), .slice none 0 0, .int .i64 (-1)]
  have kX := (Keep.refl No w3).alloc (.cells #[.int .i64 (-1), .slice none 0 0, .int .i64 (-1)] 140)
  have sX : (w3.alloc (.cells #[.int .i64 (-1), .slice none 0 0, .int .i64 (-1)] 140)).heap.size = w3.heap.size + 1 := by simp
  generalize w3.alloc (.cells #[.int .i64 (-1), .slice none 0 0, .int .i64 (-1)] 140) = X at *
  have sX' : w3.heap.size < X.heap.size := by omega
  clear sX
  have h13 : w1.heap.size ≤ w3.heap.size := Nat.le_trans HKP2.out.size HKP3.out.size
  have hw1 : w.heap.size ≤ w1.heap.size := HKP1.out.size
  have kwX : Keep No w1 X := (HKP2.out.trans HKP3.out (fun _ _ h => h)).trans kX (fun _ _ h => h)
  have htX := HT1.out.step kwX
  have hF1lt : ∀ b, F1 b → b < w1.heap.size := HT1.out.pages.lt
  have HKB : Hid (BS X (fun b => ¬ F1 b) (.slice kao key.length kac) key) := (((HO2.out.rs.keep HKP3.out (fun _ _ _ h => h)).keep kX (fun _ _ _ h => h)).more (fun b _ e => fun f => by have := hF1lt b f; unfold From at e; omega))
  have HVB : Hid (BS X (fun b => ¬ F1 b) (.slice vao val.length vac) val) := ((HO3.out.rs.keep kX (fun _ _ _ h => h)).more (fun b _ e => fun f => by have := hF1lt b f; unfold From at e; have := HKP2.out.size; omega))
  have HTX := Lib.hid htX
  have HR8 := Lib.hid hr8
  have HKW := Lib.hid (HKP1.out.next kwX (fun _ e => e.elim))
  have hF18 : ¬ F1 w3.heap.size := fun f => by have := hF1lt _ f; omega
  have cr := htX.row.cell 1
  have HFL := Lib.hid hF1lt
  simp only [List.getElem?_cons_zero, List.getElem?_cons_succ] at cr
  clear hr8 kX kwX htX hF1lt
  go_upto_if 39 with fail
  go_cut [9] (fun u9 wc => u9 = .int .i64 0 ∧ Hid (PutMd w F tb pb root k 400 (hgt + 1) st1 img1 ps (insE es key val) (hgt - 1) w3.heap.size wc))
  case first =>
    rcases HTOP.out with ⟨h1, h2, h3, h4⟩ | ⟨h, p, h1, h2, h3⟩
    · subst h1; subst h2; subst h3; subst h4
      obtain ⟨q, hq, hq0⟩ := room_take (st := st1) (by omega)
      have hm : (⟨true, [key], [val], []⟩ : Nd).Sh := sh_leaf rfl (fun x hx => by simp at hx; subst hx; exact ⟨hk1, hk2⟩) (by simp) rfl rfl (fun x hx => by simp at hx; subst hx; exact hvl)
      have hmz : (⟨true, [key], [val], []⟩ : Nd).size ≤ 1024 := by rw [Nd.size_leaf rfl rfl]; simp [sumE]; omega
      have hnd := leaf_one HKB.out HVB.out
      have kX1 : Keep No X ((X.alloc (.cells #[.slice kao key.length kac] 23)).alloc (.cells #[.slice vao val.length vac] 23)) := ((Keep.refl No X).alloc _).alloc _
      have hl := lay_fit (HTX.out.step kX1) hnd hm hmz (-1) q (c := 8) (X := fun _ _ st' img' => st' = st1.set q 2 ∧ img' = upd img1 q (⟨true, [key], [val], []⟩ : Nd).page) (fun _ _ _ _ _ h => h)
        (fun W hW => write_new ((HTX.out.step kX1).step hW) (hnd.keep hW (fun _ _ _ h => h)) hm hmz q hq (by omega))
      have HL := Lib.hid hl
      have HM := Lib.hid hm
      have HMZ := Lib.hid hmz
      have HQ0 := Lib.hid hq0
      have HKX1 := Lib.hid kX1
      clear hnd kX1 hl hm hmz hq hq0
      go_wp2_with (go_at_call 52; refine HL.out.mono ?_; rintro e w5 ⟨rfl, ht⟩; have HT5 := Lib.hid ht; have h8 : Row w5 w3.heap.size 140 [.int .i64 (-1), .slice none 0 0, .int .i64 (-1)] := (by obtain ⟨⟨F2, st2, img2, k2, ht2, hk2, hkp2, hg2, hx2⟩⟩ := ht; exact (HR8.out.keep HKX1.out (fun h => h)).keep hkp2 hF18); have y0 := h8.cell 0; have y1 := h8.cell 1; have y2 := h8.cell 2; have z0 := h8.frozen 0; have z1 := h8.frozen 1; have z2 := h8.frozen 2; simp only [List.getElem?_cons_zero, List.getElem?_cons_succ] at y0 y1 y2; have H8 := Lib.hid h8; clear ht h8)
      go_meet
      case rel =>
        have r3 := H8.out.set3 rfl (.int .i64 q) (.slice none 0 0) (.int .i64 (-1))
        have k3 := three_keep w5 w3.heap.size (.int .i64 q) (.slice none 0 0) (.int .i64 (-1))
        have hX1 : X.heap.size ≤ _ := HKX1.out.size
        refine ⟨rfl, q, none, 0, 0, -1, r3, (TT.wrap (c1 := 4 * 0) (c2 := 8) (HKW.out.next HKX1.out (fun _ e => e.elim)) HG1.out hk1' HT5.out k3 (fun b e => ?_) H.out.lt (fun F3 st3 img3 hg3 hlt hx => ?_)).le (by omega)⟩
        · unfold Just at e
          subst e
          exact ⟨by omega, by omega, hF18⟩
        · obtain ⟨rfl, rfl⟩ := hx
          refine ⟨⟨by have := roomOf_set st1 q 2 (by decide) HQ0.out; omega, .inl ⟨rfl, rfl, [q], ?_, Mv.alloc HH.out HQ0.out _⟩⟩, fun f => ?_⟩
          · exact ⟨_, ⟨upd_same _ _ _, HM.out, HMZ.out⟩, rfl, by simp, rfl, rfl, fun x _ => ⟨fun a ha => (by cases ha), fun a ha => (by cases ha)⟩⟩
          · rcases hg3 _ f with e | e
            · exact hF18 e
            · omega
    · subst h1; subst h2
      have hpt := put_tree (tb := tb) (pb := pb) (root := (p : Int)) hk1 hk2 hvl h X F1 st1 img1 k1 none none p ps es 1 _ _ HTX.out h3 HH.out (fun a ha => (by cases ha)) (fun a ha => (by cases ha)) (by omega) (by omega) (by omega) (by omega) HKB.out HVB.out
      have HPT := Lib.hid hpt
      have hpn : ((p : Int) == -1) = false := by simp
      clear hpt h3
      go_wp2_with (go_at_call 53; refine HPT.out.mono ?_; rintro e w5 ⟨xo, xl, xc, b, rfl, ht⟩; have HT5 := Lib.hid ht; have h8 : Row w5 w3.heap.size 140 [.int .i64 (-1), .slice none 0 0, .int .i64 (-1)] := (by obtain ⟨⟨F2, st2, img2, k2, ht2, hk2, hkp2, hg2, hx2⟩⟩ := ht; exact HR8.out.keep hkp2 hF18); have y0 := h8.cell 0; have y1 := h8.cell 1; have y2 := h8.cell 2; have z0 := h8.frozen 0; have z1 := h8.frozen 1; have z2 := h8.frozen 2; simp only [List.getElem?_cons_zero, List.getElem?_cons_succ] at y0 y1 y2; have H8 := Lib.hid h8; clear ht h8)
      go_meet
      case rel =>
        have r3 := H8.out.set3 rfl (.int .i64 p) (.slice xo xl xc) (.int .i64 b)
        have k3 := three_keep w5 w3.heap.size (.int .i64 p) (.slice xo xl xc) (.int .i64 b)
        refine ⟨rfl, p, xo, xl, xc, b, r3, (TT.wrap (c1 := 4 * (h + 1)) (c2 := 16 * (h + 1)) HKW.out HG1.out hk1' HT5.out k3 (fun b e => ?_) H.out.lt (fun F3 st3 img3 hg3 hlt hx => ?_)).le (by omega)⟩
        · unfold Just at e
          subst e
          exact ⟨by omega, by omega, hF18⟩
        · refine ⟨?_, fun f => ?_⟩
          · have hx2 := (hx.low (show w3.heap.size + 1 ≤ X.heap.size + 1 by omega)).keep k3 (fun b e => by unfold Just at e; omega)
            exact ⟨by have := hx2.room; omega, hx2.it⟩
          · rcases hg3 _ f with e | e
            · exact hF18 e
            · omega
  case rest =>
    obtain ⟨rfl, HC⟩ := hcut
    obtain ⟨pg, xo, xl, xc, b, hr8, ht⟩ := HC.out.it
    obtain ⟨⟨F2, st2, img2, k2, ht2, hk2, hkp2, hg2, hpr, hF28⟩⟩ := ht
    have HT2 := Lib.hid ht2
    have HKP2 := Lib.hid hkp2
    have HG2 := Lib.hid hg2
    have HPR := Lib.hid hpr
    have HL8 := Lib.hid hr8
    have l0 := hr8.cell 0
    have l1 := hr8.cell 1
    have l2 := hr8.cell 2
    have g0 := hr8.frozen 0
    have t0 := ht2.row.cell 0
    have t1 := ht2.row.cell 1
    have u1 := ht2.row.frozen 1
    simp only [List.getElem?_cons_zero, List.getElem?_cons_succ] at l0 l1 l2 t0 t1
    clear ht2 hkp2 hg2 hr8 HC cr
    rcases hpr.it with ⟨rfl, hxe, ps', hrep, hmv⟩ | ⟨q, rfl, hq2, sep, pa, pb', ea, eb, h3, h4, h5, h6, h7, h8, h9, h10, h11⟩
    · have HRP := Lib.hid hrep
      have HMV := Lib.hid hmv
      have HXE := Lib.hid hxe
      clear hpr hrep hmv hxe
      go_wp2_with fail
      go_ret
      have kf : Keep (Just tb) wc (wc.setCell ⟨tb, 1, none⟩ (.int .i64 pg)) := (Keep.refl (Just tb) wc).setCell (p := ⟨tb, 1, none⟩) (fun _ => rfl) _
      refine ⟨rfl, ⟨(pg : Int), F2, st2, img2, k2, ⟨HT2.out.pages.keep kf (fun b hb e => by cases e; exact HT2.out.out hb), HT2.out.row.set 1 (.int .i64 pg), HT2.out.out⟩, by omega, (HKP2.out.mono (fun b _ e => .inl e)).trans (kf.mono (G := fun b => F b ∨ b = tb) (fun b _ e => .inr e)) (fun _ _ h => h), HG2.out, ⟨_, ps', .inr ⟨_, pg, rfl, rfl, HRP.out⟩, HMV.out⟩⟩⟩
    · obtain ⟨r, hr, hr0⟩ := room_take (st := st2) (by have := hpr.room; omega)
      have hsm := HT2.out.pages.small
      have hpg : pg < st2.length := (List.getElem?_eq_some_iff.1 (h10.use pg (by simp [h3.head]))).1
      have hm : (⟨false, [sep], [], [(pg : Int), (q : Int)]⟩ : Nd).Sh := sh_inner rfl (fun x hx => by simp at hx; subst hx; exact ⟨h8, h9⟩) (by simp) rfl rfl (fun x hx => by simp at hx; rcases hx with e | e <;> subst e <;> omega)
      have hmz : (⟨false, [sep], [], [(pg : Int), (q : Int)]⟩ : Nd).size ≤ 1024 := by rw [Nd.size_inner rfl]; simp [sumK]; omega
      obtain ⟨so, sc, e1, _⟩ := h11.form
      simp only [Value.slice.injEq] at e1
      obtain ⟨rfl, rfl, rfl⟩ := e1
      have hnd := root_two (a := (pg : Int)) (b := (q : Int)) h11
      have kZ : Keep No wc ((wc.alloc (.cells #[.slice xo sep.length xc] 23)).alloc (.cells #[.int .i64 pg, .int .i64 q] 3)) := ((Keep.refl No wc).alloc _).alloc _
      have hwn := write_new (HT2.out.step kZ) hnd hm hmz r hr (by omega)
      have HWN := Lib.hid hwn
      have HKZ := Lib.hid kZ
      have HM := Lib.hid hm
      have HMZ := Lib.hid hmz
      have HR0 := Lib.hid hr0
      have hd1 : ((q : Int) == -1) = false := by simp
      have hd2 : ((q : Int) != -1) = true := by simp
      have H3 := Lib.hid h3
      have H4 := Lib.hid h4
      have H5 := Lib.hid h5
      have H67 := Lib.hid (And.intro h6 h7)
      have H10 := Lib.hid h10
      have hlb : w3.heap.size < wc.heap.size := HL8.out.lt
      have htl : tb < wc.heap.size := HT2.out.row.lt
      clear hwn kZ hnd hm hmz hr0 hr h3 h4 h5 h6 h7 h10 h11 hpr
      go_wp2_with (go_at_call 54; refine HWN.out.mono ?_; rintro e w6 ⟨rfl, ht⟩; obtain ⟨⟨F3, st3, img3, k3, ht3, hk3, hkp3, hg3, hx3⟩⟩ := ht; have HT3 := Lib.hid ht3; have HKP3 := Lib.hid hkp3; have HG3 := Lib.hid hg3; have HX3 := Lib.hid hx3; have r8 := (HL8.out.keep HKZ.out (fun h => h)).keep hkp3 hF28; have v0 := r8.cell 0; have v1 := r8.frozen 0; have s0 := ht3.row.cell 0; have s1 := ht3.row.cell 1; have s2 := ht3.row.frozen 1; simp only [List.getElem?_cons_zero, List.getElem?_cons_succ] at v0 s0 s1; have HR8b := Lib.hid r8; clear ht3 hkp3 hg3 hx3 r8)
      go_ret
      have hst3 := HX3.out.1
      have him3 := HX3.out.2
      subst hst3; subst him3
      have hw6 : wc.heap.size ≤ w6.heap.size := Nat.le_trans HKZ.out.size HKP3.out.size
      have hF38 : ¬ F3 w3.heap.size := fun f => by
        rcases HG3.out _ f with e | e
        · exact hF28 e
        · have : wc.heap.size ≤ _ := HKZ.out.size
          omega
      have hn8 : w3.heap.size ≠ tb := by
        have := H.out.lt
        omega
      have kf : Keep (fun b => b = w3.heap.size ∨ b = tb) w6 ((w6.setCell ⟨w3.heap.size, 0, none⟩ (.int .i64 r)).setCell ⟨tb, 1, none⟩ (.int .i64 r)) := ((Keep.refl _ w6).setCell (p := ⟨w3.heap.size, 0, none⟩) (fun _ => .inl rfl) _).setCell (p := ⟨tb, 1, none⟩) (fun _ => .inr rfl) _
      refine ⟨rfl, ⟨(r : Int), F3, _, _, k3, ⟨HT3.out.pages.keep kf (fun b hb e => ?_), (HT3.out.row.far (p := ⟨w3.heap.size, 0, none⟩) (fun e => hn8 e.symm) _).set 1 (.int .i64 r), HT3.out.out⟩, by omega, ?_, fun b hb => ?_, ⟨hgt - 1 + 1 + 1, r :: (pa ++ pb'), .inr ⟨hgt - 1 + 1, r, rfl, rfl, ?_⟩, H10.out.trans (Mv.alloc H10.out.has HR0.out _)⟩⟩⟩
      · rcases e with e | e
        · subst e; exact hF38 hb
        · subst e; exact HT3.out.out hb
      · refine (((HKP2.out.next HKZ.out (fun _ e => e.elim)).next HKP3.out (fun b e => (HG2.out b e).symm)).mono (G := fun b => F b ∨ b = tb) (fun b _ e => .inl e)).next kf (fun b e => ?_)
        rcases e with e | e
        · exact .inl (by omega)
        · exact .inr (.inr e)
      · rcases HG3.out b hb with e | e
        · exact HG2.out b e
        · have h1 : wc.heap.size ≤ _ := HKZ.out.size
          have h2 : w.heap.size ≤ wc.heap.size := HKP2.out.size
          exact .inr (by omega)
      · have hrn : ∀ x ∈ pa ++ pb', x ≠ r := fun x hx e => by have := H10.out.use x hx; rw [e, HR0.out] at this; simp at this
        have c1 := H3.out.congr (img' := upd img2 r (⟨false, [sep], [], [(pg : Int), (q : Int)]⟩ : Nd).page) (fun x hx => upd_other _ (hrn x (by simp [hx])) _)
        have c2 := H4.out.congr (img' := upd img2 r (⟨false, [sep], [], [(pg : Int), (q : Int)]⟩ : Nd).page) (fun x hx => upd_other _ (hrn x (by simp [hx])) _)
        rw [H5.out]
        exact ⟨_, pa ++ pb', ⟨upd_same _ _ _, HM.out, HMZ.out⟩, rfl, .inr (by simp), fun x hx => (by simp at hx; subst hx; exact H67.out), rfl, Chain.cons c1 (Chain.one c2)⟩
end
end Go.Proofs.YtfhapbggngdckaaGreat
