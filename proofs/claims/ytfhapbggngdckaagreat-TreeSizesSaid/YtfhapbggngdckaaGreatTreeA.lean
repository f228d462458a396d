/- Trees: read, write. -/
import Derived.Test.YtfhapbggngdckaaGreatSplit
import Derived.Test.YtfhapbggngdckaaGreatPagesG
namespace Go.Proofs.YtfhapbggngdckaaGreat
open Go.RowKit
/-- A tree over pages: where it lies, and what its pages are. -/
structure TrOK (w : World) (F : Nat → Prop) (tb pb : Nat) (root : Int) (st : List Int) (img : Nat → Byt) (k : Nat) : Prop where
  pages : PagesOK w F pb st img k
  row : Row w tb 136 [.pointer (some ⟨pb, 0, none⟩), .int .i64 root]
  out : ¬ F tb
/-- What a call on a tree leaves. -/
structure TT (w : World) (F : Nat → Prop) (tb pb : Nat) (root : Int) (k c : Nat) (X : World → (Nat → Prop) → List Int → (Nat → Byt) → Prop) (w' : World) : Prop where
  ex : ∃ F' st' img' k', TrOK w' F' tb pb root st' img' k' ∧ k' ≤ k + c ∧ Keep F w w' ∧ (∀ b, F' b → F b ∨ w.heap.size ≤ b) ∧ X w' F' st' img'
section
variable {w w' : World} {F : Nat → Prop} {tb pb : Nat} {root : Int} {st st' : List Int} {img img' : Nat → Byt} {k c : Nat} {n : Nd} {D : Nat → Prop} {kv vv iv : Value}
theorem TrOK.step (h : TrOK w F tb pb root st img k) (hk : Keep No w w') : TrOK w' F tb pb root st img k := ⟨h.pages.keep hk (fun _ _ h => h), h.row.keep hk (fun h => h), h.out⟩
theorem TrOK.lt (h : TrOK w F tb pb root st img k) : tb < w.heap.size := h.row.lt
theorem TrOK.pto (h : TrOK w F tb pb root st img k) {X : World → (Nat → Prop) → Prop} (hp : PTo w F pb st' img' k c X w') : ∃ F1 k1, TrOK w' F1 tb pb root st' img' k1 ∧ k1 ≤ k + c ∧ Keep F w w' ∧ (∀ b, F1 b → F b ∨ w.heap.size ≤ b) ∧ X w' F1 := by
  obtain ⟨⟨F1, k1, h1, h2, h3, h4, h5⟩⟩ := hp
  exact ⟨F1, k1, ⟨h1, h.row.keep h3 h.out, fun hf => by
    rcases h4 tb hf with e | e
    · exact h.out e
    · have := h.row.lt; omega⟩, h2, h3, h4, h5⟩
theorem Keep.next {F G : Nat → Prop} {a b c : World} (h : Keep F a b) (k : Keep G b c) (hg : ∀ i, G i → a.heap.size ≤ i ∨ F i) : Keep F a c := h.trans k (fun i hi e => (hg i e).elim (fun h => by omega) id)
set_option maxRecDepth 20000 in
set_option maxHeartbeats 2000000 in
theorem read_any (h : TrOK w F tb pb root st img k) (p : Nat) (hu : UsedSt st p) (hn : OnPage img p n) (deep : Int) (hd : deep ≤ 20) (hk : k < 1099511627770) :
    Calls Tryz.prog 55 #[.pointer (some ⟨tb, 0, none⟩), .int .i64 p, .int .i64 deep] w fun e w' => ∃ kv vv iv, e = .returned (.tuple #[.agg #[.bool n.leaf, kv, vv, iv], .int .i64 0]) ∧
      TT w F tb pb root k 4 (fun w' F' st' img' => (st' = st ∧ img' = img) ∧ NdO w' (fun b => w.heap.size ≤ b ∧ ¬ F' b) kv vv iv n) w' := by
  have H := Lib.hid h
  have hdd : decide ((20 : Int) < deep) = false := by simp; omega
  have r0 := Row.new w 144 zn
  have k0 := (Keep.refl No w).alloc (.cells zn.toArray 144)
  have s0 : (w.alloc (.cells zn.toArray 144)).heap.size = w.heap.size + 1 := by simp
  have HR0 := Lib.hid r0
  have HK0 := Lib.hid k0
  have HS0 := Lib.hid s0
  have HG := Lib.hid (get_any (h.step k0).pages p hu hk)
  have HN := Lib.hid hn
  clear h hd hk hu r0 k0 s0 hn
  go_enter Tryz.func55, Tryz.ntmps55
  go_upto_region 1 with fail
  rw [show (Obj.cells #[.bool false, .slice none 0 0, .slice none 0 0, .slice none 0 0] 144) = (Obj.cells zn.toArray 144) from rfl]
  generalize w.alloc (.cells zn.toArray 144) = W at *
  have c0 := (H.out.step HK0.out).row.cell 0
  simp only [List.getElem?_cons_zero] at c0
  go_upto_region 8 with (go_at_call 82; refine HG.out.mono ?_; rintro e w1 ⟨v, rfl, hg⟩; have HGT := Lib.hid hg.it; clear hg)
  obtain ⟨F1, k1, ht1, hk1, hkp1, hg1, ho1⟩ := (H.out.step HK0.out).pto HGT.out
  have HT1 := Lib.hid ht1
  have HKP1 := Lib.hid hkp1
  have HG1 := Lib.hid hg1
  have hz : BS w1 (fun b => W.heap.size ≤ b ∧ ¬ F1 b) v n.page := by
    have := ho1.rs
    rw [HN.out.page] at this
    exact this
  have HRD := Lib.hid (read_nd hz HN.out.sh HN.out.size)
  have hF0 : ¬ F w.heap.size := fun hf => by have := H.out.pages.lt _ hf; omega
  have hF1 : ¬ F1 w.heap.size := fun hf => by
    have := HS0.out
    rcases HG1.out _ hf with e | e
    · exact hF0 e
    · omega
  have r1 := HR0.out.keep HKP1.out hF0
  have HR1 := Lib.hid r1
  clear ht1 hkp1 hg1 ho1 hz HGT HG c0 r1
  have y0 := HR1.out.cell 0
  have y1 := HR1.out.cell 1
  have y2 := HR1.out.cell 2
  have y3 := HR1.out.cell 3
  simp only [zn, List.getElem?_cons_zero, List.getElem?_cons_succ] at y0 y1 y2 y3
  go_wp2_with (go_at_call 83; refine HRD.out.mono ?_; rintro e w2 ⟨kv, vv, iv, rfl, hrd⟩; obtain ⟨ko, kc, vo, vc, io, ic, rfl, rfl, rfl⟩ := hrd.node.forms; have HND := Lib.hid hrd.node; have HK2 := Lib.hid hrd.keep; have r2 := HR1.out.keep hrd.keep (fun h => h); have f0 := r2.frozen 0; have f1 := r2.frozen 1; have f2 := r2.frozen 2; have f3 := r2.frozen 3; have z0 := r2.cell 0; have z1 := r2.cell 1; have z2 := r2.cell 2; have z3 := r2.cell 3; simp only [zn, List.getElem?_cons_zero, List.getElem?_cons_succ] at z0 z1 z2 z3; have HR2 := Lib.hid r2; clear hrd r2)
  have r3 := HR2.out.set4 rfl (.bool n.leaf) (.slice ko n.keys.length kc) (.slice vo n.vals.length vc) (.slice io n.kids.length ic)
  have k3 := four_keep w2 w.heap.size (.bool n.leaf) (.slice ko n.keys.length kc) (.slice vo n.vals.length vc) (.slice io n.kids.length ic)
  refine bodyPost_ret (ret_node_tmp rfl _ r3 rfl) rfl ?_
  have hs1 : W.heap.size ≤ w1.heap.size := HKP1.out.size
  have hs0 := HS0.out
  have hne : ∀ b, From w1.heap.size b → ¬ Just w.heap.size b := fun b hb e => by unfold From at hb; unfold Just at e; omega
  refine ⟨_, _, _, rfl, ⟨F1, st, img, k1, ?_, hk1, ?_, ?_, ⟨rfl, rfl⟩, ?_⟩⟩
  · have hp1 := HT1.out.step HK2.out
    refine ⟨hp1.pages.keep k3 (fun b hb e => by unfold Just at e; subst e; exact hF1 hb), hp1.row.keep k3 (fun e => ?_), hp1.out⟩
    unfold Just at e
    have := H.out.lt
    omega
  · exact (((HK0.out.any F).trans HKP1.out (fun _ _ h => h)).next HK2.out (fun _ h => h.elim)).next k3 (fun i e => .inl (by unfold Just at e; omega))
  · intro b hb
    rcases HG1.out b hb with e | e
    · exact .inl e
    · exact .inr (by omega)
  · exact ((HND.out.keep k3 (fun b _ e => hne b e)).more (fun b hb e => ⟨by unfold From at e; omega, fun hf => by have := HT1.out.pages.lt b hf; unfold From at e; omega⟩))
theorem upd_upd (img : Nat → Byt) (q : Nat) (a b : Byt) : upd (upd img q a) q b = upd img q b := by funext i; unfold upd; split <;> rfl
set_option maxRecDepth 20000 in
set_option maxHeartbeats 2000000 in
theorem write_fresh (h : TrOK w F tb pb root st img k) (hr : NdR w D kv vv iv n) (hs : n.Sh) (hz : n.size ≤ 1024) (p : Nat) (hp : st[p]? = some 2) (hk : k < 1099511627770) :
    Calls Tryz.prog 54 #[.pointer (some ⟨tb, 0, none⟩), .agg #[.bool n.leaf, kv, vv, iv], .int .i64 p] w fun e w' => e = .returned (.tuple #[.int .i64 p, .int .i64 0]) ∧
      TT w F tb pb root k 4 (fun _ _ st' img' => st' = st ∧ img' = upd img p n.page) w' := by
  have H := Lib.hid h
  have hso : (stOf st p == 2) = true := by
    have hl : p < st.length := (List.getElem?_eq_some_iff.1 hp).1
    unfold stOf; rw [if_pos (by omega)]; simp [List.getD, hp]
  have HR := Lib.hid hr
  have HS := Lib.hid hs
  have HZ := Lib.hid hz
  have HP := Lib.hid hp
  obtain ⟨ko, kc, vo, vc, io, ic, rfl, rfl, rfl⟩ := hr.forms
  obtain ⟨W, hW⟩ : ∃ W, W = w.alloc (.cells #[.bool n.leaf, .slice ko n.keys.length kc, .slice vo n.vals.length vc, .slice io n.kids.length ic] 144) := ⟨_, rfl⟩
  have k0 : Keep No w W := by rw [hW]; exact (Keep.refl No w).alloc _
  have r0 : Row W w.heap.size 144 [.bool n.leaf, .slice ko n.keys.length kc, .slice vo n.vals.length vc, .slice io n.kids.length ic] := by rw [hW]; exact Row.new w _ [_, _, _, _]
  have c0 := r0.cell 0
  have c1 := r0.cell 1
  have c2 := r0.cell 2
  have c3 := r0.cell 3
  simp only [List.getElem?_cons_zero, List.getElem?_cons_succ] at c0 c1 c2 c3
  have HK0 := Lib.hid k0
  have HWR := Lib.hid (write_nd (hr.keep k0 (fun _ _ _ h => h)) (Nd.few_of hs (by omega)) hs hz)
  have HWW := Lib.hid hW
  clear h hr hs hz hp k0 r0 hW
  go_enter Tryz.func54, Tryz.ntmps54
  go_upto_region 1 with fail
  rw [← HWW.out]
  clear HWW
  go_upto_region 5 with (go_at_call 78; refine HWR.out.mono ?_; rintro e w1 ⟨v, rfl, hk1, ho1⟩; have HK1 := Lib.hid hk1; have HO1 := Lib.hid ho1; clear hk1 ho1)
  clear c0 c1 c2 c3
  have ht1 := (H.out.step HK0.out).step HK1.out
  have c4 := ht1.row.cell 0
  simp only [List.getElem?_cons_zero] at c4
  have HT1 := Lib.hid ht1
  have HFR := Lib.hid (fresh_any ht1.pages p)
  rw [hso] at HFR
  have HBS : Hid (BS w1 (fun b => W.heap.size ≤ b) v n.page) := HO1.out.rs
  have HPT := Lib.hid (put_page ht1.pages p HP.out _ v n.page HBS.out (n.length_page HZ.out) hk)
  clear ht1 hso
  obtain ⟨vo', vc', rfl, _, _⟩ := HBS.out.form
  go_wp2_with (first
    | (go_at_call 79; refine HFR.out.mono ?_; rintro e w2 ⟨rfl, rfl⟩)
    | (go_at_call 81; refine HPT.out.mono ?_; rintro e w3 ⟨rfl, hpt⟩; have HPP := Lib.hid hpt; clear hpt))
  go_ret2
  obtain ⟨F1, k1, ht, hk1, hkp, hg, _⟩ := HT1.out.pto HPP.out
  have hs1 := HK0.out.size
  have hs2 : W.heap.size ≤ _ := HK1.out.size
  refine ⟨rfl, ⟨F1, st, _, k1, ht, hk1, ((HK0.out.trans HK1.out (fun _ _ h => h)).any F).trans hkp (fun _ _ h => h), fun b hb => ?_, rfl, rfl⟩⟩
  rcases hg b hb with e | e
  · exact .inl e
  · exact .inr (by omega)
set_option maxRecDepth 20000 in
set_option maxHeartbeats 2000000 in
theorem write_new (h : TrOK w F tb pb root st img k) (hr : NdR w D kv vv iv n) (hs : n.Sh) (hz : n.size ≤ 1024) (q : Nat) (hp : ixOf 0 st = q) (hk : k < 1099511627760) :
    Calls Tryz.prog 54 #[.pointer (some ⟨tb, 0, none⟩), .agg #[.bool n.leaf, kv, vv, iv], .int .i64 (-1)] w fun e w' => e = .returned (.tuple #[.int .i64 q, .int .i64 0]) ∧
      TT w F tb pb root k 8 (fun _ _ st' img' => st' = st.set q 2 ∧ img' = upd img q n.page) w' := by
  have H := Lib.hid h
  have hso : (stOf st (-1) == 2) = false := by unfold stOf; rw [if_neg (by omega)]; rfl
  have HR := Lib.hid hr
  have HS := Lib.hid hs
  have HZ := Lib.hid hz
  have HP := Lib.hid hp
  obtain ⟨ko, kc, vo, vc, io, ic, rfl, rfl, rfl⟩ := hr.forms
  obtain ⟨W, hW⟩ : ∃ W, W = w.alloc (.cells #[.bool n.leaf, .slice ko n.keys.length kc, .slice vo n.vals.length vc, .slice io n.kids.length ic] 144) := ⟨_, rfl⟩
  have k0 : Keep No w W := by rw [hW]; exact (Keep.refl No w).alloc _
  have r0 : Row W w.heap.size 144 [.bool n.leaf, .slice ko n.keys.length kc, .slice vo n.vals.length vc, .slice io n.kids.length ic] := by rw [hW]; exact Row.new w _ [_, _, _, _]
  have c0 := r0.cell 0
  have c1 := r0.cell 1
  have c2 := r0.cell 2
  have c3 := r0.cell 3
  simp only [List.getElem?_cons_zero, List.getElem?_cons_succ] at c0 c1 c2 c3
  have HK0 := Lib.hid k0
  have HWR := Lib.hid (write_nd (hr.keep k0 (fun _ _ _ h => h)) (Nd.few_of hs (by omega)) hs hz)
  have HWW := Lib.hid hW
  clear h hr hs hz hp k0 r0 hW
  go_enter Tryz.func54, Tryz.ntmps54
  go_upto_region 1 with fail
  rw [← HWW.out]
  clear HWW
  go_upto_region 5 with (go_at_call 78; refine HWR.out.mono ?_; rintro e w1 ⟨v, rfl, hk1, ho1⟩; have HK1 := Lib.hid hk1; have HO1 := Lib.hid ho1; clear hk1 ho1)
  clear c0 c1 c2 c3
  have ht1 := (H.out.step HK0.out).step HK1.out
  have c4 := ht1.row.cell 0
  simp only [List.getElem?_cons_zero] at c4
  have HT1 := Lib.hid ht1
  have HFR := Lib.hid (fresh_any ht1.pages (-1))
  rw [hso] at HFR
  have HBS : Hid (BS w1 (fun b => W.heap.size ≤ b) v n.page) := HO1.out.rs
  have HAL := Lib.hid (alloc_any ht1.pages q HP.out (by omega))
  clear ht1 hso
  obtain ⟨vo', vc', rfl, _, _⟩ := HBS.out.form
  go_upto_region 7 with (first
    | (go_at_call 79; refine HFR.out.mono ?_; rintro e w2 ⟨rfl, rfl⟩)
    | (go_at_call 80; refine HAL.out.mono ?_; rintro e w3 ⟨rfl, hpt⟩; have HPP := Lib.hid hpt; clear hpt))
  obtain ⟨F1, k1, ht2, hk1, hkp2, hg2, _⟩ := HT1.out.pto HPP.out
  have HT2 := Lib.hid ht2
  have HK2 := Lib.hid hkp2
  have HG2 := Lib.hid hg2
  have hqs : st[q]? = some 0 := ixOf_spec HP.out
  have hql : q < st.length := (List.getElem?_eq_some_iff.1 hqs).1
  have hs1 := HK0.out.size
  have hs2 : W.heap.size ≤ _ := HK1.out.size
  have hb2 := HBS.out.keep hkp2 (fun b hb e f => by have := H.out.pages.lt b f; omega)
  have HPT := Lib.hid (put_page ht2.pages q (by simp [hql]) _ _ n.page hb2 (n.length_page HZ.out) (by omega))
  have c5 := ht2.row.cell 0
  simp only [List.getElem?_cons_zero] at c5
  clear ht2 hkp2 hg2 hqs hb2 c4
  go_wp2_with (go_at_call 81; refine HPT.out.mono ?_; rintro e w4 ⟨rfl, hpt⟩; have HPQ := Lib.hid hpt; clear hpt)
  go_ret2
  obtain ⟨F2, k2, ht, hk2, hkp, hg, _⟩ := HT2.out.pto HPQ.out
  refine ⟨rfl, ⟨F2, _, _, k2, ht, by omega, ((((HK0.out.trans HK1.out (fun _ _ h => h)).any F).trans HK2.out (fun _ _ h => h)).next hkp (fun b e => ?_)), fun b hb => ?_, rfl, upd_upd _ _ _ _⟩⟩
  · rcases HG2.out b e with e | e
    · exact .inr e
    · exact .inl (by omega)
  · rcases hg b hb with e | e
    · rcases HG2.out b e with e | e
      · exact .inl e
      · exact .inr (by omega)
    · have h3 : _ ≤ _ := HK2.out.size
      exact .inr (by omega)
end
end Go.Proofs.YtfhapbggngdckaaGreat
