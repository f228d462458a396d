/- Trees: Get. -/
import Derived.Test.YtfhapbggngdckaaGreatPutT
namespace Go.Proofs.YtfhapbggngdckaaGreat
open Go.RowKit
def lookE : List Ent → Byt → Option Byt
  | [], _ => none
  | e :: es, k => if e.1 = k then some e.2 else lookE es k
theorem lookE_app {k : Byt} : ∀ (A B : List Ent), (∀ e ∈ A, e.1 ≠ k) → lookE (A ++ B) k = lookE B k
  | [], _, _ => rfl
  | e :: A, B, h => by rw [List.cons_append, lookE, if_neg (h e (by simp)), lookE_app A B (fun x hx => h x (by simp [hx]))]
theorem lookE_none {k : Byt} {A : List Ent} (h : ∀ e ∈ A, e.1 ≠ k) : lookE A k = none := by
  have := lookE_app A [] h
  rw [List.append_nil] at this
  exact this
theorem lookE_left {k : Byt} : ∀ (A B : List Ent), (∀ e ∈ B, e.1 ≠ k) → lookE (A ++ B) k = lookE A k
  | [], B, h => lookE_none h
  | e :: A, B, h => by rw [List.cons_append, lookE, lookE, lookE_left A B h]
theorem ne_of_lt {a b : Byt} (h : lt a b) : a ≠ b := fun e => by subst e; exact lt_irrefl _ h
theorem lookE_mid {k : Byt} {A M B : List Ent} (h1 : ∀ e ∈ A, lt e.1 k) (h2 : ∀ e ∈ B, lt k e.1) : lookE (A ++ (M ++ B)) k = lookE M k := by
  rw [lookE_app _ _ (fun e he => ne_of_lt (h1 e he)), lookE_left _ _ (fun e he => (ne_of_lt (h2 e he)).symm)]
theorem lookE_zip {keys vals : List Byt} {key : Byt} {i : Nat} (hp : keys.Pairwise lt) (hv : vals.length = keys.length) (hpl : Plc keys key i) : lookE (keys.zip vals) key = if keys[i]? = some key then vals[i]? else none := by
  rw [zip_split hv hpl.le, lookE_app _ _ (fun e he => ne_of_lt (hpl.low' e.1 (List.of_mem_zip he).1))]
  by_cases hi : i < keys.length
  · have hd := List.drop_eq_getElem_cons hi
    have hdv := List.drop_eq_getElem_cons (show i < vals.length by omega)
    rw [hd, hdv, List.zip_cons_cons, lookE, List.getElem?_eq_getElem hi, List.getElem?_eq_getElem (show i < vals.length by omega)]
    by_cases he : keys[i] = key
    · rw [if_pos he, if_pos (by rw [he])]
    · rw [if_neg he, if_neg (fun e => he (Option.some.inj e))]
      refine lookE_none fun e hm => ?_
      have hm1 := (List.of_mem_zip hm).1
      obtain ⟨j, hj, ej⟩ := List.getElem_of_mem hm1
      rw [List.length_drop] at hj
      rw [List.getElem_drop] at ej
      have h1 := (List.pairwise_iff_getElem.1 hp) i (i + 1 + j) hi (by omega) (by omega)
      rw [ej] at h1
      have h2 := hpl.high i hi (Nat.le_refl _)
      intro e2
      rw [e2] at h1
      exact absurd h1 h2
  · rw [if_neg (by rw [List.getElem?_eq_none (by omega)]; simp), List.drop_eq_nil_of_le (by omega)]
    rfl
section
variable {w w' : World} {F D : Nat → Prop} {tb pb : Nat} {root : Int} {st st' : List Int} {img img' : Nat → Byt} {k c h hgt : Nat} {lo hi : Option Byt} {m n : Nd} {kv vv iv kx vx : Value} {p : Nat} {ps : List Nat} {es : List Ent} {key val : Byt}
/-- Where Get stands. -/
structure GAt (w : World) (F : Nat → Prop) (tb pb : Nat) (root : Int) (st : List Int) (img : Nat → Byt) (k hgt : Nat) (es : List Ent) (key : Byt) (j : Nat) (nn : Int) (wr : World) : Prop where
  tt : TT w F tb pb root k (4 * j) (Same st img) wr
  it : (nn = -1 ∧ lookE es key = none) ∨ ∃ h' p' lo hi ps' es', j + h' + 1 = hgt ∧ nn = ((p' : Nat) : Int) ∧ Rep img h' false lo hi p' ps' es' ∧ (∀ q ∈ ps', st[q]? = some 2) ∧ loOK lo key ∧ hiOK hi key ∧ lookE es key = lookE es' key
/-- What Get answers. -/
structure Got (w : World) (F : Nat → Prop) (tb pb : Nat) (root : Int) (st : List Int) (img : Nat → Byt) (k c : Nat) (r : Option Byt) (v : Value) (w' : World) : Prop where
  it : TT w F tb pb root k c (fun w' F' st' img' => Same st img w' F' st' img' ∧ (∀ b, r = some b → BS w' (fun x => w.heap.size ≤ x ∧ ¬ F' x) v b)) w'
set_option maxRecDepth 20000 in
set_option maxHeartbeats 4000000 in
theorem tget_any (ht : TrOK w F tb pb root st img k) (htop : Top img root hgt ps es) (hh : Has st ps) (hhg : hgt ≤ 20) (hk : k < 1099511627000) (hkx : BS w (fun b => ¬ F b) kx key) :
    Calls Tryz.prog 32 #[.pointer (some ⟨tb, 0, none⟩), kx] w fun e w' => ∃ v, e = .returned (.tuple #[v, .bool (lookE es key).isSome, .int .i64 0]) ∧ Got w F tb pb root st img k (4 * hgt) (lookE es key) v w' := by
  have c1 := ht.row.cell 1
  simp only [List.getElem?_cons_zero, List.getElem?_cons_succ] at c1
  have HT := Lib.hid ht
  have hq : ∀ w : World, (binOp .eql 70 (.pointer (some ⟨tb, 0, none⟩)) (.pointer none)).run Tryz.prog w = .ok (.bool false) w := fun w => by kernel_rfl
  obtain ⟨kxo, kxc, rfl, _, _⟩ := hkx.form
  have HKX := Lib.hid (hkx.more (D' := fun b => ¬ F b ∧ b < w.heap.size) (fun b hb e => ⟨e, hb⟩))
  have H0 : Hid (GAt w F tb pb root st img k hgt es key 0 root w) := by
    refine ⟨TT.refl ht, ?_⟩
    rcases htop with ⟨h1, h2, h3, h4⟩ | ⟨h, p, h1, h2, h3⟩
    · exact .inl ⟨h1, by rw [h4]; rfl⟩
    · exact .inr ⟨h, p, none, none, ps, es, by omega, h2, h3, hh.use, fun a ha => (by cases ha), fun a ha => (by cases ha), rfl⟩
  clear ht htop hh hkx
  go_enter Tryz.func32, Tryz.ntmps32
  go_upto_region 5 with fail
  go_loopw [7, 8] (fun u7 u8 wr => ∃ j : Nat, ∃ nn : Int, u7 = .int .i64 nn ∧ u8 = .int .i64 ((j : Int) + 1) ∧ j ≤ hgt ∧ Hid (GAt w F tb pb root st img k hgt es key j nn wr)) (fun _ u8 _ => hgt + 1 - (intOf u8).toNat)
  case atStart => exact ⟨0, root, rfl, rfl, Nat.zero_le _, H0.out⟩
  case round =>
    obtain ⟨j, nn, rfl, rfl, hj, HA⟩ := hrel
    rcases HA.out.it with ⟨h1, h2⟩ | ⟨h', p', lo, hi, ps', es', h1, h2, h3, h4, h5, h6, h7⟩
    · subst h1
      have HB := Lib.hid HA.out.tt
      have HLN := Lib.hid h2
      clear HA h2
      go_wp2_with fail
      go_ret3
      refine ⟨_, by rw [HLN.out]; rfl, ⟨?_⟩⟩
      obtain ⟨⟨F1, st1, img1, k1, g1, g2, g3, g4, g5⟩⟩ := HB.out
      exact ⟨F1, st1, img1, k1, g1, by omega, g3, g4, g5, fun b hb => by rw [HLN.out] at hb; cases hb⟩
    · subst h2
      obtain ⟨F1, st1, img1, k1, ht1, hk1, hkp1, hg1, rfl, rfl⟩ := HA.out.tt.ex
      obtain ⟨n, ps2, hn, hnr, rfl⟩ := h3.open
      have hp := h4 p' (by simp)
      have HRD := Lib.hid (read_any ht1 p' (.inr hp) hn ((j : Int) + 1) (by omega) (by omega))
      have HT1 := Lib.hid ht1
      have HKP := Lib.hid hkp1
      have HG := Lib.hid hg1
      have HNR := Lib.hid hnr
      have HN := Lib.hid hn
      have HU := Lib.hid h4
      have HLO := Lib.hid (And.intro h5 h6)
      have HLK := Lib.hid h7
      have hne : ((p' : Int) == -1) = false := by simp
      have hcn := Nd.count_lt hn.sh (by have := hn.size; omega)
      clear ht1 hkp1 hg1 hnr h3 h4 hn HA h5 h6 h7
      go_upto_region 10 with (go_at_call 55; refine HRD.out.mono ?_; rintro e w2 ⟨kv, vv, iv, rfl, ht⟩; obtain ⟨⟨F2, st2, img2, k2, ht2, hk2, hkp2, hg2, ⟨e1, e2⟩, hnd⟩⟩ := ht; obtain ⟨ko, kc, vo, vc, io, ic, rfl, rfl, rfl⟩ := hnd.forms; have HE1 := Lib.hid e1; have HE2 := Lib.hid e2; have HT2 := Lib.hid ht2; have HKP2 := Lib.hid hkp2; have HG2 := Lib.hid hg2; have HND := Lib.hid hnd; clear ht2 hkp2 hg2 hnd e1 e2)
      have hr2 := Row.new w2 144 [.bool n.leaf, .slice ko n.keys.length kc, .slice vo n.vals.length vc, .slice io n.kids.length ic]
      have kx2 := (Keep.refl No w2).alloc (.cells #[.bool n.leaf, .slice ko n.keys.length kc, .slice vo n.vals.length vc, .slice io n.kids.length ic] 144)
      generalize w2.alloc (.cells #[.bool n.leaf, .slice ko n.keys.length kc, .slice vo n.vals.length vc, .slice io n.kids.length ic] 144) = X at *
      have HTT : Hid (TT w F tb pb root k (4 * (j + 1)) (fun w' F' st' img' => Same st1 img1 w' F' st' img' ∧ NdO w' (fun b => w.heap.size ≤ b ∧ ¬ F' b) (.slice ko n.keys.length kc) (.slice vo n.vals.length vc) (.slice io n.kids.length ic) n) X) := by
        have h5 : TT wr F1 tb pb root k1 4 (fun w' F' st' img' => Same st1 img1 w' F' st' img' ∧ NdO w' (fun b => w.heap.size ≤ b ∧ ¬ F' b) (.slice ko n.keys.length kc) (.slice vo n.vals.length vc) (.slice io n.kids.length ic) n) X :=
          ⟨F2, st2, img2, k2, HT2.out.step kx2, hk2, HKP2.out.next kx2 (fun _ e => e.elim), HG2.out, ⟨HE1.out, HE2.out⟩, (HND.out.keep kx2 (fun _ _ _ h => h)).more (fun b _ e => ⟨Nat.le_trans HKP.out.size e.1, e.2⟩)⟩
        exact (TT.trans (c1 := 4 * j) HKP.out HG.out hk1 h5).le (by omega)
      have hX : w.heap.size ≤ X.heap.size := Nat.le_trans HKP.out.size (Nat.le_trans HKP2.out.size kx2.size)
      have c0 := hr2.cell 0
      have c1 := hr2.cell 1
      have c2 := hr2.cell 2
      have c3 := hr2.cell 3
      simp only [List.getElem?_cons_zero, List.getElem?_cons_succ] at c0 c1 c2 c3
      have hndX := HND.out.r.keep kx2 (fun _ _ _ h => h)
      have HNDX := Lib.hid hndX
      have hkX : BS X (fun b => ¬ F b ∧ b < w.heap.size) (.slice kxo key.length kxc) key := ((HKX.out.keep HKP.out (fun b _ e f => e.1 f)).keep HKP2.out (fun b hb e f => by
        rcases HG.out b f with e2 | e2
        · exact e.1 e2
        · omega)).keep kx2 (fun _ _ _ h => h)
      have HKX2 := Lib.hid hkX
      have HB2 := Lib.hid hr2
      clear hr2 kx2 hndX hkX
      cases h' with
      | zero =>
        obtain ⟨hlf, _, _, hes, _⟩ := HNR.out
        have HFD := Lib.hid (find_any HNDX.out HN.out.sh.rise hcn HKX2.out)
        rw [hlf] at c0 HFD
        have hvl := (HN.out.sh.lf hlf).1
        have HVL := Lib.hid hvl
        have HES := Lib.hid hes
        clear hlf hvl hes
        go_upto_region 12 with (go_at_call 56; refine HFD.out.mono ?_; rintro e w4 ⟨i, rfl, hpl, hk4⟩; have HPL := Lib.hid hpl; have HK4 := Lib.hid hk4; have hile := hpl.le; have r4 := HB2.out.keep hk4 (fun h => h); have d2 := r4.cell 2; simp only [List.getElem?_cons_zero, List.getElem?_cons_succ] at d2; generalize hbb : decide (n.keys[i]? = some key) = bb; have HBB := Lib.hid hbb; clear hpl hk4 hbb r4)
        have HLE : Hid (lookE es key = if n.keys[i]? = some key then n.vals[i]? else none) := by
          show _ = _
          rw [HLK.out, HES.out, lookE_zip HN.out.sh.pair HVL.out HPL.out]
        have HTT4 : Hid (TT w F tb pb root k (4 * hgt) (fun w' F' st' img' => Same st1 img1 w' F' st' img' ∧ NdO w' (fun b => w.heap.size ≤ b ∧ ¬ F' b) (.slice ko n.keys.length kc) (.slice vo n.vals.length vc) (.slice io n.kids.length ic) n) w4) := by
          obtain ⟨⟨F3, st3, img3, k3, g1, g2, g3, g4, g5, g6⟩⟩ := HTT.out
          exact ⟨F3, st3, img3, k3, g1.step HK4.out, by omega, g3.next HK4.out (fun _ e => e.elim), g4, g5, g6.keep HK4.out (fun _ _ _ h => h)⟩
        rcases bb with _ | _
        · have hno : lookE es key = none := by rw [HLE.out, if_neg (of_decide_eq_false HBB.out)]
          have HNO := Lib.hid hno
          clear hno
          go_wp2_with fail
          go_ret3
          refine ⟨_, by rw [HNO.out]; rfl, ⟨?_⟩⟩
          obtain ⟨⟨F3, st3, img3, k3, g1, g2, g3, g4, g5, g6⟩⟩ := HTT4.out
          exact ⟨F3, st3, img3, k3, g1, g2, g3, g4, g5, fun b hb => by rw [HNO.out] at hb; cases hb⟩
        · have hlt : i < n.keys.length := by
            rcases Nat.lt_or_ge i n.keys.length with h | h
            · exact h
            · have := HBB.out
              rw [decide_eq_true_iff, List.getElem?_eq_none h] at this
              simp at this
          have hv4 : i < n.vals.length := by have := HVL.out; omega
          have hsm : lookE es key = some n.vals[i] := by rw [HLE.out, if_pos (of_decide_eq_true HBB.out), List.getElem?_eq_getElem hv4]
          have HSM := Lib.hid hsm
          have hiI : (i : Int) < (n.vals.length : Int) := by omega
          obtain ⟨F3, st3, img3, k3, g1, g2, g3, g4, g5, g6⟩ := HTT4.out.ex
          obtain ⟨vo2, vc2, e1, _, HVS⟩ := g6.r.vals.form
          simp only [Value.slice.injEq, true_and] at e1
          obtain ⟨rfl, rfl⟩ := e1
          obtain ⟨g, o, uu, rfl, _, _, hcu, hbu⟩ := HVS.out i hv4
          have HBU := Lib.hid hbu
          have HG5 := Lib.hid (And.intro g1 (And.intro g2 (And.intro g3 (And.intro g4 g5))))
          clear hsm g1 g2 g3 g4 g5 g6 hbu HVS
          go_wp2_with fail
          go_ret3
          refine ⟨_, by rw [HSM.out]; rfl, ⟨F3, st3, img3, k3, HG5.out.1, HG5.out.2.1, HG5.out.2.2.1, HG5.out.2.2.2.1, HG5.out.2.2.2.2, fun b hb => ?_⟩⟩
          rw [HSM.out] at hb
          cases hb
          exact HBU.out
      | succ h' =>
        obtain ⟨hlf, _, _, hch⟩ := HNR.out
        have hfd : ∀ Y, Keep No X Y → Calls Tryz.prog 57 #[.agg #[.bool n.leaf, .slice ko n.keys.length kc, .slice vo n.vals.length vc, .slice io n.kids.length ic], .slice kxo key.length kxc] Y fun e w' => ∃ k : Nat, e = .returned (.int .i64 k) ∧ KPlc n key k ∧ Keep No Y w' := fun Y hY =>
          (kid_any (HNDX.out.keep hY (fun _ _ _ h => h)) HN.out.sh.rise hcn (HKX2.out.keep hY (fun _ _ _ h => h))).mono fun e w' ⟨k, h1, h2, h3, h4, h5⟩ => ⟨k, h1, ⟨h2, h3, h4⟩, h5⟩
        have HFD := Lib.hid hfd
        rw [hlf] at c0 HFD
        have hkn := (HN.out.sh.inn hlf).2.1
        have HKN := Lib.hid hkn
        have HCH := Lib.hid hch
        obtain ⟨io2, ic2, ei, -, HIX⟩ := IS.form (l := n.kids) HNDX.out.kids
        simp only [Value.slice.injEq, true_and] at ei
        obtain ⟨rfl, rfl⟩ := ei
        obtain ⟨g, o, rfl, -, hgl, -⟩ := HIX.out 0 (by omega)
        have hcx : ∀ i (hi : i < n.kids.length), X.cell? ⟨g, o + i, none⟩ = some (.int .i64 n.kids[i]) := fun i hi => by
          obtain ⟨g', o', e, _, _, hc⟩ := HIX.out i hi
          cases e
          exact hc
        have hcd : ∀ i (hi : i < n.kids.length), X.drew.cell? ⟨g, o + i, none⟩ = some (.int .i64 n.kids[i]) := hcx
        have HGL := Lib.hid hgl
        clear hlf hkn hch hfd HIX hgl
        go_upto_region 14 with fail
        go_region_held3 (fun Y => Y.cell? ⟨w2.heap.size, 0, none⟩ = some (.bool false) ∧ Y.cell? ⟨w2.heap.size, 1, none⟩ = some (.slice ko n.keys.length kc) ∧ Y.cell? ⟨w2.heap.size, 2, none⟩ = some (.slice vo n.vals.length vc) ∧ Y.cell? ⟨w2.heap.size, 3, none⟩ = some (.slice (some ⟨g, o, none⟩) n.kids.length ic) ∧ (∀ i (hi : i < n.kids.length), Y.cell? ⟨g, o + i, none⟩ = some (.int .i64 n.kids[i])))
          (first | (with_reducible assumption) | (with_reducible (refine ⟨?_, ?_, ?_, ?_, ?_⟩ <;> assumption)) | exact ⟨c0, c1, c2, c3, hcx⟩ | go_keep)
          (first
            | (go_at_call 57; refine (HFD.out _ ((Keep.refl No X).drew)).mono ?_; rintro e w4 ⟨i, rfl, hpl, hk4⟩; have HPL := Lib.hid hpl; have HK4 := Lib.hid ((Keep.refl No X).drew.trans hk4 (fun _ _ h => h)); have hiK : i < n.kids.length := (by have := hpl.le; have := HKN.out; omega); have hiI : (i : Int) < (n.kids.length : Int) := (by omega); have r4 := HB2.out.keep HK4.out (fun h => h); have e0 : w4.cell? ⟨w2.heap.size, 0, none⟩ = some (.bool false) := (by have := r4.cell 0; rw [HNR.out.1] at this; exact this); have e1 := r4.cell 1; have e2 := r4.cell 2; have e3 := r4.cell 3; simp only [List.getElem?_cons_zero, List.getElem?_cons_succ] at e1 e2 e3; have hcy : ∀ i (hi : i < n.kids.length), w4.cell? ⟨g, o + i, none⟩ = some (.int .i64 n.kids[i]) := (fun i hi => (HK4.out.cell (p := ⟨g, o + i, none⟩) HGL.out (fun h => h)).trans (hcx i hi)); clear hpl hk4 r4))
        go_wp2_with fail
        obtain ⟨a, b', pk, K1, K2, C1, C2, P1, pq, P2, E1, ek, E2, hc⟩ := HCH.out.split i HPL.out.le
        have hlies := HPL.out.at Rep.bnd HLO.out.1 HLO.out.2 hc
        have hki : n.kids[i] = (pk : Int) := by
          have : n.kids[i]? = some (pk : Int) := by rw [hc.kids, List.getElem?_append_right (by rw [hc.cl]; omega), hc.cl]; simp
          rw [List.getElem?_eq_getElem hiK] at this
          exact Option.some.inj this
        go_roundw
        case rel =>
          refine ⟨j + 1, pk, by rw [hki], by go_num, by omega, ?_, .inr ⟨h', pk, a, b', pq, ek, by omega, rfl, hc.it, fun q hq => HU.out q (by rw [hc.ps]; simp [hq]), hlies.lo, hlies.hi, ?_⟩⟩
          · obtain ⟨⟨F3, st3, img3, k3, g1, g2, g3, g4, g5, g6⟩⟩ := HTT.out
            exact ⟨F3, st3, img3, k3, g1.step HK4.out, g2, g3.next HK4.out (fun _ e => e.elim), g4, g5⟩
          · rw [HLK.out, hc.es, lookE_mid hlies.low hlies.high]
        case measure => simp [intOf]; omega
end
end Go.Proofs.YtfhapbggngdckaaGreat
