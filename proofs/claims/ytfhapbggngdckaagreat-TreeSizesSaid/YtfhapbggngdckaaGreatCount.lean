/- Trees: Count. -/
import Derived.Test.YtfhapbggngdckaaGreatTPages
namespace Go.Proofs.YtfhapbggngdckaaGreat
open Go.RowKit
/-- The pages and what lies there. -/
structure Lies2 (img : Nat → Byt) (ps : List Nat) (es : List Ent) (L : List (Nat × Nd)) : Prop where
  fst : L.map (·.1) = ps
  on : ∀ x ∈ L, OnPage img x.1 x.2
  sum : (L.map (fun x => x.2.vals.length)).sum = es.length
theorem Chain.lies {img : Nat → Byt} {R : RT} (hw : ∀ {lo hi p ps es}, R lo hi p ps es → ∃ L, Lies2 img ps es L) {lo hi : Option Byt} {keys : List Byt} {kids : List Int} {ps : List Nat} {es : List Ent} (hc : Chain R lo hi keys kids ps es) : ∃ L, Lies2 img ps es L := by
  induction hc with
  | one h => exact hw h
  | cons h _ ih =>
    obtain ⟨L1, a1, a2, a3⟩ := hw h
    obtain ⟨L2, b1, b2, b3⟩ := ih
    refine ⟨L1 ++ L2, by simp [a1, b1], fun x hx => ?_, by simp [a3, b3]⟩
    rcases List.mem_append.1 hx with h | h
    · exact a2 x h
    · exact b2 x h
theorem Rep.lies {img : Nat → Byt} : ∀ {h : Nat} {lo hi : Option Byt} {p : Nat} {ps : List Nat} {es : List Ent}, Rep img h false lo hi p ps es → ∃ L, Lies2 img ps es L
  | 0, _, _, p, _, _, ⟨n, h1, h2, h3, h4, h5, h6⟩ => ⟨[(p, n)], by rw [h4]; rfl, by simpa using h1, by rw [h5]; have := (h1.sh.lf h2).1; simp; omega⟩
  | _ + 1, _, _, p, _, _, ⟨n, ps', h1, h2, h3, h4, h5, h6⟩ => by
    obtain ⟨L, a1, a2, a3⟩ := h6.lies Rep.lies
    refine ⟨(p, n) :: L, by rw [h5]; simp [a1], fun x hx => ?_, ?_⟩
    · rcases List.mem_cons.1 hx with rfl | h
      · exact h1
      · exact a2 x h
    · have := (h1.sh.inn h2).1
      simp [this, a3]
theorem perm_of_map {α β : Type} {f : α → β} {ys zs : List β} (h : ys.Perm zs) : ∀ L : List α, zs = L.map f → ∃ L' : List α, L'.Perm L ∧ ys = L'.map f := by
  induction h with
  | nil => intro L e; exact ⟨[], by rw [List.map_eq_nil_iff.1 e.symm], rfl⟩
  | cons x h ih =>
    intro L e
    cases L with
    | nil => cases e
    | cons a L =>
      simp only [List.map_cons, List.cons.injEq] at e
      obtain ⟨L', h1, h2⟩ := ih L e.2
      exact ⟨a :: L', h1.cons a, by rw [List.map_cons, ← h2, e.1]⟩
  | swap x y l =>
    intro L e
    match L, e with
    | a :: b :: L, e =>
      simp only [List.map_cons, List.cons.injEq] at e
      exact ⟨b :: a :: L, List.Perm.swap a b L, by simp [e]⟩
  | trans _ _ ih1 ih2 =>
    intro L e
    obtain ⟨L2, h1, h2⟩ := ih2 L e
    obtain ⟨L1, h3, h4⟩ := ih1 L2 h2
    exact ⟨L1, h3.trans h1, h4⟩
theorem perm_sum {l l' : List Nat} (h : l.Perm l') : l.sum = l'.sum := by
  induction h with
  | nil => rfl
  | cons x _ ih => simp [ih]
  | swap x y l => simp; omega
  | trans _ _ h1 h2 => omega
def wt (L : List (Nat × Nd)) : Nat := (L.map (fun x => x.2.vals.length)).sum
theorem wt_take {L : List (Nat × Nd)} {i : Nat} (h : i < L.length) : wt (L.take (i + 1)) = wt (L.take i) + (L[i]).2.vals.length := by
  unfold wt
  rw [← List.take_append_getElem h]
  simp only [List.map_append, List.sum_append, List.map_cons, List.map_nil, List.sum_cons, List.sum_nil, Nat.add_zero]
theorem wt_take_le (L : List (Nat × Nd)) (i : Nat) : wt (L.take i) ≤ wt L := by
  have : wt (L.take i) + wt (L.drop i) = wt L := by
    unfold wt
    rw [← List.sum_append, ← List.map_append, List.take_append_drop]
  omega
section
variable {w w' : World} {F D : Nat → Prop} {tb pb mb : Nat} {root : Int} {st st' : List Int} {img img' : Nat → Byt} {k c h hgt : Nat} {lo hi : Option Byt} {m n : Nd} {kv vv iv kx vx : Value} {p : Nat} {ps qs : List Nat} {es : List Ent} {key val : Byt}
/-- Where Count stands. -/
structure NAt (w : World) (F : Nat → Prop) (tb pb : Nat) (root : Int) (st : List Int) (img : Nat → Byt) (k c : Nat) (v : Value) (xs : List Int) (wr : World) : Prop where
  it : TT w F tb pb root k c (fun w' F' st' img' => Same st img w' F' st' img' ∧ IS w' (fun b => ¬ F' b) v xs) wr
set_option maxRecDepth 20000 in
set_option maxHeartbeats 4000000 in
theorem tcount_any (ht : TrOK w F tb pb root st img k) (htop : Top img root hgt ps es) (hh : Has st ps) (hne : ps ≠ []) (hhg : hgt ≤ 20) (hpl : ps.length ≤ 65536) (hel : es.length ≤ 1099511627776) (hk : k < 1099510000000) :
    Calls Tryz.prog 33 #[.pointer (some ⟨tb, 0, none⟩)] w fun e w' => e = .returned (.tuple #[.int .i64 es.length, .int .i64 0]) ∧ TT w F tb pb root k (8 * ps.length) (Same st img) w' := by
  have HP := Lib.hid (tpages_any ht htop hh hne hhg hpl (by omega))
  have HPL := Lib.hid hpl
  have HH := Lib.hid hh
  have HK := Lib.hid hk
  obtain ⟨h, p, rfl, rfl, hrep⟩ := has_root htop hne
  obtain ⟨L, l1, l2, l3⟩ := hrep.lies
  have HL1 := Lib.hid l1
  have HL2 := Lib.hid l2
  have HL3 := Lib.hid l3
  have HEL := Lib.hid hel
  clear hne htop hrep hh ht hpl l1 l2 l3 hel hk
  go_enter Tryz.func33, Tryz.ntmps33
  go_upto_region 2 with (go_at_call 58; refine HP.out.mono ?_; rintro e w1 ⟨v, rfl, ht⟩; have HT1 := Lib.hid ht; clear ht)
  obtain ⟨⟨F1, st1, img1, k1, ht1, hk1, hkp1, hg1, ⟨rfl, rfl⟩, ys, hys, hown⟩⟩ := HT1.out
  obtain ⟨M, hM, eM⟩ := perm_of_map hys L (by rw [← HL1.out, List.map_map]; rfl : ps.map (fun q : Nat => (q : Int)) = L.map (fun x => ((x.1 : Nat) : Int)))
  have hML : M.length = ps.length := by rw [hM.length_eq, ← HL1.out]; simp
  have hMon : ∀ x ∈ M, OnPage img1 x.1 x.2 := fun x hx => HL2.out x (hM.mem_iff.1 hx)
  have hMsum : wt M = es.length := (perm_sum (hM.map _)).trans HL3.out
  have hMuse : ∀ x ∈ M, st1[x.1]? = some 2 := fun x hx => HH.out.use _ (by rw [← HL1.out]; exact List.mem_map.2 ⟨x, hM.mem_iff.1 hx, rfl⟩)
  have hlen : ys.length = M.length := by rw [eM]; simp
  have his : IS w1 (fun b => ¬ F1 b) v ys := hown.rs.more (fun b _ e => e.2)
  obtain ⟨vo, vc, hv⟩ := hown.form
  rw [List.length_map, hlen] at hv
  subst hv
  have H0 : Hid (NAt w F tb pb (p : Int) st1 img1 k (4 * ps.length + 4 * 0) (.slice vo M.length vc) ys w1) :=
    ⟨F1, st1, img1, k1, ht1, by omega, hkp1, hg1, ⟨rfl, rfl⟩, his⟩
  have HML := Lib.hid hML
  have HMON := Lib.hid hMon
  have HMS := Lib.hid hMsum
  have HMU := Lib.hid hMuse
  have HLN := Lib.hid hlen
  have HEM := Lib.hid eM
  have hMl : (M.length : Int) ≤ 65536 := by have := HPL.out; omega
  clear HT1 ht1 hk1 hkp1 hg1 hys hown hM hML hMon hMsum hMuse hlen his eM
  go_upto_region 4 with fail
  go_loopw [6, 18] (fun u6 u18 wr => ∃ i : Nat, u18 = .int .i64 i ∧ u6 = .int .i64 (wt (M.take i) : Nat) ∧ i ≤ M.length ∧ Hid (NAt w F tb pb (p : Int) st1 img1 k (4 * ps.length + 4 * i) (.slice vo M.length vc) ys wr)) (fun _ u18 _ => M.length - (intOf u18).toNat)
  case atStart => exact ⟨0, rfl, by simp [wt], Nat.zero_le _, H0.out⟩
  case round =>
    obtain ⟨i, rfl, rfl, hi, HA⟩ := hrel
    obtain ⟨⟨F2, st2, img2, k2, ht2, hk2, hkp2, hg2, ⟨rfl, rfl⟩, his⟩⟩ := HA.out.it
    have HT2 := Lib.hid ht2
    have HKP2 := Lib.hid hkp2
    have HG2 := Lib.hid hg2
    have HIS := Lib.hid his
    by_cases hlt : i < M.length
    · have hmem : M[i] ∈ M := List.getElem_mem hlt
      obtain ⟨io2, ic2, ei, _, HIF⟩ := IS.form (l := ys) his
      simp only [Value.slice.injEq] at ei
      obtain ⟨rfl, -, rfl⟩ := ei
      obtain ⟨g, o, rfl, _, _, hci⟩ := HIF.out i (by rw [HLN.out]; exact hlt)
      have hye : ys[i]'(by rw [HLN.out]; exact hlt) = ((M[i]).1 : Nat) := by simp only [HEM.out, List.getElem_map]
      rw [hye] at hci
      have HON := Lib.hid (HMON.out _ hmem)
      have HRD := Lib.hid (read_any ht2 (M[i]).1 (.inr (HMU.out _ hmem)) HON.out 1 (by omega) (by have := HPL.out; have := HML.out; have := HK.out; omega))
      have hcn := Nd.count_lt HON.out.sh (by have := HON.out.size; omega)
      have hsm := wt_take hlt
      have hsl : wt (M.take (i + 1)) ≤ 1099511627776 := by
        have h1 := wt_take_le M (i + 1)
        have h2 := HMS.out
        have h3 := HEL.out
        omega
      generalize M[i] = x at *
      obtain ⟨q, n⟩ := x
      simp only at *
      have hw1 : IntKind.i64.wrap (((wt (M.take i) : Nat) : Int) + ((n.vals.length : Nat) : Int)) = ((wt (M.take (i + 1)) : Nat) : Int) := by
        rw [IntWalk.i64_in _ (by omega)]; omega
      have HSM := Lib.hid hsm
      have hiI : (i : Int) < (M.length : Int) := by omega
      clear ht2 hkp2 hg2 his HA hye hmem hsm hsl
      go_upto_region 7 with (go_at_call 55; refine HRD.out.mono ?_; rintro e w3 ⟨kv, vv, iv, rfl, ht⟩; obtain ⟨⟨F3, st3, img3, k3, ht3, hk3, hkp3, hg3, ⟨e1, e2⟩, hnd⟩⟩ := ht; obtain ⟨ko, kc, vo3, vc3, io, ic, rfl, rfl, rfl⟩ := hnd.forms; have HE1 := Lib.hid e1; have HE2 := Lib.hid e2; have HT3 := Lib.hid ht3; have HKP3 := Lib.hid hkp3; have HG3 := Lib.hid hg3; clear ht3 hkp3 hg3 hnd e1 e2)
      have hr3 := Row.new w3 144 [.bool n.leaf, .slice ko n.keys.length kc, .slice vo3 n.vals.length vc3, .slice io n.kids.length ic]
      have kx3 := (Keep.refl No w3).alloc (.cells #[.bool n.leaf, .slice ko n.keys.length kc, .slice vo3 n.vals.length vc3, .slice io n.kids.length ic] 144)
      generalize w3.alloc (.cells #[.bool n.leaf, .slice ko n.keys.length kc, .slice vo3 n.vals.length vc3, .slice io n.kids.length ic] 144) = X at *
      have c2 := hr3.cell 2
      simp only [List.getElem?_cons_zero, List.getElem?_cons_succ] at c2
      have HKX := Lib.hid kx3
      clear hr3 kx3
      go_wp2_with fail
      go_roundw
      case rel =>
        refine ⟨i + 1, by go_num, rfl, by omega, ?_⟩
        have t2 : TT wr F2 tb pb (p : Int) k2 4 (fun w' F' st' img' => Same st2 img2 w' F' st' img' ∧ IS w' (fun b => ¬ F' b) (.slice (some ⟨g, o, none⟩) M.length vc) ys) X :=
          ⟨F3, st3, img3, k3, HT3.out.step HKX.out, hk3, HKP3.out.next HKX.out (fun _ e => e.elim), HG3.out, ⟨HE1.out, HE2.out⟩,
            ((RS.more HIS.out (D' := fun b => ¬ F2 b ∧ b < wr.heap.size) (fun b hb e => ⟨e, hb⟩)).keep (HKP3.out.next HKX.out (fun _ e => e.elim)) (fun b _ e f => e.1 f)).more (fun b _ e f => by
              rcases HG3.out b f with e2 | e2
              · exact e.1 e2
              · have := e.2
                omega)⟩
        exact ⟨(TT.trans (c1 := 4 * ps.length + 4 * i) HKP2.out HG2.out hk2 t2).le (by omega)⟩
      case measure => simp [intOf]; omega
    · have hge : ¬ ((i : Int) < (M.length : Int)) := by omega
      have HS : Hid (wt (M.take i) = es.length) := by
        show _ = _
        rw [List.take_of_length_le (by omega), HMS.out]
      clear ht2 hkp2 hg2 his HA
      go_wp2_with fail
      go_ret2
      refine ⟨by rw [HS.out]; rfl, F2, st2, img2, k2, HT2.out, by have := HML.out; omega, HKP2.out, HG2.out, ⟨rfl, rfl⟩⟩
end
end Go.Proofs.YtfhapbggngdckaaGreat
