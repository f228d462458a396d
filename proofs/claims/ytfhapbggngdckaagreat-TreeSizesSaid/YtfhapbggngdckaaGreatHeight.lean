/- Trees: Height, Need, room. -/
import Derived.Test.YtfhapbggngdckaaGreatPutB
namespace Go.Proofs.YtfhapbggngdckaaGreat
open Go.RowKit
/-- The tree is as it was. -/
def Same (st : List Int) (img : Nat → Byt) : World → (Nat → Prop) → List Int → (Nat → Byt) → Prop := fun _ _ st' img' => st' = st ∧ img' = img
/-- A tree's root: none, or that of a subtree that is so high; its pages, its entries. -/
def Top (img : Nat → Byt) (root : Int) (hgt : Nat) (ps : List Nat) (es : List Ent) : Prop :=
  (root = -1 ∧ hgt = 0 ∧ ps = [] ∧ es = []) ∨ ∃ h p, hgt = h + 1 ∧ root = ((p : Nat) : Int) ∧ Rep img h false none none p ps es
section
variable {w w' : World} {F D : Nat → Prop} {tb pb : Nat} {root : Int} {st st' : List Int} {img img' : Nat → Byt} {k c h hgt : Nat} {lo hi : Option Byt} {m n : Nd} {kv vv iv : Value} {p : Nat} {ps : List Nat} {es : List Ent} {key val : Byt}
/-- Nothing has been called yet. -/
theorem TT.refl (ht : TrOK w F tb pb root st img k) : TT w F tb pb root k 0 (Same st img) w := ⟨F, st, img, k, ht, by omega, Keep.refl _ _, fun _ h => .inl h, rfl, rfl⟩
theorem TT.same_step {w1 w2 : World} (t : TT w F tb pb root k c (Same st img) w1) (hk : Keep No w1 w2) : TT w F tb pb root k c (Same st img) w2 := by
  obtain ⟨⟨F1, st1, img1, k1, h1, h2, h3, h4, h5⟩⟩ := t
  exact ⟨F1, st1, img1, k1, h1.step hk, h2, h3.next hk (fun _ e => e.elim), h4, h5⟩
/-- Where Height stands. -/
structure HAt (w : World) (F : Nat → Prop) (tb pb : Nat) (root : Int) (st : List Int) (img : Nat → Byt) (k hgt j : Nat) (nn : Int) (wr : World) : Prop where
  tt : TT w F tb pb root k (4 * j) (Same st img) wr
  it : (j = hgt ∧ nn = -1) ∨ ∃ h' p' lo hi ps' es', j + h' + 1 = hgt ∧ nn = ((p' : Nat) : Int) ∧ Rep img h' false lo hi p' ps' es' ∧ ∀ q ∈ ps', st[q]? = some 2
set_option maxRecDepth 20000 in
set_option maxHeartbeats 2000000 in
theorem height_any (ht : TrOK w F tb pb root st img k) (htop : Top img root hgt ps es) (hh : Has st ps) (hhg : hgt ≤ 20) (hk : k < 1099511627000) :
    Calls Tryz.prog 101 #[.pointer (some ⟨tb, 0, none⟩)] w fun e w' => e = .returned (.tuple #[.int .i64 hgt, .int .i64 0]) ∧ TT w F tb pb root k (4 * hgt) (Same st img) w' := by
  have c1 := ht.row.cell 1
  simp only [List.getElem?_cons_zero, List.getElem?_cons_succ] at c1
  have HT := Lib.hid ht
  have hq : ∀ w : World, (binOp .eql 70 (.pointer (some ⟨tb, 0, none⟩)) (.pointer none)).run Tryz.prog w = .ok (.bool false) w := fun w => by kernel_rfl
  have H0 : Hid (HAt w F tb pb root st img k hgt 0 root w) := by
    refine ⟨TT.refl ht, ?_⟩
    rcases htop with ⟨h1, h2, h3, h4⟩ | ⟨h, p, h1, h2, h3⟩
    · exact .inl ⟨h2.symm, h1⟩
    · exact .inr ⟨h, p, _, _, ps, es, by omega, h2, h3, hh.use⟩
  clear ht htop hh
  go_enter Tryz.func101, Tryz.ntmps101
  go_upto_region 5 with fail
  go_loopw [4, 5] (fun u4 u5 wr => ∃ j : Nat, ∃ nn : Int, u4 = .int .i64 j ∧ u5 = .int .i64 nn ∧ j ≤ hgt ∧ Hid (HAt w F tb pb root st img k hgt j nn wr)) (fun u4 _ _ => hgt - (intOf u4).toNat)
  case atStart => exact ⟨0, root, rfl, rfl, Nat.zero_le _, H0.out⟩
  case round =>
    obtain ⟨j, nn, rfl, rfl, hj, HA⟩ := hrel
    rcases HA.out.it with ⟨h1, h2⟩ | ⟨h', p', lo, hi, ps', es', h1, h2, h3, h4⟩
    · subst h1; subst h2
      have HB := Lib.hid HA.out.tt
      clear HA
      go_wp2_with fail
      go_ret2
      exact ⟨rfl, HB.out⟩
    · subst h2
      obtain ⟨F1, st1, img1, k1, ht1, hk1, hkp1, hg1, rfl, rfl⟩ := HA.out.tt.ex
      obtain ⟨n, ps2, hn, hnr, rfl⟩ := h3.open
      have hp := h4 p' (by simp)
      have HRD := Lib.hid (read_any ht1 p' (.inr hp) hn ((j : Int) + 1) (by omega) (by omega))
      have HT1 := Lib.hid ht1
      have HKP := Lib.hid hkp1
      have HG := Lib.hid hg1
      have HNR := Lib.hid hnr
      have HN := Lib.hid hn
      have HU := Lib.hid h4
      have hne : ((p' : Int) == -1) = false := by simp
      have hq1 : IntKind.i64.wrap ((j : Int) + 1) = (j : Int) + 1 := IntWalk.i64_in _ (by omega)
      clear ht1 hkp1 hg1 hnr h3 h4 hn HA
      go_upto_region 9 with (go_at_call 55; refine HRD.out.mono ?_; rintro e w2 ⟨kv, vv, iv, rfl, ht⟩; obtain ⟨⟨F2, st2, img2, k2, ht2, hk2, hkp2, hg2, ⟨e1, e2⟩, hnd⟩⟩ := ht; obtain ⟨ko, kc, vo, vc, io, ic, rfl, rfl, rfl⟩ := hnd.forms; have HE1 := Lib.hid e1; have HE2 := Lib.hid e2; have HT2 := Lib.hid ht2; have HKP2 := Lib.hid hkp2; have HG2 := Lib.hid hg2; have HND := Lib.hid hnd; clear ht2 hkp2 hg2 hnd e1 e2)
      have hr2 := Row.new w2 144 [.bool n.leaf, .slice ko n.keys.length kc, .slice vo n.vals.length vc, .slice io n.kids.length ic]
      have kx2 := (Keep.refl No w2).alloc (.cells #[.bool n.leaf, .slice ko n.keys.length kc, .slice vo n.vals.length vc, .slice io n.kids.length ic] 144)
      generalize w2.alloc (.cells #[.bool n.leaf, .slice ko n.keys.length kc, .slice vo n.vals.length vc, .slice io n.kids.length ic] 144) = X at *
      have HTT : Hid (TT w F tb pb root k (4 * (j + 1)) (Same st1 img1) X) := by
        have h5 : TT wr F1 tb pb root k1 4 (Same st1 img1) X := ⟨F2, st2, img2, k2, HT2.out.step kx2, hk2, HKP2.out.next kx2 (fun _ e => e.elim), HG2.out, HE1.out, HE2.out⟩
        exact (TT.trans (c1 := 4 * j) HKP.out HG.out hk1 h5).mono (by omega) (fun _ _ _ _ _ h => h)
      have c0 := hr2.cell 0
      have c3 := hr2.cell 3
      simp only [List.getElem?_cons_zero, List.getElem?_cons_succ] at c0 c3
      have HKI := Lib.hid (HND.out.r.kids.keep kx2 (fun _ _ _ h => h))
      clear hr2 kx2
      cases h' with
      | zero =>
        have hlf := HNR.out.1
        rw [hlf] at c0
        clear hlf
        go_wp2_with fail
        go_roundw
        case rel => exact ⟨j + 1, -1, by go_num, rfl, by omega, HTT.out, .inl ⟨by omega, rfl⟩⟩
        case measure => simp [intOf]; omega
      | succ h' =>
        have hlf := HNR.out.1
        rw [hlf] at c0
        clear hlf
        obtain ⟨a, b', pk, K1, K2, C1, C2, P1, pq, P2, E1, ek, E2, hc⟩ := HNR.out.2.2.2.split 0 (Nat.zero_le _)
        have hC1 : C1 = [] := List.eq_nil_of_length_eq_zero hc.cl
        have hkids : n.kids = (pk : Int) :: C2 := by rw [hc.kids, hC1]; rfl
        have hlen : 0 < n.kids.length := by rw [hkids]; simp
        obtain ⟨io2, ic2, e1, _, HIS⟩ := IS.form (l := n.kids) HKI.out
        simp only [Value.slice.injEq, true_and] at e1
        obtain ⟨rfl, rfl⟩ := e1
        obtain ⟨g, o, rfl, _, _, hci⟩ := HIS.out 0 hlen
        have hk0 : n.kids[0] = (pk : Int) := by simp [hkids]
        rw [hk0, Nat.add_zero] at hci
        have HC := Lib.hid hc
        have hl0 : (0 : Int) < (n.kids.length : Int) := by omega
        clear hc hkids hC1 hk0 HIS
        go_wp2_with fail
        go_roundw
        case rel => exact ⟨j + 1, pk, by go_num, rfl, by omega, HTT.out, .inr ⟨h', pk, _, _, pq, ek, by omega, rfl, HC.out.it, fun q hq => HU.out q (by rw [HC.out.ps]; simp [hq])⟩⟩
        case measure => simp [intOf]; omega
set_option maxRecDepth 20000 in
set_option maxHeartbeats 2000000 in
theorem need_any (ht : TrOK w F tb pb root st img k) (htop : Top img root hgt ps es) (hh : Has st ps) (hhg : hgt ≤ 20) (hk : k < 1099511627000) :
    Calls Tryz.prog 72 #[.pointer (some ⟨tb, 0, none⟩)] w fun e w' => e = .returned (.tuple #[.int .i64 (2 * hgt + 3 : Nat), .int .i64 0]) ∧ TT w F tb pb root k (4 * hgt) (Same st img) w' := by
  have HH := Lib.hid (height_any ht htop hh hhg hk)
  have hq1 : IntKind.i64.wrap (2 * (hgt : Int)) = 2 * (hgt : Int) := IntWalk.i64_in _ (by omega)
  have hq2 : IntKind.i64.wrap (2 * (hgt : Int) + 3) = 2 * (hgt : Int) + 3 := IntWalk.i64_in _ (by omega)
  clear ht htop hh
  go_enter Tryz.func72, Tryz.ntmps72
  go_wp2_with (go_at_call 101; refine HH.out.mono ?_; rintro e w2 ⟨rfl, ht⟩; have HT := Lib.hid ht; clear ht)
  go_ret2
  exact ⟨by congr 4, HT.out⟩
set_option maxRecDepth 20000 in
set_option maxHeartbeats 2000000 in
theorem troom_any (ht : TrOK w F tb pb root st img k) (htop : Top img root hgt ps es) (hh : Has st ps) (hhg : hgt ≤ 20) (hroom : 2 * hgt + 3 ≤ roomOf st) (hk : k < 1099511627000) :
    Calls Tryz.prog 50 #[.pointer (some ⟨tb, 0, none⟩)] w fun e w' => e = .returned (.int .i64 0) ∧ TT w F tb pb root k (4 * hgt) (Same st img) w' := by
  have HH := Lib.hid (need_any ht htop hh hhg hk)
  have hd : decide ((roomOf st : Int) < ((2 * hgt + 3 : Nat) : Int)) = false := by simp; omega
  clear ht htop hh
  go_enter Tryz.func50, Tryz.ntmps50
  go_upto_region 2 with (go_at_call 72; refine HH.out.mono ?_; rintro e w2 ⟨rfl, ht⟩; obtain ⟨⟨F2, st2, img2, k2, ht2, hk2, hkp2, hg2, e1, e2⟩⟩ := id ht; subst e1; have HT := Lib.hid ht; have HRM := Lib.hid (room_any ht2.pages); have c0 := ht2.row.cell 0; simp only [List.getElem?_cons_zero] at c0; clear ht ht2 hkp2 hg2 e2)
  go_wp2_with (go_at_call 73; refine HRM.out.mono ?_; rintro e w3 ⟨rfl, rfl⟩)
  go_ret
  exact ⟨rfl, HT.out⟩
end
end Go.Proofs.YtfhapbggngdckaaGreat
