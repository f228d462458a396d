/- Trees: Open, Root, Pages. -/
import Derived.Test.YtfhapbggngdckaaGreatColl
import Derived.Test.YtfhapbggngdckaaGreatSort
namespace Go.Proofs.YtfhapbggngdckaaGreat
open Go.RowKit
section
variable {w w' : World} {F D : Nat → Prop} {tb pb mb : Nat} {root : Int} {st st' : List Int} {img img' : Nat → Byt} {k c h hgt : Nat} {lo hi : Option Byt} {m n : Nd} {kv vv iv kx vx : Value} {p : Nat} {ps qs : List Nat} {es : List Ent} {key val : Byt}
theorem has_root (htop : Top img root hgt ps es) (hne : ps ≠ []) : ∃ h p, hgt = h + 1 ∧ root = ((p : Nat) : Int) ∧ Rep img h false none none p ps es := by
  rcases htop with ⟨_, _, h, _⟩ | h
  · exact absurd h hne
  · exact h
theorem IRng.left_eq {b r : Nat} {M : List (Int × Value)} {done : List Int} (h : IRng w b r M done) : w.rangeLeft b r + done.length = M.length := by
  obtain ⟨⟨es, clock, since, seen, c0, h1, h2, h3, h4, h5, h6, h7, h8, left, h9, h10⟩⟩ := h
  simp only [World.rangeLeft, h1, h5]
  have e1 := congrArg List.length h9
  have e2 := h10.length_eq
  simp only [List.length_map, Array.length_toList, List.length_append] at e1 e2
  omega
/-- The keys met so far, in a slice of the call's own. -/
structure RAt (W : World) (mb : Nat) (m : List (Int × Value)) (v : Value) (wr : World) : Prop where
  it : ∃ done : List Int, IRng wr mb W.heap.size m done ∧ Own wr (fun b => W.heap.size < b) 3 v (done.map (Value.int .i64)) ∧ Keep No W wr
set_option maxRecDepth 20000 in
set_option maxHeartbeats 1000000 in
theorem tpages_any (ht : TrOK w F tb pb root st img k) (htop : Top img root hgt ps es) (hh : Has st ps) (hne : ps ≠ []) (hhg : hgt ≤ 20) (hpl : ps.length ≤ 65536) (hk : k < 1099511027000) :
    Calls Tryz.prog 58 #[.pointer (some ⟨tb, 0, none⟩)] w fun e w' => ∃ v, e = .returned (.tuple #[v, .int .i64 0]) ∧ TT w F tb pb root k (4 * ps.length) (fun w' F' st' img' => Same st img w' F' st' img' ∧ ∃ ys : List Int, ys.Perm (ps.map (fun q : Nat => (q : Int))) ∧ Own w' (fun b => w.heap.size ≤ b ∧ ¬ F' b) 3 v (ys.map (Value.int .i64))) w' := by
  obtain ⟨h, p, rfl, rfl, hrep⟩ := has_root htop hne
  have hmm := @run_makeMap Tryz.prog
  have hq : ∀ w : World, (binOp .eql 70 (.pointer (some ⟨tb, 0, none⟩)) (.pointer none)).run Tryz.prog w = .ok (.bool false) w := fun w => by kernel_rfl
  have c1 := ht.row.cell 1
  simp only [List.getElem?_cons_zero, List.getElem?_cons_succ] at c1
  have hFl : ∀ b, F b → b < w.heap.size := ht.pages.lt
  have HPL := Lib.hid hpl
  have HNE := Lib.hid hne
  have kx := (Keep.refl No w).alloc (.map #[] 0)
  have hm0 := IMap.new w
  have hX : w.heap.size < (w.alloc (.map #[] 0)).heap.size := hm0.lt
  have htX := ht.step kx
  have c1X := htX.row.cell 1
  simp only [List.getElem?_cons_zero, List.getElem?_cons_succ] at c1X
  have HC := Lib.hid (collect_any (mb := w.heap.size) h (w.alloc (.map #[] 0)) F k none none p ps [] es 1 htX hrep hh.use (by simpa using hh.nd) hm0 (fun f => by have := hFl _ f; omega) (by omega) (by omega) (by omega))
  have HKX := Lib.hid kx
  have HFL := Lib.hid hFl
  clear htX hm0 kx htop hrep hh ht hFl hpl
  go_enter Tryz.func58, Tryz.ntmps58
  go_upto_region 4 with fail
  clear hmm c1
  generalize w.alloc (.map #[] 0) = X at *
  go_upto_region 8 with (go_at_call 87; refine HC.out.mono ?_; rintro e w2 ⟨rfl, ht⟩; have HT2 := Lib.hid ht; clear ht)
  obtain ⟨⟨F2, st2, img2, k2, ht2, hk2, hkp2, hg2, ⟨rfl, rfl⟩, hm2, hF2⟩⟩ := HT2.out
  simp only [List.nil_append] at hm2
  have HTT : Hid (TT w F tb pb (p : Int) k (4 * ps.length) (fun w' F' st' img' => Same st2 img2 w' F' st' img' ∧ F' = F2) w2) := by
    refine ⟨F2, st2, img2, k2, ht2, hk2, (HKX.out.any F).next hkp2 (fun b e => ?_), fun b hb => ?_, ⟨rfl, rfl⟩, rfl⟩
    · rcases e with e | e
      · exact .inr e
      · exact .inl (by omega)
    · rcases hg2 b hb with e | e
      · exact .inl e
      · exact .inr (by omega)
  have HM2 := Lib.hid hm2
  have HLT2 : Hid (∀ b, F2 b → b < w2.heap.size) := ht2.pages.lt
  have HWS : Hid (w.heap.size ≤ w2.heap.size ∧ w.heap.size < w2.heap.size) := ⟨Nat.le_of_lt hm2.lt, hm2.lt⟩
  clear HT2 HC ht2 hk2 hkp2 hg2 hm2 hF2 hX c1X
  go_wp2_with (at_range; refine wpList_range_I rfl _ rfl Tryz.underlying178 rfl HM2.out ?_; intro w3 hrg hk3; have HR3 := Lib.hid hrg; have HK3 := Lib.hid hk3; clear hrg hk3)
  go_frame
  go_loopw [6] (fun u6 wr => Hid (RAt w2 w.heap.size (ps.map pr) u6 wr)) (fun _ wr => wr.rangeLeft w.heap.size w2.heap.size)
  case atStart => exact ⟨[], HR3.out, Own.nil _ _ _, HK3.out⟩
  case round =>
    obtain ⟨done, hrg, hown, hkr⟩ := hrel.out.it
    have HRG := Lib.hid hrg
    have HOW := Lib.hid hown
    have HKR := Lib.hid hkr
    have HDL : Hid (done.length ≤ 65536) := by
      have h1 := hrg.left_eq
      have h2 := HPL.out
      simp only [List.length_map] at h1
      show _ ≤ _
      omega
    clear hrel hrg hown hkr
    go_wp2_with (at_next; refine wpList_next_I rfl _ rfl rfl HRG.out ?_ ?_)
    · intro hp
      have hp2 : done.Perm (ps.map (fun q : Nat => (q : Int))) := by simpa [pr, Function.comp_def] using hp
      have hdn : done ≠ [] := fun e => by
        subst e
        have := hp2.length_eq
        simp only [List.length_nil, List.length_map] at this
        exact HNE.out (List.eq_nil_of_length_eq_zero this.symm)
      have HP := Lib.hid hp2
      have HS := Lib.hid (sort_any wr _ u6 done HOW.out hdn (by have := HDL.out; omega))
      obtain ⟨ao, ac, hu⟩ := HOW.out.form
      rw [List.length_map] at hu
      subst hu
      clear hp hp2 hdn
      go_wp2_with (go_at_call 88; refine HS.out.mono ?_; rintro e w5 ⟨rfl, hs⟩; have HS5 := Lib.hid hs; clear hs)
      go_ret2
      refine ⟨_, rfl, ?_⟩
      obtain ⟨ys, hy, ho5, hk5⟩ := HS5.out
      obtain ⟨⟨F3, st3, img3, k3, a1, a2, a3, a4, ⟨rfl, rfl⟩, rfl⟩⟩ := HTT.out
      have hk25 : Keep No w2 w5 := HKR.out.next hk5 (fun b e => .inl (Nat.le_of_lt (HOW.out.blk e).1))
      refine ⟨F3, st3, img3, k3, a1.step hk25, a2, a3.next hk25 (fun _ e => e.elim), a4, ⟨rfl, rfl⟩, ys, ?_, ho5.more (fun b _ e => ⟨by have := HWS.out.1; omega, fun f => by have := HLT2.out b f; omega⟩)⟩
      rw [hy]
      exact (List.mergeSort_perm _ _).trans HP.out
    · intro x v w4 hrg4 hk4 hen
      have HR4 := Lib.hid hrg4
      have HK4 := Lib.hid hk4
      have HO4 := Lib.hid (HOW.out.keep hk4 (fun b _ e f => by
        have := (HOW.out.blk e).1
        unfold Just at f
        omega))
      obtain ⟨ao, ac, hu⟩ := HOW.out.form
      rw [List.length_map] at hu
      subst hu
      have HL4 : Hid (((done.map (Value.int .i64)).length + [Value.int .i64 x].length) * 8 ≤ 140737488355328) := by
        have := HDL.out
        show _ ≤ _
        simp only [List.length_map, List.length_cons, List.length_nil]
        omega
      clear hrg4 hk4
      go_wp2_with (at_builtin; refine wpList_append rfl _ _ etI rfl rfl rfl (HO4.out.keep ((Keep.refl No _).alloc _) (fun _ _ _ h => h)) ((Row.new w4 3 [.int .i64 x]).rs 1 rfl (by omega)) (cells1_int .i64 [x]) (by decide) HL4.out ?_; intro v5 w5 ho5 hk5 hb5; have HO5 := Lib.hid ho5; have HK5 := Lib.hid hk5; clear ho5 hk5 hb5)
      have HKA : Hid (Keep (fun b => w2.heap.size < b) w4 w5) := ((Keep.refl _ w4).alloc _).trans (HK5.out.mono (G := fun b => w2.heap.size < b) (fun b _ e => (HO4.out.blk e).1)) (fun _ _ h => h)
      have HRN : Hid (IRng w5 w.heap.size w2.heap.size (ps.map pr) (done ++ [x])) := HR4.out.keep HKA.out (fun e => by have := HWS.out.2; omega) (fun e => by omega)
      go_roundw
      case rel =>
        have h2s : w2.heap.size < w4.heap.size := HR4.out.lt.1
        refine ⟨done ++ [x], HRN.out, ?_, ?_⟩
        · have := HO5.out
          rw [List.map_append]
          exact this.more (fun b _ e => by
            rcases e with e | e
            · exact e
            · simp at e; omega)
        · exact (HKR.out.next HK4.out (fun b e => .inl (by unfold Just at e; omega))).next HKA.out (fun b e => .inl (by omega))
      case measure =>
        have e1 := HRN.out.left_eq
        have e2 := HRG.out.left_eq
        simp only [List.length_append, List.length_cons, List.length_nil] at e1
        omega
end
end Go.Proofs.YtfhapbggngdckaaGreat
