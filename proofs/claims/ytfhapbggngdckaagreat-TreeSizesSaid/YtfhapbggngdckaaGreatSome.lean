/- munimentlaw11.some; tree.Open, tree.Root. -/
import Derived.Test.YtfhapbggngdckaaGreatTreeA
namespace Go.Proofs.YtfhapbggngdckaaGreat
open Go.RowKit
/-- So many bytes, the first one of which tells them apart. -/
def someB (k : UInt8) (n : Nat) : Byt := k :: List.replicate (n - 1) (k / 2)
theorem someB_len (k : UInt8) {n : Nat} (hn : 1 ≤ n) : (someB k n).length = n := by simp [someB]; omega
theorem u8_half (k : UInt8) : (k / 2).toNat = k.toNat / 2 := by rw [UInt8.toNat_div]; rfl
theorem some_step (k : UInt8) {j : Nat} (hj : 1 ≤ j) : someB k j ++ [k / 2] = someB k (j + 1) := by
  unfold someB
  rw [show j + 1 - 1 = (j - 1) + 1 by omega, List.replicate_succ']
  simp
structure SAt (w : World) (k : UInt8) (j : Nat) (v : Value) (wr : World) : Prop where
  own : Own wr (From w.heap.size) 5 v ((someB k j).map u8)
  keep : Keep No w wr
theorem SAt.next {w wr w' : World} {k : UInt8} {j : Nat} {v v' : Value} {o : Obj} (h : SAt w k j v wr) (hj : 1 ≤ j) (ho : Own w' (fun b => From w.heap.size b ∨ (wr.alloc o).heap.size ≤ b) 5 v' ((someB k j).map u8 ++ [u8 (k / 2)])) (hk : Keep (fun b => v.ownBlock = some b) (wr.alloc o) w') : SAt w k (j + 1) v' w' := by
  have hs := h.keep.size
  have k1 := (Keep.refl No wr).alloc o
  have hs1 := k1.size
  refine ⟨?_, (h.keep.next k1 (fun _ e => e.elim)).next hk (fun b e => .inl ?_)⟩
  · have e : (someB k j).map u8 ++ [u8 (k / 2)] = (someB k (j + 1)).map u8 := by rw [← some_step k hj]; simp
    rw [e] at ho
    exact ho.more (fun b _ e => by
      rcases e with e | e
      · exact e
      · show _ ≤ _; omega)
  · exact (h.own.blk e).1
set_option maxRecDepth 20000 in
set_option maxHeartbeats 800000 in
theorem some_any (w : World) (k : UInt8) (n : Nat) (hn : 1 ≤ n) (hl : n ≤ 65536) :
    Calls Tryz.prog 31 #[.int .u8 k.toNat, .int .i64 n] w fun e w' => ∃ v, e = .returned v ∧ Own w' (From w.heap.size) 5 v ((someB k n).map u8) ∧ Keep No w w' := by
  have hmk := fun w => run_mk (P := Tryz.prog) etB w .i64 .i64 0 16 (by omega) (by omega) (by omega) (by omega)
  have hk0 := (Keep.refl No w).alloc (.cells (zs (.int .u8 0) 16).toArray 5)
  have hr0 := Row.new w 5 (zs (.int .u8 0) 16)
  have ho0 : Own (w.alloc (.cells (zs (.int .u8 0) 16).toArray 5)) (From w.heap.size) 5 (.slice (some ⟨w.heap.size, 0, none⟩) 0 16) [] := .inr ⟨_, zs (.int .u8 0) 16, by simp [zs], Nat.le_refl _, hr0, by simp [zs]⟩
  have hkl : (k.toNat : Int) < 256 := by have := k.toNat_lt; omega
  have hq : Int.tdiv ((k.toNat : Nat) : Int) 2 = (((k / 2).toNat : Nat) : Int) := by rw [Int.tdiv_eq_ediv_of_nonneg (by omega), u8_half]; omega
  have hw8 : IntKind.u8.wrap (((k / 2).toNat : Nat) : Int) = (((k / 2).toNat : Nat) : Int) := by have := (k / 2).toNat_lt; rw [IntWalk.u8_in _ (by omega)]
  have hkz : w.heap.size < (w.alloc (.cells (zs (.int .u8 0) 16).toArray 5)).heap.size := hr0.lt
  have HO := Lib.hid ho0
  have HK := Lib.hid hk0
  clear ho0 hk0 hr0
  go_enter Tryz.func31, Tryz.ntmps31
  go_upto_region 2 with fail
  clear hmk
  generalize w.alloc (.cells (zs (.int .u8 0) 16).toArray 5) = W at *
  go_upto_region 3 with (at_builtin; refine wpList_append rfl _ _ etB rfl rfl rfl (HO.out.keep ((Keep.refl No _).alloc _) (fun _ _ _ h => h)) ((Row.new _ 5 [.int .u8 k.toNat]).rs 1 rfl (by omega)) (cells1_u8 [k]) (by decide) (by simp) ?_; intro v1 w1 ho hk hb; have HO2 := Lib.hid ho; have HK2 := Lib.hid hk; clear ho hk hb)
  have H1 : Hid (SAt w k 1 v1 w1) := by
    refine ⟨HO2.out.more (fun b _ e => ?_), (HK.out.next ((Keep.refl No _).alloc _) (fun _ e => e.elim)).next HK2.out (fun b e => .inl (HO.out.blk e).1)⟩
    rcases e with e | e
    · exact e
    · have h1 := HK.out.size
      have h2 := ((Keep.refl No W).alloc (.cells #[.int .u8 k.toNat] 5)).size
      have e2 : (W.alloc (.cells #[.int .u8 k.toNat] 5)).heap.size ≤ b := e
      show _ ≤ _
      omega
  clear HO HK HO2 HK2
  go_upto_region 4 with fail
  go_loopw [5, 6] (fun u5 u6 wr => ∃ j : Nat, u6 = .int .i64 j ∧ 1 ≤ j ∧ j ≤ n ∧ Hid (SAt w k j u5 wr)) (fun _ u6 _ => n - (intOf u6).toNat)
  case atStart => exact ⟨1, rfl, Nat.le_refl _, hn, H1.out⟩
  case round =>
    obtain ⟨j, rfl, hj, hjn, HA⟩ := hrel
    by_cases hlt : j < n
    · have hjI : (j : Int) < (n : Int) := by omega
      have HLE : Hid ((((someB k j).map u8).length + [u8 (k / 2)].length) * 1 ≤ 140737488355328) := by
        show _ ≤ _
        rw [List.length_map, someB_len k hj]
        simp
        omega
      go_wp2_with (at_builtin; refine wpList_append rfl _ _ etB rfl rfl rfl (HA.out.own.keep ((Keep.refl No _).alloc _) (fun _ _ _ h => h)) ((Row.new _ 5 [.int .u8 ((k / 2).toNat : Nat)]).rs 1 rfl (by omega)) (cells1_u8 [k / 2]) (by decide) HLE.out ?_; intro v2 w2 ho hk hb; have HO3 := Lib.hid ho; have HK3 := Lib.hid hk; clear ho hk hb)
      go_roundw
      case rel => exact ⟨j + 1, by go_num, by omega, by omega, HA.out.next hj HO3.out HK3.out⟩
      case measure => simp [intOf]; omega
    · have hge : ¬ ((j : Int) < (n : Int)) := by omega
      have HJ : Hid (j = n) := by show _ = _; omega
      go_wp2_with fail
      go_ret
      exact ⟨_, rfl, by rw [← HJ.out]; exact HA.out.own, HA.out.keep⟩
set_option maxRecDepth 20000 in
set_option maxHeartbeats 400000 in
theorem topen_any (w : World) (pb : Nat) : Calls Tryz.prog 29 #[.pointer (some ⟨pb, 0, none⟩), .int .i64 (-1)] w fun e w' => e = .returned (.pointer (some ⟨w.heap.size, 0, none⟩)) ∧ Row w' w.heap.size 136 [.pointer (some ⟨pb, 0, none⟩), .int .i64 (-1)] ∧ Keep No w w' := by
  go_enter Tryz.func29, Tryz.ntmps29
  go_wp2_with fail
  go_ret
  exact ⟨rfl, Row.new _ _ _, (Keep.refl No w).alloc _⟩
set_option maxRecDepth 20000 in
set_option maxHeartbeats 400000 in
theorem troot_any (w : World) (tb : Nat) (pv : Value) (root : Int) (h : Row w tb 136 [pv, .int .i64 root]) : Calls Tryz.prog 38 #[.pointer (some ⟨tb, 0, none⟩)] w fun e w' => e = .returned (.int .i64 root) ∧ w' = w := by
  have hq : ∀ w : World, (binOp .eql 70 (.pointer (some ⟨tb, 0, none⟩)) (.pointer none)).run Tryz.prog w = .ok (.bool false) w := fun w => by kernel_rfl
  have c1 := h.cell 1
  simp only [List.getElem?_cons_zero, List.getElem?_cons_succ] at c1
  go_enter Tryz.func38, Tryz.ntmps38
  go_wp2_with fail
  go_ret
  exact ⟨rfl, rfl⟩
end Go.Proofs.YtfhapbggngdckaaGreat
