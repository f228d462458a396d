/- Nodes: Size, shaped, Formed. -/
import Derived.Test.YtfhapbggngdckaaGreatNode
namespace Go.Proofs.YtfhapbggngdckaaGreat
open Go.RowKit
section
variable {w : World} {D : Nat → Prop} {kv vv iv : Value} {n : Nd}
theorem NdR.forms (h : NdR w D kv vv iv n) : ∃ ko kc vo vc io ic, kv = .slice ko n.keys.length kc ∧ vv = .slice vo n.vals.length vc ∧ iv = .slice io n.kids.length ic := by
  obtain ⟨ko, kc, rfl, lk, HK⟩ := h.keys.form
  obtain ⟨vo, vc, rfl, lv, HV⟩ := h.vals.form
  obtain ⟨io, ic, rfl, li, HI⟩ := h.kids.form
  exact ⟨ko, kc, vo, vc, io, ic, rfl, rfl, rfl⟩
set_option maxRecDepth 20000 in
set_option maxHeartbeats 800000 in
theorem size_nd (h : NdR w D kv vv iv n) (hf : n.Few) : Calls Tryz.prog 74 #[.agg #[.bool n.leaf, kv, vv, iv]] w fun e w' => e = .returned (.int .i64 n.size) ∧ Keep No w w' := by
  obtain ⟨ko, kc, vo, vc, io, ic, rfl, rfl, rfl⟩ := h.forms
  have H := Lib.hid h
  have HF := Lib.hid hf
  have hn := hf.keys
  have hb : n.base = if n.leaf then 3 else 7 := rfl
  have HB := Lib.hid hb
  clear h hf hb
  rcases hlf : n.leaf with _ | _
  all_goals
    have HL := Lib.hid hlf
    clear hlf
    go_enter Tryz.func74, Tryz.ntmps74
    go_wp2_with fail
    go_loopw [3, 11] (fun s i wr => ∃ j : Nat, j ≤ n.keys.length ∧ i = .int .i64 j ∧ s = .int .i64 (n.base + n.sum j : Nat) ∧ Hid (Keep No w wr) ∧ Hid (Row wr w.heap.size 144 [.bool n.leaf, .slice ko n.keys.length kc, .slice vo n.vals.length vc, .slice io n.kids.length ic])) (fun _ i _ => n.keys.length - (intOf i).toNat)
    case atStart =>
      refine ⟨0, Nat.zero_le _, rfl, ?_, (Keep.refl No w).alloc _, ?_⟩
      · rw [HB.out, HL.out]; rfl
      · rw [HL.out]; exact Row.new w _ [_, _, _, _]
    case round =>
      obtain ⟨j, hj, rfl, rfl, HK, HR⟩ := hrel
      have c0 := HR.out.cell 0
      have c1 := HR.out.cell 1
      have c2 := HR.out.cell 2
      have c3 := HR.out.cell 3
      simp only [List.getElem?_cons_zero, List.getElem?_cons_succ] at c0 c1 c2 c3
      have hs1 := HF.out.sum j
      have hs2 := HF.out.ent j
      have hb1 : n.base ≤ 7 := by unfold Nd.base; split <;> omega
      by_cases hlt : j < n.keys.length
      · have HE := Lib.hid (entry_any (H.out.keep HK.out (fun _ _ _ h => h)) HF.out j hlt)
        go_wp2_with (go_at_call 102; refine HE.out.mono ?_; rintro e w1 ⟨rfl, hk1⟩; have HK1 := Lib.hid hk1; clear hk1)
        go_roundw
        case rel => exact ⟨j + 1, by omega, by go_num, by rw [Nd.sum]; congr 1; omega, HK.out.trans HK1.out (fun _ _ h => h), HR.out.keep HK1.out (fun h => h)⟩
        case measure => simp [intOf]; omega
      · obtain rfl : j = n.keys.length := by omega
        go_wp2_with fail
        go_ret
        exact ⟨rfl, HK.out⟩
set_option maxRecDepth 20000 in
theorem shaped1_any (u : Value) (b : List UInt8) (h : BS w D u b) (hl : b.length ≤ 260) : Calls Tryz.prog 124 #[u] w fun e w' => e = .returned (.bool false) ∧ w' = w := by
  obtain ⟨uo, uc, rfl, lu, HU⟩ := h.form
  clear h
  have hd : decide ((260 : Int) < (b.length : Int)) = false := by simp; omega
  go_enter Tryz.func124, Tryz.ntmps124
  go_wp2_with fail
  go_ret
  exact ⟨rfl, rfl⟩
set_option maxRecDepth 20000 in
theorem shaped2_any (x : Int) (hl : 0 ≤ x ∧ x ≤ 2147483647) : Calls Tryz.prog 126 #[.int .i64 x] w fun e w' => e = .returned (.bool false) ∧ w' = w := by
  obtain ⟨h1, h2⟩ := hl
  have hd1 : decide (x < 0) = false := by simp; omega
  have hd2 : decide ((2147483647 : Int) < x) = false := by simp; omega
  go_enter Tryz.func126, Tryz.ntmps126
  go_wp2_with fail
  go_ret
  exact ⟨rfl, rfl⟩
set_option maxRecDepth 20000 in
set_option maxHeartbeats 400000 in
theorem containsFunc_BB {v : Value} {l : List (List UInt8)} (h : BBS w D v l) (hl : ∀ b ∈ l, b.length ≤ 260) : Calls Tryz.prog 123 #[v, .func (.func 124) #[] #[]] w fun e w' => e = .returned (.bool false) ∧ w' = w := by
  obtain ⟨ao, cap, rfl, hn, HC⟩ := h.form
  have HL := Lib.hid hl
  clear h hl
  have HI : Hid (Calls Tryz.prog 148 #[.slice ao l.length cap, .func (.func 124) #[] #[]] w fun e w' => e = .returned (.int .i64 (-1)) ∧ w' = w) := by
    unfold Hid
    go_enter Tryz.func148, Tryz.ntmps148
    go_wp2_with fail
    go_loop [8] (fun i => ∃ k : Nat, k ≤ l.length ∧ i = .int .i64 k) (fun i => l.length - (intOf i).toNat)
    case atStart => exact ⟨0, Nat.zero_le _, rfl⟩
    case round =>
      obtain ⟨k, hk, rfl⟩ := hrel
      by_cases hlt : k < l.length
      · obtain ⟨g, o, u, rfl, _, _, hc, hb⟩ := HC.out k hlt
        obtain ⟨uo, uc, rfl, lu, HU⟩ := hb.form
        have HB := Lib.hid hb
        clear hb
        go_wp2_with (go_at_call 124; refine (shaped1_any _ _ HB.out (HL.out _ (List.getElem_mem hlt))).mono ?_; rintro e w1 ⟨rfl, rfl⟩)
        go_round
        case rel => exact ⟨k + 1, by omega, by go_num⟩
        case measure => simp [intOf]; omega
      · go_wp2_with fail
        go_ret
        exact ⟨rfl, rfl⟩
  go_enter Tryz.func123, Tryz.ntmps123
  go_wp2_with (go_at_call 148; refine HI.out.mono ?_; rintro e w1 ⟨rfl, rfl⟩)
  go_ret
  exact ⟨rfl, rfl⟩
set_option maxRecDepth 20000 in
set_option maxHeartbeats 400000 in
theorem containsFunc_I {v : Value} {l : List Int} (h : IS w D v l) (hl : ∀ k ∈ l, 0 ≤ k ∧ k ≤ 2147483647) : Calls Tryz.prog 125 #[v, .func (.func 126) #[] #[]] w fun e w' => e = .returned (.bool false) ∧ w' = w := by
  obtain ⟨ao, cap, rfl, hn, HC⟩ := h.form
  have HL := Lib.hid hl
  clear h hl
  have HI : Hid (Calls Tryz.prog 149 #[.slice ao l.length cap, .func (.func 126) #[] #[]] w fun e w' => e = .returned (.int .i64 (-1)) ∧ w' = w) := by
    unfold Hid
    go_enter Tryz.func149, Tryz.ntmps149
    go_wp2_with fail
    go_loop [8] (fun i => ∃ k : Nat, k ≤ l.length ∧ i = .int .i64 k) (fun i => l.length - (intOf i).toNat)
    case atStart => exact ⟨0, Nat.zero_le _, rfl⟩
    case round =>
      obtain ⟨k, hk, rfl⟩ := hrel
      by_cases hlt : k < l.length
      · obtain ⟨g, o, rfl, _, _, hc⟩ := HC.out k hlt
        go_wp2_with (go_at_call 126; refine (shaped2_any _ (HL.out _ (List.getElem_mem hlt))).mono ?_; rintro e w1 ⟨rfl, rfl⟩)
        go_round
        case rel => exact ⟨k + 1, by omega, by go_num⟩
        case measure => simp [intOf]; omega
      · go_wp2_with fail
        go_ret
        exact ⟨rfl, rfl⟩
  go_enter Tryz.func125, Tryz.ntmps125
  go_wp2_with (go_at_call 149; refine HI.out.mono ?_; rintro e w1 ⟨rfl, rfl⟩)
  go_ret
  exact ⟨rfl, rfl⟩
set_option maxRecDepth 20000 in
set_option maxHeartbeats 800000 in
theorem shaped_any (h : NdR w D kv vv iv n) (hf : n.Few) (hs : n.Sh) : Calls Tryz.prog 103 #[.agg #[.bool n.leaf, kv, vv, iv]] w fun e w' => e = .returned (.bool true) ∧ Keep No w w' := by
  have HV := Lib.hid h.vals
  have HI := Lib.hid h.kids
  have HKB := Lib.hid h.keys
  obtain ⟨ko, kc, vo, vc, io, ic, rfl, rfl, rfl⟩ := h.forms
  have HF := Lib.hid hf
  have HS := Lib.hid hs
  have hn := hf.keys
  clear h hf hs
  go_enter Tryz.func103, Tryz.ntmps103
  go_wp2_with fail
  obtain ⟨W, hW⟩ : ∃ W, W = (w.alloc (.cells #[.bool n.leaf, .slice ko n.keys.length kc, .slice vo n.vals.length vc, .slice io n.kids.length ic] 144)) := ⟨_, rfl⟩
  have HR : Hid (Row W w.heap.size 144 [.bool n.leaf, .slice ko n.keys.length kc, .slice vo n.vals.length vc, .slice io n.kids.length ic]) := by rw [hW]; exact Row.new w _ [_, _, _, _]
  have HK : Hid (Keep No w W) := by rw [hW]; exact (Keep.refl No w).alloc _
  rw [← hW]
  clear hW
  have c0 := HR.out.cell 0
  have c1 := HR.out.cell 1
  have c2 := HR.out.cell 2
  have c3 := HR.out.cell 3
  simp only [List.getElem?_cons_zero, List.getElem?_cons_succ] at c0 c1 c2 c3
  obtain ⟨_, _, ek, _, HKC⟩ := (HKB.out.keep HK.out (fun _ _ _ h => h)).form
  simp only [Value.slice.injEq, true_and] at ek
  obtain ⟨rfl, rfl⟩ := ek
  go_loop [8] (fun i => ∃ j : Nat, j ≤ n.keys.length ∧ i = .int .i64 j) (fun i => n.keys.length - (intOf i).toNat)
  case atStart => exact ⟨0, Nat.zero_le _, rfl⟩
  case round =>
    obtain ⟨j, hj, rfl⟩ := hrel
    by_cases hlt : j < n.keys.length
    · obtain ⟨gk, ok, uk, rfl, _, hgk, ck, bk⟩ := HKC.out j hlt
      obtain ⟨uo, uc, rfl, lu, HU⟩ := bk.form
      have BK := Lib.hid bk
      have hl := HS.out.klen j hlt
      clear bk
      rcases j with _ | j
      · rw [Nat.add_zero] at ck
        go_wp2_with fail
        go_round
        case rel => exact ⟨1, by omega, by go_num⟩
        case measure => simp [intOf]; omega
      · obtain ⟨gk', ok', uk', e, _, hgk', ck', bk'⟩ := HKC.out j (by omega)
        have BK' := Lib.hid bk'
        clear bk'
        simp only [Option.some.injEq, Addr.mk.injEq, and_true] at e
        obtain ⟨rfl, rfl⟩ := e
        have HLT := Lib.hid (HS.out.rise j hlt)
        have hge : decide (0 ≤ cb n.keys[j] n.keys[j + 1]) = false := by
          simp only [decide_eq_false_iff_not]; rw [cb_nonneg]; exact fun h => h HLT.out
        have hsub : IntKind.i64.wrap (((j + 1 : Nat) : Int) - 1) = j := by rw [IntWalk.i64_in _ (by omega)]; omega
        go_wp2_with (go_at_call 62; refine (compare_B BK'.out BK.out).mono ?_; rintro e w1 ⟨rfl, rfl⟩)
        go_round
        case rel => exact ⟨j + 2, by omega, by go_num⟩
        case measure => simp [intOf]; omega
    · obtain rfl : j = n.keys.length := by omega
      rcases hlf : n.leaf with _ | _
      · have HL := Lib.hid (HS.out.inn hlf)
        have hb0 : ((n.vals.length : Int) == 0) = true := by simp [HL.out.1]
        have hw0 : IntKind.i64.wrap ((n.keys.length : Int) + 1) = (n.keys.length : Int) + 1 := IntWalk.i64_in _ (by omega)
        have hb1 : ((n.kids.length : Int) == (n.keys.length : Int) + 1) = true := by simp [HL.out.2.1]
        have HCI := Lib.hid (HI.out.keep HK.out (fun _ _ _ h => h))
        rw [hlf] at c0
        clear hlf
        go_wp2_with (go_at_call 125; refine (containsFunc_I HCI.out HL.out.2.2).mono ?_; rintro e w1 ⟨rfl, rfl⟩)
        go_ret
        exact ⟨rfl, HK.out⟩
      · have HL := Lib.hid (HS.out.lf hlf)
        have hb0 : ((n.vals.length : Int) == (n.keys.length : Int)) = true := by simp [HL.out.1]
        have hb1 : ((n.kids.length : Int) == 0) = true := by simp [HL.out.2.1]
        have HCI := Lib.hid (HV.out.keep HK.out (fun _ _ _ h => h))
        rw [hlf] at c0
        clear hlf
        go_wp2_with (go_at_call 123; refine (containsFunc_BB HCI.out HL.out.2.2).mono ?_; rintro e w1 ⟨rfl, rfl⟩)
        go_ret
        exact ⟨rfl, HK.out⟩
set_option maxRecDepth 20000 in
set_option maxHeartbeats 800000 in
theorem formed_any (h : NdR w D kv vv iv n) (hf : n.Few) (hs : n.Sh) : Calls Tryz.prog 110 #[.agg #[.bool n.leaf, kv, vv, iv]] w fun e w' => e = .returned (.bool (decide (n.size ≤ 1024))) ∧ Keep No w w' := by
  have H := Lib.hid h
  obtain ⟨ko, kc, vo, vc, io, ic, rfl, rfl, rfl⟩ := h.forms
  have HF := Lib.hid hf
  have HS := Lib.hid hs
  have hd : decide ((n.size : Int) ≤ 1024) = decide (n.size ≤ 1024) := by rw [Bool.eq_iff_iff]; simp; omega
  clear h hf hs
  go_enter Tryz.func110, Tryz.ntmps110
  go_upto_region 1 with fail
  obtain ⟨W, hW⟩ : ∃ W, W = (w.alloc (.cells #[.bool n.leaf, .slice ko n.keys.length kc, .slice vo n.vals.length vc, .slice io n.kids.length ic] 144)) := ⟨_, rfl⟩
  have HR : Hid (Row W w.heap.size 144 [.bool n.leaf, .slice ko n.keys.length kc, .slice vo n.vals.length vc, .slice io n.kids.length ic]) := by rw [hW]; exact Row.new w _ [_, _, _, _]
  have HK : Hid (Keep No w W) := by rw [hW]; exact (Keep.refl No w).alloc _
  rw [← hW]
  clear hW
  have HW := Lib.hid (H.out.keep HK.out (fun _ _ _ h => h))
  have c0 := HR.out.cell 0
  have c1 := HR.out.cell 1
  have c2 := HR.out.cell 2
  have c3 := HR.out.cell 3
  simp only [List.getElem?_cons_zero, List.getElem?_cons_succ] at c0 c1 c2 c3
  go_wp2_with (first
    | (go_at_call 103; refine (shaped_any HW.out HF.out HS.out).mono ?_; rintro e w1 ⟨rfl, hk1⟩; have HK1 := Lib.hid hk1; have r1 := HR.out.keep hk1 (fun h => h); have d0 := r1.cell 0; have d1 := r1.cell 1; have d2 := r1.cell 2; have d3 := r1.cell 3; simp only [List.getElem?_cons_zero, List.getElem?_cons_succ] at d0 d1 d2 d3; clear hk1 r1)
    | (go_at_call 74; refine (size_nd (HW.out.keep HK1.out (fun _ _ _ h => h)) HF.out).mono ?_; rintro e w2 ⟨rfl, hk2⟩; have HK2 := Lib.hid hk2; clear hk2))
  go_ret
  exact ⟨rfl, (HK.out.trans HK1.out (fun _ _ h => h)).trans HK2.out (fun _ _ h => h)⟩
end
end Go.Proofs.YtfhapbggngdckaaGreat
