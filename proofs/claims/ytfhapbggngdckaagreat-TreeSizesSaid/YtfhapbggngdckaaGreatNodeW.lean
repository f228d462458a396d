/- Nodes: Write. -/
import Derived.Test.YtfhapbggngdckaaGreatBuf
namespace Go.Proofs.YtfhapbggngdckaaGreat
set_option linter.unusedSimpArgs false
set_option linter.unusedVariables false
open Go.RowKit
def Nd.key (n : Nd) (i : Nat) : List UInt8 := n.keys.getD i []
def Nd.val (n : Nd) (i : Nat) : List UInt8 := n.vals.getD i []
def Nd.kid (n : Nd) (i : Nat) : Nat := (n.kids.getD i 0).toNat
def Nd.head (n : Nd) : List UInt8 := (if n.leaf then 1 else 2) :: (enc16 n.keys.length ++ (if n.leaf then [] else enc32 (n.kid 0)))
def Nd.encE (n : Nd) (i : Nat) : List UInt8 :=
  if n.leaf then UInt8.ofNat (n.key i).length :: (enc16 (n.val i).length ++ (n.key i ++ n.val i)) else UInt8.ofNat (n.key i).length :: (n.key i ++ enc32 (n.kid (i + 1)))
def Nd.encN (n : Nd) : Nat → List UInt8
  | 0 => n.head
  | i + 1 => n.encN i ++ n.encE i
def Nd.enc (n : Nd) : List UInt8 := n.encN n.keys.length
def Nd.page (n : Nd) : List UInt8 := pad n.enc
theorem len16 (x : Nat) : (enc16 x).length = 2 := rfl
theorem len32 (x : Nat) : (enc32 x).length = 4 := rfl
theorem Nd.length_head (n : Nd) : n.head.length = n.base := by
  unfold Nd.head Nd.base
  split <;> simp [len16, len32]
theorem Nd.length_encE (n : Nd) (i : Nat) : (n.encE i).length = n.ent i := by
  unfold Nd.encE Nd.ent Nd.klen Nd.vlen Nd.key Nd.val
  split <;> simp [len16, len32] <;> omega
theorem Nd.length_encN (n : Nd) : ∀ i, (n.encN i).length = n.base + n.sum i
  | 0 => n.length_head
  | i + 1 => by rw [Nd.encN, List.length_append, n.length_encN i, n.length_encE, Nd.sum]; omega
theorem Nd.length_enc (n : Nd) : n.enc.length = n.size := n.length_encN _
theorem Nd.sum_mono (n : Nd) {i j : Nat} (h : i ≤ j) : n.sum i ≤ n.sum j := by
  induction h with
  | refl => exact Nat.le_refl _
  | step _ ih => exact Nat.le_trans ih (by rw [Nd.sum]; omega)
section
variable {w : World} {D : Nat → Prop} {kv vv iv : Value} {n : Nd}
set_option maxRecDepth 20000 in
set_option maxHeartbeats 1600000 in
theorem write_nd (h : NdR w D kv vv iv n) (hf : n.Few) (hs : n.Sh) (hsz : n.size ≤ 1024) : Calls Tryz.prog 78 #[.agg #[.bool n.leaf, kv, vv, iv]] w fun e w' => ∃ v, e = .returned (.tuple #[v, .int .i64 0]) ∧ Keep No w w' ∧ Own w' (From w.heap.size) 5 v (n.page.map u8) := by
  have H := Lib.hid (h.more (D' := fun b => b < w.heap.size) (fun b hb _ => hb))
  obtain ⟨ko, kc, vo, vc, io, ic, rfl, rfl, rfl⟩ := h.forms
  have HF := Lib.hid hf
  have HS := Lib.hid hs
  have HZ := Lib.hid hsz
  have hn := hf.keys
  have hmk := fun w => run_mk (P := Tryz.prog) etB w .i64 .i64 0 1024 (by omega) (by omega) (by omega) (by omega)
  clear h hf hs hsz
  go_enter Tryz.func78, Tryz.ntmps78
  go_upto_region 1 with fail
  obtain ⟨W, hW⟩ : ∃ W, W = (w.alloc (.cells #[.bool n.leaf, .slice ko n.keys.length kc, .slice vo n.vals.length vc, .slice io n.kids.length ic] 144)) := ⟨_, rfl⟩
  have HR : Hid (Row W w.heap.size 144 [.bool n.leaf, .slice ko n.keys.length kc, .slice vo n.vals.length vc, .slice io n.kids.length ic]) := by rw [hW]; exact Row.new w _ [_, _, _, _]
  have HK : Hid (Keep No w W) := by rw [hW]; exact (Keep.refl No w).alloc _
  rw [← hW]
  clear hW
  have HW := Lib.hid (H.out.keep HK.out (fun _ _ _ h => h))
  have c0 := HR.out.cell 0
  have c1 := HR.out.cell 1
  have c2 := HR.out.cell 2
  have c3 := HR.out.cell 3
  simp only [List.getElem?_cons_zero, List.getElem?_cons_succ] at c0 c1 c2 c3
  have HDZ : Hid (decide (n.size ≤ 1024) = true) := decide_eq_true HZ.out
  go_upto_region 3 with (go_at_call 110; refine (formed_any HW.out HF.out HS.out).mono ?_; rw [HDZ.out]; rintro e w1 ⟨rfl, hk1⟩; have HK1 := Lib.hid hk1; clear hk1)
  obtain ⟨w2, hw2⟩ : ∃ w2, w2 = w1.alloc (.cells (zs (.int .u8 0) 1024).toArray 5) := ⟨_, rfl⟩
  have hk2 : Keep No w1 w2 := by rw [hw2]; exact (Keep.refl No w1).alloc _
  have HB0 : Hid (Buf w2 w1.heap.size []) := by
    refine ⟨?_, by simp⟩
    have := Row.new w1 5 (zs (.int .u8 0) 1024)
    rw [← hw2, zs_u8] at this
    simpa [pad] using this
  have HG : Hid (w.heap.size < w1.heap.size) := by
    have := HK1.out.size
    have := HR.out.lt
    show _ < _
    omega
  have HR2 := Lib.hid ((HR.out.keep HK1.out (fun h => h)).keep hk2 (fun h => h))
  have HK2 := Lib.hid ((HK.out.trans HK1.out (fun _ _ h => h)).trans hk2 (fun _ _ h => h))
  have hmk1 := hmk w1
  simp only [Int.toNat_zero, show Int.toNat 1024 = 1024 from rfl] at hmk1
  rw [← hw2] at hmk1
  have HG2 : Hid (w1.heap.size < w2.heap.size) := by rw [hw2]; simp [Hid]
  clear c0 c1 c2 c3 hmk hk2 hw2
  have c0 := HR2.out.cell 0
  have c1 := HR2.out.cell 1
  have c2 := HR2.out.cell 2
  have c3 := HR2.out.cell 3
  simp only [List.getElem?_cons_zero, List.getElem?_cons_succ] at c0 c1 c2 c3
  generalize hg : w1.heap.size = g at *
  clear hg
  have hhead := Lib.hid n.length_head
  rcases hlf : n.leaf with _ | _
  · obtain ⟨w3, hrun, hb3, hk3⟩ := buf_lits HB0.out [2] [.int .u8 2] rfl (by simp)
    have HRUN := Lib.hid hrun
    have HB3 := Lib.hid hb3
    have HK3 := Lib.hid hk3
    rw [hlf] at c0
    clear hrun hb3 hk3
    have NJ : Hid (¬ Just g w.heap.size) := fun e => by have := HG.out; unfold Just at e; omega
    have NK : Hid (∀ i, i < w.heap.size → Just g i → No i) := fun i hi e => by have := HG.out; unfold Just at e; omega
    have r3 := HR2.out.keep HK3.out NJ.out
    have d0 := r3.cell 0
    have d1 := r3.cell 1
    simp only [List.getElem?_cons_zero, List.getElem?_cons_succ] at d0 d1
    have HR3 := Lib.hid r3
    clear r3
    have HKL := Lib.hid (HS.out.inn hlf).2.1
    obtain ⟨_, _, ei, _, HI0⟩ := H.out.kids.form
    simp only [Value.slice.injEq, true_and] at ei
    obtain ⟨rfl, rfl⟩ := ei
    obtain ⟨gi, oi, rfl, hgiw, _, ci⟩ := HI0.out 0 (by have := HKL.out; omega)
    have hkb : ∀ i (h : i < n.kids.length), n.kids[i] = ((n.kid i : Nat) : Int) ∧ n.kid i ≤ 2147483647 := fun i h => by
      have := (HS.out.inn hlf).2.2 _ (List.getElem_mem h)
      unfold Nd.kid
      rw [List.getD_eq_getElem?_getD, List.getElem?_eq_getElem h]
      simp only [Option.getD_some]
      omega
    have HKB := Lib.hid hkb
    clear hkb
    have hk0 := (HKB.out 0 (by have := HKL.out; omega)).1
    have hk0l : 0 < n.kids.length := by have := HKL.out; omega
    have hk0b := (HKB.out 0 (by have := HKL.out; omega)).2
    rw [hk0, Nat.add_zero] at ci
    clear hk0
    have ngi : Hid (¬ Just g gi) := fun e => by have := HG.out; have : gi < w.heap.size := hgiw; unfold Just at e; omega
    have ci2 := (HK2.out.cell (p := ⟨gi, oi, none⟩) hgiw (fun h => h)).trans ci
    have lgi2 : Hid (gi < w2.heap.size) := Nat.lt_of_lt_of_le hgiw HK2.out.size
    have ci3 := (HK3.out.cell (p := ⟨gi, oi, none⟩) lgi2.out ngi.out).trans ci2
    have lgi3 : Hid (gi < w3.heap.size) := Nat.lt_of_lt_of_le lgi2.out HK3.out.size
    clear ci ci2
    go_wp2_with (first
      | (at_builtin; refine wpList_append_eq rfl _ _ rfl rfl rfl (HRUN.out _) ?_)
      | (go_at_call 111; refine (append16_any HB3.out n.keys.length (by omega) (by simp)).mono ?_; rintro e w4 ⟨rfl, hb4, hk4⟩; have HB4 := Lib.hid hb4; have HK4 := Lib.hid hk4; have r4 := HR3.out.keep hk4 NJ.out; have e0 := r4.cell 0; have e3 := r4.cell 3; have HR4 := Lib.hid r4; have ci4 := (hk4.cell (p := ⟨gi, oi, none⟩) lgi3.out ngi.out).trans ci3; simp only [List.getElem?_cons_zero, List.getElem?_cons_succ] at e0 e3; clear hb4 hk4 r4)
      | (go_at_call 112; refine (append32_any HB4.out (n.kid 0) (by omega) (by simp [len16])).mono ?_; rintro e w5 ⟨rfl, hb5, hk5⟩; have HB5 := Lib.hid hb5; have HK5 := Lib.hid hk5; have r5 := HR4.out.keep hk5 NJ.out; have f0 := r5.cell 0; have f1 := r5.cell 1; have HR5 := Lib.hid r5; simp only [List.getElem?_cons_zero, List.getElem?_cons_succ] at f0 f1; clear hb5 hk5 r5))
    have HBS : Hid (n.base = 7) := by unfold Hid Nd.base; rw [hlf]; rfl
    have HKW := Lib.hid (((HK2.out.trans HK3.out NK.out).trans HK4.out NK.out).trans HK5.out NK.out)
    go_loopw [4, 38] (fun b i wr => ∃ j : Nat, j ≤ n.keys.length ∧ i = .int .i64 j ∧ b = .slice (some ⟨g, 0, none⟩) (7 + n.sum j) 1024 ∧ Hid (Buf wr g (n.encN j)) ∧ Hid (Keep No w wr) ∧ Hid (Row wr w.heap.size 144 [.bool false, .slice ko n.keys.length kc, .slice vo n.vals.length vc, .slice (some ⟨gi, oi, none⟩) n.kids.length ic])) (fun _ i _ => n.keys.length - (intOf i).toNat)
    case atStart =>
      refine ⟨0, Nat.zero_le _, rfl, rfl, ?_, HKW.out, ?_⟩
      · have := HB5.out
        unfold Hid Nd.encN Nd.head
        rw [hlf]
        simpa using this
      · have := HR5.out
        rw [hlf] at this
        exact this
    case round =>
      obtain ⟨j, hj, rfl, rfl, HBJ, HKJ, HRJ⟩ := hrel
      have f0 := HRJ.out.cell 0
      have f1 := HRJ.out.cell 1
      have f2 := HRJ.out.cell 3
      simp only [List.getElem?_cons_zero, List.getElem?_cons_succ] at f0 f1 f2
      have hlj := n.length_encN j
      rw [HBS.out] at hlj
      by_cases hlt : j < n.keys.length
      · have hnj := HKJ.out
        have HNJ := H.out.keep hnj (fun _ _ _ h => h)
        obtain ⟨_, _, ek, _, HKC⟩ := HNJ.keys.form
        simp only [Value.slice.injEq, true_and] at ek
        obtain ⟨rfl, rfl⟩ := ek
        clear HNJ
        obtain ⟨gk, ok, uk, rfl, dk, hgk, ck, bk⟩ := HKC.out j hlt
        have hiv : j + 1 < n.kids.length := by rw [HKL.out]; omega
        obtain ⟨gv, ov, ev, dv, hgv, cv⟩ := HI0.out (j + 1) hiv
        simp only [Option.some.injEq, Addr.mk.injEq, and_true] at ev
        obtain ⟨rfl, rfl⟩ := ev
        rw [(HKB.out (j + 1) hiv).1] at cv
        have hkjb := (HKB.out (j + 1) hiv).2
        have cvr := (hnj.cell (p := ⟨gi, oi + (j + 1), none⟩) dv (fun h => h)).trans cv
        have hgvr : gi < wr.heap.size := Nat.lt_of_lt_of_le dv hnj.size
        clear cv hgv hnj
        obtain ⟨uo, uc, rfl, lu, HU⟩ := bk.form
        have BK := Lib.hid bk
        have hl1 := (HS.out.klen j hlt).2
        have hent : n.ent j = 5 + n.keys[j].length := by
          unfold Nd.ent Nd.klen
          rw [hlf, List.getD_eq_getElem?_getD, List.getElem?_eq_getElem hlt]; rfl
        have henc : n.encN (j + 1) = n.encN j ++ [UInt8.ofNat n.keys[j].length] ++ n.keys[j] ++ enc32 (n.kid (j + 1)) := by
          rw [Nd.encN]
          unfold Nd.encE Nd.key
          rw [hlf, List.getD_eq_getElem?_getD, List.getElem?_eq_getElem hlt]
          simp
        have HENC := Lib.hid henc
        have HENT := Lib.hid hent
        clear henc hent
        have hfit : 7 + n.sum j + (5 + n.keys[j].length) ≤ 1024 := by
          have h1 := n.sum_mono (show j + 1 ≤ n.keys.length by omega)
          have h2 := HZ.out
          unfold Nd.size at h2
          rw [HBS.out] at h2
          rw [Nd.sum] at h1
          have := HENT.out
          omega
        obtain ⟨w5, hrun5, hb5, hk5⟩ := buf_lits HBJ.out [UInt8.ofNat n.keys[j].length] [.int .u8 n.keys[j].length] (by simp only [List.map_cons, List.map_nil, u8of]; congr 2; omega) (by rw [hlj]; simp; omega)
        rw [hlj] at hrun5
        have HRUN5 := Lib.hid hrun5
        have HB5 := Lib.hid hb5
        have r5 := HRJ.out.keep hk5 NJ.out
        have g0 := r5.cell 0
        have g2 := r5.cell 3
        simp only [List.getElem?_cons_zero, List.getElem?_cons_succ] at g0 g2
        have cv5 := (hk5.cell (p := ⟨gi, oi + (j + 1), none⟩) hgvr ngi.out).trans cvr
        have lv5 := Lib.hid (Nat.lt_of_lt_of_le hgvr hk5.size)
        clear hb5 hrun5 r5
        have HK5 := Lib.hid hk5
        have HFIT := Lib.hid hfit
        have HLJ := Lib.hid hlj
        clear hk5 hlj
        have hwj : IntKind.i64.wrap ((j : Int) + 1) = ((j + 1 : Nat) : Int) := by rw [IntWalk.i64_in _ (by omega)]; omega
        have hwk : IntKind.u32.wrap ((n.kid (j + 1) : Nat) : Int) = ((n.kid (j + 1) : Nat) : Int) := by simp [IntKind.wrap, IntKind.bits, IntKind.signed]; omega
        have hjx : (0 : Int) ≤ (j : Int) + 1 := by omega
        have hjy : (j : Int) + 1 < (n.kids.length : Int) := by omega
        have BK5 : Hid (BS w5 (fun b => b < w.heap.size) (.slice uo n.keys[j].length uc) n.keys[j]) := BK.out.keep HK5.out (fun b _ hb e => by have := HG.out; unfold Just at e; omega)
        have HL5 : Hid (7 + n.sum j + 1 = (n.encN j ++ [UInt8.ofNat n.keys[j].length]).length) := by
          unfold Hid; simp only [List.length_append, HLJ.out, List.length_cons, List.length_nil]
        have HL7 : Hid ((n.encN j ++ [UInt8.ofNat n.keys[j].length] ++ n.keys[j]).length = 7 + n.sum j + 1 + n.keys[j].length) := by
          unfold Hid; rw [List.length_append, ← HL5.out]
        go_upto_region 17 with (at_builtin; refine wpList_append_eq rfl _ _ rfl rfl rfl (HRUN5.out _) ?_)
        go_region_law (first
          | (refine step_buf (g := g) (n := 7 + n.sum j + 1) (u := .slice uo n.keys[j].length uc) (b := n.encN j ++ [UInt8.ofNat n.keys[j].length]) (more := n.keys[j]) (D := fun b => b < w.heap.size) rfl (.tmp 69) (.tmp 70) rfl (by simp [Act.eval, Act.put]) (by simp [Act.eval, Act.put]) (by first | exact HB5.out.drewN 1 | exact HB5.out.drewN 2 | exact HB5.out.drewN 3) HL5.out (by first | exact BK5.out.drewN 1 | exact BK5.out.drewN 2 | exact BK5.out.drewN 3) (by omega) ?_; intro w7 hb7 hk7; have HB7 := Lib.hid hb7; have HK7 : Hid (Keep (Just g) w5 w7) := ⟨hk7.os, hk7.tape, hk7.output, hk7.size, hk7.block⟩; have r7 := (HRJ.out.keep HK5.out NJ.out).keep HK7.out NJ.out; have j2 := r7.cell 3; simp only [List.getElem?_cons_zero, List.getElem?_cons_succ] at j2; have cv7 := (HK7.out.cell (p := ⟨gi, oi + (j + 1), none⟩) lv5.out ngi.out).trans cv5; clear hb7 hk7 r7)
          | (go_simp; go_at_call 112; (first | (have hq32 := append32_any HB7.out (n.kid (j + 1)) (by omega) (by rw [HL7.out]; omega); rw [HL7.out] at hq32; refine hq32.mono ?_; clear hq32) | (have hq32 := append32_any (HB7.out.drewN 1) (n.kid (j + 1)) (by omega) (by rw [HL7.out]; omega); rw [HL7.out] at hq32; refine hq32.mono ?_; clear hq32)); rintro e w8 ⟨rfl, hb8, hk8⟩; have HB8 := Lib.hid hb8; have HK8 : Hid (Keep (Just g) w7 w8) := ⟨hk8.os, hk8.tape, hk8.output, hk8.size, hk8.block⟩; clear hb8 hk8))
        all_goals
          go_wp2_with fail
          go_roundw
          case rel => exact ⟨j + 1, by omega, by go_num, by congr 1; have := HENT.out; rw [Nd.sum]; omega, by rw [HENC.out]; first | exact HB8.out | exact HB8.out.drewN 1 | exact HB8.out.drewN 2 | exact HB8.out.drewN 3, (by have := ((HKJ.out.trans HK5.out NK.out).trans HK7.out NK.out).trans HK8.out NK.out; exact ⟨this.os, this.tape, this.output, this.size, this.block⟩), (((HRJ.out.keep HK5.out NJ.out).keep HK7.out NJ.out).keep HK8.out NJ.out : _)⟩
          case measure => simp [intOf]; omega
      · obtain rfl : j = n.keys.length := by omega
        have hrow := HBJ.out.row
        have hsl := run_slice_lh_at (P := Tryz.prog) etB g 0 (7 + n.sum n.keys.length) 1024 0 1024 0 1024 rfl rfl (by omega) (by omega) (by omega) wr
        go_wp2_with fail
        go_ret2
        exact ⟨_, rfl, HKJ.out, HBJ.out.own (by have := HG.out; omega)⟩
  · obtain ⟨w3, hrun, hb3, hk3⟩ := buf_lits HB0.out [1] [.int .u8 1] rfl (by simp)
    have HRUN := Lib.hid hrun
    have HB3 := Lib.hid hb3
    have HK3 := Lib.hid hk3
    rw [hlf] at c0
    clear hrun hb3 hk3
    have NJ : Hid (¬ Just g w.heap.size) := fun e => by have := HG.out; unfold Just at e; omega
    have NK : Hid (∀ i, i < w.heap.size → Just g i → No i) := fun i hi e => by have := HG.out; unfold Just at e; omega
    have r3 := HR2.out.keep HK3.out NJ.out
    have d0 := r3.cell 0
    have d1 := r3.cell 1
    simp only [List.getElem?_cons_zero, List.getElem?_cons_succ] at d0 d1
    have HR3 := Lib.hid r3
    clear r3
    go_wp2_with (first
      | (at_builtin; refine wpList_append_eq rfl _ _ rfl rfl rfl (HRUN.out _) ?_)
      | (go_at_call 111; refine (append16_any HB3.out n.keys.length (by omega) (by simp)).mono ?_; rintro e w4 ⟨rfl, hb4, hk4⟩; have HB4 := Lib.hid hb4; have HK4 := Lib.hid hk4; have r4 := HR3.out.keep hk4 NJ.out; have e0 := r4.cell 0; have e1 := r4.cell 1; have HR4 := Lib.hid r4; simp only [List.getElem?_cons_zero, List.getElem?_cons_succ] at e0 e1; clear hb4 hk4 r4))
    have HBS : Hid (n.base = 3) := by unfold Hid Nd.base; rw [hlf]; rfl
    have HKW := Lib.hid ((HK2.out.trans HK3.out NK.out).trans HK4.out NK.out)
    go_loopw [4, 38] (fun b i wr => ∃ j : Nat, j ≤ n.keys.length ∧ i = .int .i64 j ∧ b = .slice (some ⟨g, 0, none⟩) (3 + n.sum j) 1024 ∧ Hid (Buf wr g (n.encN j)) ∧ Hid (Keep No w wr) ∧ Hid (Row wr w.heap.size 144 [.bool true, .slice ko n.keys.length kc, .slice vo n.vals.length vc, .slice io n.kids.length ic])) (fun _ i _ => n.keys.length - (intOf i).toNat)
    case atStart =>
      refine ⟨0, Nat.zero_le _, rfl, rfl, ?_, HKW.out, ?_⟩
      · have := HB4.out
        unfold Hid Nd.encN Nd.head
        rw [hlf]
        simpa using this
      · have := HR4.out
        rw [hlf] at this
        exact this
    case round =>
      obtain ⟨j, hj, rfl, rfl, HBJ, HKJ, HRJ⟩ := hrel
      have f0 := HRJ.out.cell 0
      have f1 := HRJ.out.cell 1
      have f2 := HRJ.out.cell 2
      simp only [List.getElem?_cons_zero, List.getElem?_cons_succ] at f0 f1 f2
      have hlj := n.length_encN j
      rw [HBS.out] at hlj
      by_cases hlt : j < n.keys.length
      · have hnj := HKJ.out
        have HNJ := H.out.keep hnj (fun _ _ _ h => h)
        obtain ⟨_, _, ek, _, HKC⟩ := HNJ.keys.form
        simp only [Value.slice.injEq, true_and] at ek
        obtain ⟨rfl, rfl⟩ := ek
        obtain ⟨_, _, ev, _, HVC⟩ := HNJ.vals.form
        simp only [Value.slice.injEq, true_and] at ev
        obtain ⟨rfl, rfl⟩ := ev
        clear HNJ hnj
        obtain ⟨gk, ok, uk, rfl, dk, hgk, ck, bk⟩ := HKC.out j hlt
        have hiv : j < n.vals.length := by rw [(HS.out.lf hlf).1]; exact hlt
        obtain ⟨gv, ov, uv, rfl, dv, hgv, cv, bv⟩ := HVC.out j hiv
        obtain ⟨uo, uc, rfl, lu, HU⟩ := bk.form
        obtain ⟨xo, xc, rfl, lx, HX⟩ := bv.form
        have BK := Lib.hid bk
        have BV := Lib.hid bv
        have hl1 := (HS.out.klen j hlt).2
        have hl2 : n.vals[j].length ≤ 260 := (HS.out.lf hlf).2.2 _ (List.getElem_mem hiv)
        have hent : n.ent j = 3 + n.keys[j].length + n.vals[j].length := by
          unfold Nd.ent Nd.klen Nd.vlen
          rw [hlf, if_pos rfl, List.getD_eq_getElem?_getD, List.getElem?_eq_getElem hlt, List.getD_eq_getElem?_getD, List.getElem?_eq_getElem hiv]; rfl
        have henc : n.encN (j + 1) = n.encN j ++ [UInt8.ofNat n.keys[j].length] ++ enc16 n.vals[j].length ++ n.keys[j] ++ n.vals[j] := by
          rw [Nd.encN]
          unfold Nd.encE Nd.key Nd.val
          rw [hlf, if_pos rfl, List.getD_eq_getElem?_getD, List.getElem?_eq_getElem hlt, List.getD_eq_getElem?_getD, List.getElem?_eq_getElem hiv]
          simp
        have HENC := Lib.hid henc
        have HENT := Lib.hid hent
        clear henc hent
        have hfit : 3 + n.sum j + (3 + n.keys[j].length + n.vals[j].length) ≤ 1024 := by
          have h1 := n.sum_mono (show j + 1 ≤ n.keys.length by omega)
          have h2 := HZ.out
          unfold Nd.size at h2
          rw [HBS.out] at h2
          rw [Nd.sum] at h1
          have := HENT.out
          omega
        obtain ⟨w5, hrun5, hb5, hk5⟩ := buf_lits HBJ.out [UInt8.ofNat n.keys[j].length] [.int .u8 n.keys[j].length] (by simp only [List.map_cons, List.map_nil, u8of]; congr 2; omega) (by rw [hlj]; simp; omega)
        rw [hlj] at hrun5
        have HRUN5 := Lib.hid hrun5
        have HB5 := Lib.hid hb5
        have r5 := HRJ.out.keep hk5 NJ.out
        have g0 := r5.cell 0
        have g2 := r5.cell 2
        simp only [List.getElem?_cons_zero, List.getElem?_cons_succ] at g0 g2
        have ngv : Hid (¬ Just g gv) := fun e => by have := HG.out; have : gv < w.heap.size := dv; unfold Just at e; omega
        have cv5 := (hk5.cell (p := ⟨gv, ov + j, none⟩) hgv ngv.out).trans cv
        have lv5 := Lib.hid (Nat.lt_of_lt_of_le hgv hk5.size)
        clear hb5 hrun5 r5
        have HK5 := Lib.hid hk5
        have HFIT := Lib.hid hfit
        have HLJ := Lib.hid hlj
        clear hk5 hlj
        go_upto_region 16 with (first
          | (at_builtin; refine wpList_append_eq rfl _ _ rfl rfl rfl (HRUN5.out _) ?_)
          | (go_at_call 111; have hq16 := append16_any HB5.out n.vals[j].length (by omega) (by rw [List.length_append, HLJ.out]; simp; omega); rw [List.length_append, HLJ.out] at hq16; refine hq16.mono ?_; clear hq16; rintro e w6 ⟨rfl, hb6, hk6⟩; have HB6 := Lib.hid hb6; have HK6 := Lib.hid hk6; have r6 := (HRJ.out.keep HK5.out NJ.out).keep hk6 NJ.out; have i2 := r6.cell 2; have HR6 := Lib.hid r6; have cv6 := (hk6.cell (p := ⟨gv, ov + j, none⟩) lv5.out ngv.out).trans cv5; simp only [List.getElem?_cons_zero, List.getElem?_cons_succ] at i2; clear hb6 hk6 r6))
        have BK6 : Hid (BS w6 (fun b => b < w.heap.size) (.slice uo n.keys[j].length uc) n.keys[j]) := (BK.out.keep HK5.out (fun b _ hb e => by have := HG.out; unfold Just at e; omega)).keep HK6.out (fun b _ hb e => by have := HG.out; unfold Just at e; omega)
        have BV6 : Hid (BS w6 (fun b => b < w.heap.size) (.slice xo n.vals[j].length xc) n.vals[j]) := (BV.out.keep HK5.out (fun b _ hb e => by have := HG.out; unfold Just at e; omega)).keep HK6.out (fun b _ hb e => by have := HG.out; unfold Just at e; omega)
        have HL6 : Hid (3 + n.sum j + 1 + 2 = (n.encN j ++ [UInt8.ofNat n.keys[j].length] ++ enc16 n.vals[j].length).length) := by
          unfold Hid; simp only [List.length_append, HLJ.out, len16, List.length_cons, List.length_nil]
        have lv6 : Hid (gv < w6.heap.size) := Nat.lt_of_lt_of_le lv5.out HK6.out.size
        go_region_law (first
          | (refine step_buf (g := g) (n := 3 + n.sum j + 1 + 2) (u := .slice uo n.keys[j].length uc) (b := n.encN j ++ [UInt8.ofNat n.keys[j].length] ++ enc16 n.vals[j].length) (more := n.keys[j]) (D := fun b => b < w.heap.size) rfl (.tmp 60) (.tmp 61) rfl (by simp [Act.eval, Act.put]) (by simp [Act.eval, Act.put]) (by first | exact HB6.out.drewN 1 | exact HB6.out.drewN 2 | exact HB6.out.drewN 3) HL6.out (by first | exact BK6.out.drewN 1 | exact BK6.out.drewN 2 | exact BK6.out.drewN 3) (by omega) ?_; intro w7 hb7 hk7; have HB7 := Lib.hid hb7; have HK7 : Hid (Keep (Just g) w6 w7) := ⟨hk7.os, hk7.tape, hk7.output, hk7.size, hk7.block⟩; have r7 := HR6.out.keep HK7.out NJ.out; have j2 := r7.cell 2; simp only [List.getElem?_cons_zero, List.getElem?_cons_succ] at j2; have cv7 := (HK7.out.cell (p := ⟨gv, ov + j, none⟩) lv6.out ngv.out).trans cv6; have BV7 := Lib.hid (BV6.out.keep HK7.out (fun b _ hb e => by have := HG.out; unfold Just at e; omega)); clear hb7 hk7 r7)
          | (refine step_buf (g := g) (n := 3 + n.sum j + 1 + 2 + n.keys[j].length) (u := .slice xo n.vals[j].length xc) (b := n.encN j ++ [UInt8.ofNat n.keys[j].length] ++ enc16 n.vals[j].length ++ n.keys[j]) (more := n.vals[j]) (D := fun b => b < w.heap.size) rfl (.tmp 62) (.tmp 67) rfl (by simp [Act.eval, Act.put]) (by simp [Act.eval, Act.put]) (by first | exact HB7.out | exact HB7.out.drewN 1 | exact HB7.out.drewN 2 | exact HB7.out.drewN 3) (by rw [List.length_append, ← HL6.out]) (by first | exact BV7.out | exact BV7.out.drewN 1 | exact BV7.out.drewN 2 | exact BV7.out.drewN 3) (by omega) ?_; intro w8 hb8 hk8; have HB8 := Lib.hid hb8; have HK8 : Hid (Keep (Just g) w7 w8) := ⟨hk8.os, hk8.tape, hk8.output, hk8.size, hk8.block⟩; clear hb8 hk8))
        all_goals
          go_wp2_with fail
          go_roundw
          case rel => exact ⟨j + 1, by omega, by go_num, by congr 1; have := HENT.out; rw [Nd.sum]; omega, by rw [HENC.out]; first | exact HB8.out | exact HB8.out.drewN 1 | exact HB8.out.drewN 2 | exact HB8.out.drewN 3, (by have := (((HKJ.out.trans HK5.out NK.out).trans HK6.out NK.out).trans HK7.out NK.out).trans HK8.out NK.out; exact ⟨this.os, this.tape, this.output, this.size, this.block⟩), ((HR6.out.keep HK7.out NJ.out).keep HK8.out NJ.out : _)⟩
          case measure => simp [intOf]; omega
      · obtain rfl : j = n.keys.length := by omega
        have hrow := HBJ.out.row
        have hsl := run_slice_lh_at (P := Tryz.prog) etB g 0 (3 + n.sum n.keys.length) 1024 0 1024 0 1024 rfl rfl (by omega) (by omega) (by omega) wr
        go_wp2_with fail
        go_ret2
        exact ⟨_, rfl, HKJ.out, HBJ.out.own (by have := HG.out; omega)⟩
end
end Go.Proofs.YtfhapbggngdckaaGreat
