/- slices.Insert(s, i, x) at []int, [][]byte: on a slice that the call owns. -/
import Derived.Test.YtfhapbggngdckaaGreatDelete
import Derived.Lib.Overlaps
import Derived.Lib.AppendZerosOnto
namespace Go.Proofs.YtfhapbggngdckaaGreat
open Go.RowKit

theorem size_int (w : World) : (Go.sizeOf 3).run Tryz.prog w = .ok 1 w := by kernel_rfl
theorem size_B (w : World) : (Go.sizeOf 23).run Tryz.prog w = .ok 1 w := by kernel_rfl

/-- A copy into a row that is known whole, from a readable slice. -/
theorem run_copy_into {P : Program} {t e : TypeId} {z : Value} {bytes : Nat} (E : ET P t e z bytes) (w : World) (D : Nat → Prop) (ty T : TypeId) (g o dn dc : Nat) (u : Value) (cur ys : List Value) (m : Nat) (hg : Row w g T cur) (hr : RS w D u ys)
    (hm : m = min ys.length dn) (hfit : o + m ≤ cur.length) (h1 : Cells1 (ys.take m)) :
    (Builtin.copy_ #[t, t] ty #[.slice (some ⟨g, o, none⟩) dn dc, u]).run P w = .ok (.int .i64 m) (w.setRow g (cur.take o ++ (ys.take m ++ cur.drop (o + m))).toArray) := by
  obtain ⟨i, hi, hz, hs, hby⟩ := E.hi
  obtain ⟨ao, cap, rfl, hcap, hcm, hcell⟩ := hr
  have hlt : (ys.take m).length = m := by simp; omega
  rcases Nat.eq_zero_or_pos ys.length with h0 | h0
  · have hm0 : m = 0 := by omega
    subst hm0
    have := run_copy_none (P := P) w t t ty e (some ⟨g, o, none⟩) ao dn dc ys.length cap E.ht (by simp [hi, hs]) (by rw [h0]; exact Nat.zero_min dn)
    rw [this]
    have hrow := setRow_self w g cur.toArray T (0, 0) hg
    simp only [List.take_zero, List.nil_append, Nat.add_zero, List.take_append_drop]
    rw [hrow]; rfl
  · obtain ⟨b, p, rfl, _, _, hc⟩ := hcell h0
    have := run_copy_row (P := P) w t t ty e g o dn dc ⟨b, p, none⟩ ys.length cap cur.toArray T (ys.take m) E.ht (by simp [hi, hs]) hg (by rw [hlt, hm]) (fun j v hv => by
      have hj : j < m := by have := (List.getElem?_eq_some_iff.1 hv).1; omega
      rw [List.getElem?_take_of_lt hj] at hv
      rw [Addr.add_lit, hc j (by omega), hv]) (by simp [hlt]; omega) h1
    rw [this, hlt]
    simp [goInt]

set_option maxHeartbeats 400000 in
/-- Two slices in two blocks do not overlap. -/
theorem overlaps_I (w : World) (g vb o n c : Nat) (x : Value) (cs : List Value) (hv : Row w vb 3 [x]) (hg : Row w g 3 cs) (hne : vb ≠ g) (hcs : cs ≠ []) :
    (callFunc 108 #[.slice (some ⟨vb, 0, none⟩) 1 1, .slice (some ⟨g, o, none⟩) n c]).run Tryz.prog w = .ok (.value (.bool false)) w := by
  have he : Extern.find Tryz.f108 = some (Extern.SlicesOverlaps.overlaps #[62, 62] #[4]) := by kernel_rfl
  rw [run_callFunc_extern Tryz.func108 (by kernel_rfl) (by kernel_rfl) (by kernel_rfl) he]
  rw [Lib.run_overlaps_apart w _ _ 3 Tryz.underlying62 1 size_int ⟨vb, 0, none⟩ ⟨g, o, none⟩ 1 1 n c hne 3 3 1 cs.length hv.shape hg.shape (fun h => hcs (List.eq_nil_of_length_eq_zero h)) (hv.frozen 0) (hv.frozen 1)]
  rfl

set_option maxRecDepth 20000 in
set_option maxHeartbeats 400000 in
/-- i is the end. -/
theorem insertEnd_I (w : World) (B : Nat → Prop) (v : Value) (xs : List Value) (x : Value) (vb : Nat) (h : Own w B 3 v xs) (hx : x.oneCell' = true) (hv : Row w vb 3 [x]) (hl : xs.length ≤ 1099511627776) :
    Calls Tryz.prog 77 #[v, .int .i64 xs.length, .slice (some ⟨vb, 0, none⟩) 1 1] w fun e w' =>
      ∃ v', e = .returned v' ∧ Own w' (fun k => B k ∨ w.heap.size ≤ k) 3 v' (xs ++ [x]) ∧ Keep (fun k => v.ownBlock = some k) w w' ∧ (v'.ownBlock = v.ownBlock ∨ ∃ k, v'.ownBlock = some k ∧ w.heap.size ≤ k) := by
  have hR : RS w (Just vb) (.slice (some ⟨vb, 0, none⟩) 1 1) [x] := ⟨_, 1, rfl, by simp, by omega, fun _ => ⟨vb, 0, rfl, rfl, hv.lt, fun i hi => by rw [Nat.zero_add, hv.cell]⟩⟩
  have h1 : Cells1 [x] := by intro u hu; simp at hu; subst hu; exact hx
  obtain ⟨ao, cap, hvf⟩ : ∃ ao cap, v = .slice ao xs.length cap := by
    rcases h with ⟨rfl, rfl⟩ | ⟨g, rest, rfl, _⟩
    · exact ⟨_, _, rfl⟩
    · exact ⟨_, _, rfl⟩
  subst hvf
  obtain ⟨S, hS⟩ : ∃ S : Value, ∀ w : World, (Instr.slice 62 (.slice ao xs.length cap) (some (.int .i64 xs.length)) none none).run Tryz.prog w = .ok S w := ⟨_, fun w => run_slice_lo etI ao xs.length cap xs.length (Nat.le_refl _) w⟩
  have HO := Lib.hid h
  have HH1 := Lib.hid h1
  have HRR := Lib.hid hR
  clear h h1 hR hv hx
  go_enter Tryz.func77, Tryz.ntmps77
  go_wp2_with (at_builtin; refine wpList_append (v := .slice ao xs.length cap) rfl _ _ etI rfl rfl rfl HO.out HRR.out HH1.out (by decide) (by simp; omega) ?_; intro v' w' ho hk hb; have HO2 := Lib.hid ho; have HK := Lib.hid hk; have HB := Lib.hid hb; clear ho hk hb)
  go_ret
  refine ⟨_, rfl, HO2.out, HK.out, ?_⟩
  rcases HB.out with h | h
  · exact .inl h
  · exact .inr ⟨_, h, Nat.le_refl _⟩

set_option maxRecDepth 20000 in
set_option maxHeartbeats 800000 in
/-- There is room: in place. -/
theorem insertRoom_I (w : World) (B : Nat → Prop) (g i vb : Nat) (xs rest : List Value) (r0 x : Value) (hB : B g) (hr : Row w g 3 (xs ++ (r0 :: rest))) (h1 : Cells1 xs) (hx : x.oneCell' = true) (hv : Row w vb 3 [x]) (hne : vb ≠ g)
    (hi : i < xs.length) (hm : xs.length + (rest.length + 1) ≤ 9223372036854775807) :
    Calls Tryz.prog 77 #[.slice (some ⟨g, 0, none⟩) xs.length (xs.length + (rest.length + 1)), .int .i64 i, .slice (some ⟨vb, 0, none⟩) 1 1] w fun e w' =>
      ∃ v', e = .returned v' ∧ Own w' B 3 v' (xs.take i ++ (x :: xs.drop i)) ∧ Keep (Just g) w w' ∧ v'.ownBlock = some g := by
  obtain ⟨S, hS⟩ : ∃ S : Value, ∀ w : World, (Instr.slice 62 (.slice (some ⟨g, 0, none⟩) xs.length (xs.length + (rest.length + 1))) (some (.int .i64 i)) none none).run Tryz.prog w = .ok S w := ⟨_, fun w => run_slice_lo etI _ xs.length _ i (by omega) w⟩
  have ov : ∀ n c, (callFunc 108 #[.slice (some ⟨vb, 0, none⟩) 1 1, .slice (some ⟨g, i + 1, none⟩) n c]).run Tryz.prog w = .ok (.value (.bool false)) w := fun n c => overlaps_I w g vb (i + 1) n c x _ hv hr hne (by simp)
  have s1 : ∀ w : World, (Instr.slice 62 (.slice (some ⟨g, 0, none⟩) (xs.length + 1) (xs.length + (rest.length + 1))) (some (.int .i64 ((i : Int) + 1))) none none).run Tryz.prog w = .ok (.slice (some ⟨g, i + 1, none⟩) (xs.length - i) (xs.length + (rest.length + 1) - (i + 1))) w := fun w => by
    rw [run_slice_at etI g 0 _ _ (i + 1) _ (by omega) (by omega) (by omega) w, Nat.zero_add, show xs.length + 1 - (i + 1) = xs.length - i by omega]
  have s2 : ∀ w : World, (Instr.slice 62 (.slice (some ⟨g, 0, none⟩) (xs.length + 1) (xs.length + (rest.length + 1))) (some (.int .i64 i)) none none).run Tryz.prog w = .ok (.slice (some ⟨g, i, none⟩) (xs.length + 1 - i) (xs.length + (rest.length + 1) - i)) w := fun w => by
    rw [run_slice_at etI g 0 _ _ i _ rfl (by omega) (by omega) w, Nat.zero_add]
  obtain ⟨R1, hR1⟩ : ∃ R1, R1 = xs.take (i + 1) ++ (xs.drop i ++ rest) := ⟨_, rfl⟩
  obtain ⟨R2, hR2⟩ : ∃ R2, R2 = xs.take i ++ ([x] ++ (xs.drop i ++ rest)) := ⟨_, rfl⟩
  have hd1 : (xs.drop i).length = xs.length - i := by simp
  have c1 : (Builtin.copy_ #[62, 62] 3 #[.slice (some ⟨g, i + 1, none⟩) (xs.length - i) (xs.length + (rest.length + 1) - (i + 1)), .slice (some ⟨g, i, none⟩) (xs.length + 1 - i) (xs.length + (rest.length + 1) - i)]).run Tryz.prog w.drew =
      .ok (.int .i64 ((xs.length - i : Nat) : Int)) (w.drew.setRow g R1.toArray) := by
    have hl : (xs.drop i ++ [r0]).length = xs.length + 1 - i := by simp; omega
    have ht : (xs.drop i ++ [r0]).take (xs.length - i) = xs.drop i := by rw [← hd1, List.take_left]
    have hrs : RS w.drew (Just g) (.slice (some ⟨g, i, none⟩) (xs.length + 1 - i) (xs.length + (rest.length + 1) - i)) (xs.drop i ++ [r0]) := by
      refine ⟨_, _, by rw [hl], by rw [hl]; omega, by omega, fun _ => ⟨g, i, rfl, rfl, hr.lt, fun j hj => ?_⟩⟩
      rw [hl] at hj
      rw [World.cell?_drew, hr.cell]
      rcases Nat.lt_or_ge (i + j) xs.length with h | h
      · rw [List.getElem?_append_left h, List.getElem?_append_left (by rw [hd1]; omega), List.getElem?_drop]
      · rw [List.getElem?_append_right h, List.getElem?_append_right (by rw [hd1]; omega), hd1, show i + j - xs.length = 0 by omega, show j - (xs.length - i) = 0 by omega]; rfl
    have := run_copy_into etI w.drew (Just g) 3 3 g (i + 1) (xs.length - i) (xs.length + (rest.length + 1) - (i + 1)) _ _ (xs.drop i ++ [r0]) (xs.length - i) hr.drew hrs (by rw [hl]; omega) (by simp; omega) (by rw [ht]; exact cells1_drop h1 i)
    rw [this, hR1, ht]
    congr 3
    have ed : (xs ++ r0 :: rest).drop (i + 1 + (xs.length - i)) = rest := by
      rw [show xs ++ r0 :: rest = (xs ++ [r0]) ++ rest by simp, List.drop_left' (by simp; omega)]
    rw [List.take_append_of_le_length (by omega), ed]
  have c2 : (Builtin.copy_ #[62, 62] 3 #[.slice (some ⟨g, i, none⟩) (xs.length + 1 - i) (xs.length + (rest.length + 1) - i), .slice (some ⟨vb, 0, none⟩) 1 1]).run Tryz.prog (w.drew.setRow g R1.toArray) =
      .ok (.int .i64 1) (w.drew.setRow g R2.toArray) := by
    have hR : Row (w.drew.setRow g R1.toArray) g 3 R1 := hr.drew.setRow R1
    have hV : Row (w.drew.setRow g R1.toArray) vb 3 [x] := hv.drew.farRow hne R1.toArray
    have hrs : RS (w.drew.setRow g R1.toArray) (Just vb) (.slice (some ⟨vb, 0, none⟩) 1 1) [x] := ⟨_, 1, rfl, by simp, by omega, fun _ => ⟨vb, 0, rfl, rfl, hV.lt, fun i hi => by rw [Nat.zero_add, hV.cell]⟩⟩
    have hx1 : Cells1 [x] := by intro u hu; simp at hu; subst hu; exact hx
    have := run_copy_into etI _ (Just vb) 3 3 g i (xs.length + 1 - i) (xs.length + (rest.length + 1) - i) _ _ [x] 1 hR hrs (by simp; omega) (by rw [hR1]; simp; omega) hx1
    rw [this, setRow_setRow, hR2, hR1]
    have et : (xs.take (i + 1) ++ (xs.drop i ++ rest)).take i = xs.take i := by rw [List.take_append_of_le_length (by simp; omega), List.take_take, Nat.min_eq_left (by omega)]
    have ed : (xs.take (i + 1) ++ (xs.drop i ++ rest)).drop (i + 1) = xs.drop i ++ rest := by rw [List.drop_left' (by simp; omega)]
    rw [et, ed]; rfl
  have HB := Lib.hid hB
  have HR := Lib.hid hr
  have H1 := Lib.hid h1
  have HV := Lib.hid hv
  have C1 := Lib.hid c1
  have E1 := Lib.hid hR1
  have E2 := Lib.hid hR2
  clear c1 hR1 hR2 hd1
  have wq : IntKind.i64.wrap ((i : Int) + 1) = (i : Int) + 1 := IntWalk.i64_in _ (by omega)
  have hne1 : ((i : Int) == (xs.length : Int)) = false := by simp; omega
  clear hB hr h1 hv
  go_enter Tryz.func77, Tryz.ntmps77
  go_wp2_with fail
  go_still_tail 8, (by kernel_rfl)
  change wpList _ _ _ _ _ w.drew
  refine wpList_copy_eq rfl _ _ rfl rfl rfl C1.out ?_
  go_wp2_with fail
  go_ret
  refine ⟨_, rfl, .inr ⟨g, rest, ?_, HB.out, ?_, ?_⟩, ((Keep.refl (Just g) _).drew.setRow (fun _ => rfl) _), rfl⟩
  · have e : (xs.take i ++ x :: xs.drop i).length = xs.length + 1 := by simp; omega
    rw [e, show xs.length + 1 + rest.length = xs.length + (rest.length + 1) by omega]
    rfl
  · have := HR.out.drew.setRow R2
    rw [E2.out] at this ⊢
    simpa using this
  · simp; omega

set_option maxRecDepth 20000 in
set_option maxHeartbeats 800000 in
/-- There is no room: a new row. -/
theorem insertGrow_I (w : World) (g i vb : Nat) (xs : List Value) (x : Value) (hr : Row w g 3 xs) (h1 : Cells1 xs) (hx : x.oneCell' = true) (hv : Row w vb 3 [x])
    (hi : i < xs.length) (hm : xs.length ≤ 1099511627776) :
    Calls Tryz.prog 77 #[.slice (some ⟨g, 0, none⟩) xs.length xs.length, .int .i64 i, .slice (some ⟨vb, 0, none⟩) 1 1] w fun e w' =>
      ∃ v', e = .returned v' ∧ Own w' (From w.heap.size) 3 v' (xs.take i ++ (x :: xs.drop i)) ∧ Keep No w w' ∧ v'.ownBlock = some w.heap.size := by
  have s0 : ∀ w : World, (Instr.slice 62 (.slice (some ⟨g, 0, none⟩) xs.length xs.length) (some (.int .i64 i)) none none).run Tryz.prog w = .ok (.slice (some ⟨g, i, none⟩) (xs.length - i) (xs.length - i)) w := fun w => by
    rw [run_slice_at etI g 0 _ _ i _ rfl (by omega) (by omega) w, Nat.zero_add]
  obtain ⟨it, hit, hz, hs, hby⟩ := etI.hi
  obtain ⟨cap, hcap⟩ : ∃ cap, cap = grownCap w (xs.length + 1) xs.length 3 := ⟨_, rfl⟩
  have hcap1 : xs.length + 1 ≤ cap := by rw [hcap]; exact grownCap_ge _ _ _ _
  have hcap2 : cap ≤ 9223372036854775807 := by rw [hcap]; exact grownCap_le_maxLen _ _ _ _ (by simp [maxLen]; omega)
  obtain ⟨Z, hZ⟩ : ∃ Z, Z = xs.take i ++ (zs (.int .i64 0) (xs.length + 1 - i) ++ zs (.int .i64 0) (cap - (xs.length + 1))) := ⟨_, rfl⟩
  have ha : (Builtin.append_ #[62, 3] 62 #[.slice (some ⟨g, 0, none⟩) i xs.length, .int .i64 ((xs.length : Int) + 1 - i)]).run Tryz.prog w = .ok (.slice (some ⟨w.heap.size, 0, none⟩) (xs.length + 1) cap) (w.drew.alloc (.cells Z.toArray 3)) := by
    have hzc : ∀ n, Builtin.zeroCells (Value.int .i64 0).cells n = (zs (.int .i64 0) n).toArray := by
      intro n
      apply Array.ext'
      apply List.ext_getElem?
      intro j
      simp only [Builtin.zeroCells, etI.hz, zs]
      simp [List.getElem?_replicate]
      split <;> simp_all [Nat.mod_one]
    have hf : (Builtin.firstCells it.size i (.slice (some ⟨g, 0, none⟩) i xs.length)).run Tryz.prog w.drew = .ok (xs.take i).toArray w.drew := by
      rw [hs]
      refine run_first (D := Just g) i ⟨_, xs.length, by simp [Nat.min_eq_left (Nat.le_of_lt hi)], by simp; omega, by omega, fun _ => ⟨g, 0, rfl, rfl, hr.lt, fun j hj => ?_⟩⟩ (by simp; omega)
      simp at hj
      rw [Nat.zero_add, World.cell?_drew, hr.cell, List.getElem?_take_of_lt (by omega)]
    have hk : ((xs.length : Int) + 1 - i) = ((xs.length + 1 - i : Nat) : Int) := by omega
    rw [hk, Lib.run_append_grow_zeros w 62 3 _ 3 it (.int .i64 0) .i64 .i64 Tryz.underlying62 Tryz.underlying3 hit hz (some ⟨g, 0, none⟩) i xs.length (xs.take i) hf (xs.length + 1 - i) (by omega) (by rw [hs]; omega) (by omega)
      (by omega) (by rw [hby]; omega) ?_]
    · rw [show i + (xs.length + 1 - i) = xs.length + 1 by omega, ← hcap, hzc, hzc, hZ]
      simp
    · rw [hby]
      exact growslice_fits (by omega) (by omega)
  obtain ⟨Z1, hZ1⟩ : ∃ Z1, Z1 = Z.take i ++ ([x] ++ Z.drop (i + 1)) := ⟨_, rfl⟩
  obtain ⟨Z2, hZ2⟩ : ∃ Z2, Z2 = xs.take i ++ (x :: xs.drop i) ++ zs (.int .i64 0) (cap - (xs.length + 1)) := ⟨_, rfl⟩
  have hlZ : Z.length = cap := by rw [hZ]; simp [length_zs]; omega
  have rZ : Row (w.alloc (.cells Z.toArray 3)).drew w.heap.size 3 Z := Row.new w _ Z
  have c1 : (Builtin.copy_ #[62, 62] 3 #[.slice (some ⟨w.heap.size, i, none⟩) (xs.length + 1 - i) (cap - i), .slice (some ⟨vb, 0, none⟩) 1 1]).run Tryz.prog (w.alloc (.cells Z.toArray 3)).drew =
      .ok (.int .i64 1) ((w.alloc (.cells Z.toArray 3)).drew.setRow w.heap.size Z1.toArray) := by
    have hV : Row (w.alloc (.cells Z.toArray 3)).drew vb 3 [x] := (hv.alloc _).drew
    have hrs : RS (w.alloc (.cells Z.toArray 3)).drew (Just vb) (.slice (some ⟨vb, 0, none⟩) 1 1) [x] := ⟨_, 1, rfl, by simp, by omega, fun _ => ⟨vb, 0, rfl, rfl, hV.lt, fun i hi => by rw [Nat.zero_add, hV.cell]⟩⟩
    have hx1 : Cells1 [x] := by intro u hu; simp at hu; subst hu; exact hx
    have := run_copy_into etI _ (Just vb) 3 3 w.heap.size i (xs.length + 1 - i) (cap - i) _ _ [x] 1 rZ hrs (by simp; omega) (by omega) hx1
    rw [this, hZ1]; rfl
  have hW1 : ((w.alloc (.cells Z.toArray 3)).drew.setRow w.heap.size Z1.toArray).drew = ((w.alloc (.cells Z.toArray 3)).drew.setRow w.heap.size Z1.toArray).drew := rfl
  have c2 : (Builtin.copy_ #[62, 62] 3 #[.slice (some ⟨w.heap.size, i + 1, none⟩) (xs.length - i) (cap - (i + 1)), .slice (some ⟨g, i, none⟩) (xs.length - i) (xs.length - i)]).run Tryz.prog ((w.alloc (.cells Z.toArray 3)).drew.setRow w.heap.size Z1.toArray).drew =
      .ok (.int .i64 ((xs.length - i : Nat) : Int)) (((w.alloc (.cells Z.toArray 3)).drew.setRow w.heap.size Z1.toArray).drew.setRow w.heap.size Z2.toArray) := by
    have rg : Row ((w.alloc (.cells Z.toArray 3)).drew.setRow w.heap.size Z1.toArray).drew g 3 xs := ((hr.alloc _).drew.farRow (by have := hr.lt; omega) _).drew
    have rZ1 : Row ((w.alloc (.cells Z.toArray 3)).drew.setRow w.heap.size Z1.toArray).drew w.heap.size 3 Z1 := (rZ.setRow Z1).drew
    have hl : (xs.drop i).length = xs.length - i := by simp
    have hlZ1 : Z1.length = cap := by rw [hZ1]; simp; omega
    have hrs : RS ((w.alloc (.cells Z.toArray 3)).drew.setRow w.heap.size Z1.toArray).drew (Just g) (.slice (some ⟨g, i, none⟩) (xs.length - i) (xs.length - i)) (xs.drop i) := by
      refine ⟨_, _, by rw [hl], by rw [hl]; omega, by omega, fun _ => ⟨g, i, rfl, rfl, rg.lt, fun j hj => ?_⟩⟩
      rw [rg.cell, List.getElem?_drop]
    have := run_copy_into etI _ (Just g) 3 3 w.heap.size (i + 1) (xs.length - i) (cap - (i + 1)) _ _ (xs.drop i) (xs.length - i) rZ1 hrs (by rw [hl]; omega) (by omega) (cells1_take (cells1_drop h1 i) _)
    rw [this]
    have e1 : (xs.drop i).take (xs.length - i) = xs.drop i := by rw [← hl, List.take_length]
    have e2 : Z.take i = xs.take i := by rw [hZ, List.take_append_of_le_length (by simp; omega), List.take_take, Nat.min_self]
    have e3 : Z1.take (i + 1) = xs.take i ++ [x] := by
      rw [hZ1, e2, ← List.append_assoc, List.take_left' (by simp; omega)]
    have e4 : Z1.drop (i + 1 + (xs.length - i)) = zs (.int .i64 0) (cap - (xs.length + 1)) := by
      have e5 : Z1.drop (i + 1) = Z.drop (i + 1) := by rw [hZ1, ← List.append_assoc, List.drop_left' (by simp; omega)]
      rw [← List.drop_drop, e5, List.drop_drop, hZ, ← List.append_assoc, List.drop_left' (by simp [length_zs]; omega)]
    rw [e1, e3, e4, hZ2]
    simp
  clear hit hz hs hby hcap hW1 rZ
  have HR := Lib.hid hr
  have H1 := Lib.hid h1
  have HV := Lib.hid hv
  have HZ2 := Lib.hid hZ2
  have HA := Lib.hid ha
  have C2 := Lib.hid c2
  have s1 : ∀ w' : World, (Instr.slice 62 (.slice (some ⟨w.heap.size, 0, none⟩) (xs.length + 1) cap) (some (.int .i64 ((i : Int) + 1))) none none).run Tryz.prog w' = .ok (.slice (some ⟨w.heap.size, i + 1, none⟩) (xs.length - i) (cap - (i + 1))) w' := fun w' => by
    rw [run_slice_at etI _ 0 _ _ (i + 1) _ (by omega) (by omega) (by omega) w', Nat.zero_add, show xs.length + 1 - (i + 1) = xs.length - i by omega]
  have wq : IntKind.i64.wrap ((i : Int) + 1) = (i : Int) + 1 := IntWalk.i64_in _ (by omega)
  have hne1 : ((i : Int) == (xs.length : Int)) = false := by simp; omega
  clear hr h1 hv hZ hZ1 hZ2 ha c2 hlZ
  go_enter Tryz.func77, Tryz.ntmps77
  go_wp2_with (at_builtin; refine wpList_append_eq rfl _ _ rfl rfl rfl HA.out ?_)
  go_still_tail 8, (by kernel_rfl)
  refine wpList_copy_eq rfl _ _ rfl rfl rfl C2.out ?_
  go_wp2_with fail
  go_ret
  refine ⟨_, rfl, .inr ⟨w.heap.size, zs (.int .i64 0) (cap - (xs.length + 1)), ?_, Nat.le_refl _, ?_, ?_⟩, ?_, rfl⟩
  · have e : (xs.take i ++ x :: xs.drop i).length = xs.length + 1 := by simp; omega
    rw [e, length_zs, show xs.length + 1 + (cap - (xs.length + 1)) = cap by omega]
    rfl
  · rw [← HZ2.out]
    exact ((Row.new w 3 Z).drew.setRow Z1).drew.setRow Z2
  · simp [length_zs]; omega
  · exact ((((Keep.refl (From w.heap.size) w).alloc _).drew.setRow (fun _ => Nat.le_refl _) _).drew.setRow (fun _ => Nat.le_refl _) _).new (fun k hk h => by have : w.heap.size ≤ k := h; omega)

/-- slices.Insert(s, i, x) on a slice that the call owns. -/
theorem insert_I (w : World) (B : Nat → Prop) (v : Value) (xs : List Value) (i : Nat) (x : Value) (vb : Nat) (h : Own w B 3 v xs) (h1 : Cells1 xs) (hx : x.oneCell' = true) (hv : Row w vb 3 [x]) (hne : v.ownBlock ≠ some vb)
    (hi : i ≤ xs.length) (hl : xs.length ≤ 1099511627776) :
    Calls Tryz.prog 77 #[v, .int .i64 i, .slice (some ⟨vb, 0, none⟩) 1 1] w fun e w' =>
      ∃ v', e = .returned v' ∧ Own w' (fun k => B k ∨ w.heap.size ≤ k) 3 v' (xs.take i ++ (x :: xs.drop i)) ∧ Keep (fun k => v.ownBlock = some k) w w' ∧ (v'.ownBlock = v.ownBlock ∨ ∃ k, v'.ownBlock = some k ∧ w.heap.size ≤ k) := by
  by_cases hin : i = xs.length
  · subst hin
    have := insertEnd_I w B v xs x vb h hx hv hl
    simpa using this
  · rcases h with ⟨rfl, rfl⟩ | ⟨g, rest, rfl, hB, hr, hm⟩
    · simp at hi; exact absurd hi hin
    · match rest, hr, hm with
      | [], hr, hm =>
        rw [List.append_nil] at hr
        refine (insertGrow_I w g i vb xs x hr h1 hx hv (by omega) hl).mono fun e w' => ?_
        rintro ⟨v', rfl, ho, hk, hb⟩
        exact ⟨v', rfl, ho.more (fun _ _ h => .inr h), hk.any _, .inr ⟨_, hb, Nat.le_refl _⟩⟩
      | r0 :: rest, hr, hm =>
        refine (insertRoom_I w B g i vb xs rest r0 x hB hr h1 hx hv (fun e => hne (by rw [e]; rfl)) (by omega) hm).mono fun e w' => ?_
        rintro ⟨v', rfl, ho, hk, hb⟩
        exact ⟨v', rfl, ho.more (fun _ _ h => .inl h), hk.mono (fun k _ h => by cases h; rfl), .inl hb⟩
set_option maxHeartbeats 400000 in
/-- Two slices in two blocks do not overlap. -/
theorem overlaps_BB (w : World) (g vb o n c : Nat) (x : Value) (cs : List Value) (hv : Row w vb 23 [x]) (hg : Row w g 23 cs) (hne : vb ≠ g) (hcs : cs ≠ []) :
    (callFunc 106 #[.slice (some ⟨vb, 0, none⟩) 1 1, .slice (some ⟨g, o, none⟩) n c]).run Tryz.prog w = .ok (.value (.bool false)) w := by
  have he : Extern.find Tryz.f106 = some (Extern.SlicesOverlaps.overlaps #[115, 115] #[4]) := by kernel_rfl
  rw [run_callFunc_extern Tryz.func106 (by kernel_rfl) (by kernel_rfl) (by kernel_rfl) he]
  rw [Lib.run_overlaps_apart w _ _ 23 Tryz.underlying115 1 size_B ⟨vb, 0, none⟩ ⟨g, o, none⟩ 1 1 n c hne 23 23 1 cs.length hv.shape hg.shape (fun h => hcs (List.eq_nil_of_length_eq_zero h)) (hv.frozen 0) (hv.frozen 1)]
  rfl

set_option maxRecDepth 20000 in
set_option maxHeartbeats 400000 in
/-- i is the end. -/
theorem insertEnd_BB (w : World) (B : Nat → Prop) (v : Value) (xs : List Value) (x : Value) (vb : Nat) (h : Own w B 23 v xs) (hx : x.oneCell' = true) (hv : Row w vb 23 [x]) (hl : xs.length ≤ 1099511627776) :
    Calls Tryz.prog 76 #[v, .int .i64 xs.length, .slice (some ⟨vb, 0, none⟩) 1 1] w fun e w' =>
      ∃ v', e = .returned v' ∧ Own w' (fun k => B k ∨ w.heap.size ≤ k) 23 v' (xs ++ [x]) ∧ Keep (fun k => v.ownBlock = some k) w w' ∧ (v'.ownBlock = v.ownBlock ∨ ∃ k, v'.ownBlock = some k ∧ w.heap.size ≤ k) := by
  have hR : RS w (Just vb) (.slice (some ⟨vb, 0, none⟩) 1 1) [x] := ⟨_, 1, rfl, by simp, by omega, fun _ => ⟨vb, 0, rfl, rfl, hv.lt, fun i hi => by rw [Nat.zero_add, hv.cell]⟩⟩
  have h1 : Cells1 [x] := by intro u hu; simp at hu; subst hu; exact hx
  obtain ⟨ao, cap, hvf⟩ : ∃ ao cap, v = .slice ao xs.length cap := by
    rcases h with ⟨rfl, rfl⟩ | ⟨g, rest, rfl, _⟩
    · exact ⟨_, _, rfl⟩
    · exact ⟨_, _, rfl⟩
  subst hvf
  obtain ⟨S, hS⟩ : ∃ S : Value, ∀ w : World, (Instr.slice 115 (.slice ao xs.length cap) (some (.int .i64 xs.length)) none none).run Tryz.prog w = .ok S w := ⟨_, fun w => run_slice_lo etBB ao xs.length cap xs.length (Nat.le_refl _) w⟩
  have HO := Lib.hid h
  have HH1 := Lib.hid h1
  have HRR := Lib.hid hR
  clear h h1 hR hv hx
  go_enter Tryz.func76, Tryz.ntmps76
  go_wp2_with (at_builtin; refine wpList_append (v := .slice ao xs.length cap) rfl _ _ etBB rfl rfl rfl HO.out HRR.out HH1.out (by decide) (by simp; omega) ?_; intro v' w' ho hk hb; have HO2 := Lib.hid ho; have HK := Lib.hid hk; have HB := Lib.hid hb; clear ho hk hb)
  go_ret
  refine ⟨_, rfl, HO2.out, HK.out, ?_⟩
  rcases HB.out with h | h
  · exact .inl h
  · exact .inr ⟨_, h, Nat.le_refl _⟩

set_option maxRecDepth 20000 in
set_option maxHeartbeats 800000 in
/-- There is room: in place. -/
theorem insertRoom_BB (w : World) (B : Nat → Prop) (g i vb : Nat) (xs rest : List Value) (r0 x : Value) (hB : B g) (hr : Row w g 23 (xs ++ (r0 :: rest))) (h1 : Cells1 xs) (hx : x.oneCell' = true) (hv : Row w vb 23 [x]) (hne : vb ≠ g)
    (hi : i < xs.length) (hm : xs.length + (rest.length + 1) ≤ 9223372036854775807) :
    Calls Tryz.prog 76 #[.slice (some ⟨g, 0, none⟩) xs.length (xs.length + (rest.length + 1)), .int .i64 i, .slice (some ⟨vb, 0, none⟩) 1 1] w fun e w' =>
      ∃ v', e = .returned v' ∧ Own w' B 23 v' (xs.take i ++ (x :: xs.drop i)) ∧ Keep (Just g) w w' ∧ v'.ownBlock = some g := by
  obtain ⟨S, hS⟩ : ∃ S : Value, ∀ w : World, (Instr.slice 115 (.slice (some ⟨g, 0, none⟩) xs.length (xs.length + (rest.length + 1))) (some (.int .i64 i)) none none).run Tryz.prog w = .ok S w := ⟨_, fun w => run_slice_lo etBB _ xs.length _ i (by omega) w⟩
  have ov : ∀ n c, (callFunc 106 #[.slice (some ⟨vb, 0, none⟩) 1 1, .slice (some ⟨g, i + 1, none⟩) n c]).run Tryz.prog w = .ok (.value (.bool false)) w := fun n c => overlaps_BB w g vb (i + 1) n c x _ hv hr hne (by simp)
  have s1 : ∀ w : World, (Instr.slice 115 (.slice (some ⟨g, 0, none⟩) (xs.length + 1) (xs.length + (rest.length + 1))) (some (.int .i64 ((i : Int) + 1))) none none).run Tryz.prog w = .ok (.slice (some ⟨g, i + 1, none⟩) (xs.length - i) (xs.length + (rest.length + 1) - (i + 1))) w := fun w => by
    rw [run_slice_at etBB g 0 _ _ (i + 1) _ (by omega) (by omega) (by omega) w, Nat.zero_add, show xs.length + 1 - (i + 1) = xs.length - i by omega]
  have s2 : ∀ w : World, (Instr.slice 115 (.slice (some ⟨g, 0, none⟩) (xs.length + 1) (xs.length + (rest.length + 1))) (some (.int .i64 i)) none none).run Tryz.prog w = .ok (.slice (some ⟨g, i, none⟩) (xs.length + 1 - i) (xs.length + (rest.length + 1) - i)) w := fun w => by
    rw [run_slice_at etBB g 0 _ _ i _ rfl (by omega) (by omega) w, Nat.zero_add]
  obtain ⟨R1, hR1⟩ : ∃ R1, R1 = xs.take (i + 1) ++ (xs.drop i ++ rest) := ⟨_, rfl⟩
  obtain ⟨R2, hR2⟩ : ∃ R2, R2 = xs.take i ++ ([x] ++ (xs.drop i ++ rest)) := ⟨_, rfl⟩
  have hd1 : (xs.drop i).length = xs.length - i := by simp
  have c1 : (Builtin.copy_ #[115, 115] 3 #[.slice (some ⟨g, i + 1, none⟩) (xs.length - i) (xs.length + (rest.length + 1) - (i + 1)), .slice (some ⟨g, i, none⟩) (xs.length + 1 - i) (xs.length + (rest.length + 1) - i)]).run Tryz.prog w.drew =
      .ok (.int .i64 ((xs.length - i : Nat) : Int)) (w.drew.setRow g R1.toArray) := by
    have hl : (xs.drop i ++ [r0]).length = xs.length + 1 - i := by simp; omega
    have ht : (xs.drop i ++ [r0]).take (xs.length - i) = xs.drop i := by rw [← hd1, List.take_left]
    have hrs : RS w.drew (Just g) (.slice (some ⟨g, i, none⟩) (xs.length + 1 - i) (xs.length + (rest.length + 1) - i)) (xs.drop i ++ [r0]) := by
      refine ⟨_, _, by rw [hl], by rw [hl]; omega, by omega, fun _ => ⟨g, i, rfl, rfl, hr.lt, fun j hj => ?_⟩⟩
      rw [hl] at hj
      rw [World.cell?_drew, hr.cell]
      rcases Nat.lt_or_ge (i + j) xs.length with h | h
      · rw [List.getElem?_append_left h, List.getElem?_append_left (by rw [hd1]; omega), List.getElem?_drop]
      · rw [List.getElem?_append_right h, List.getElem?_append_right (by rw [hd1]; omega), hd1, show i + j - xs.length = 0 by omega, show j - (xs.length - i) = 0 by omega]; rfl
    have := run_copy_into etBB w.drew (Just g) 3 23 g (i + 1) (xs.length - i) (xs.length + (rest.length + 1) - (i + 1)) _ _ (xs.drop i ++ [r0]) (xs.length - i) hr.drew hrs (by rw [hl]; omega) (by simp; omega) (by rw [ht]; exact cells1_drop h1 i)
    rw [this, hR1, ht]
    congr 3
    have ed : (xs ++ r0 :: rest).drop (i + 1 + (xs.length - i)) = rest := by
      rw [show xs ++ r0 :: rest = (xs ++ [r0]) ++ rest by simp, List.drop_left' (by simp; omega)]
    rw [List.take_append_of_le_length (by omega), ed]
  have c2 : (Builtin.copy_ #[115, 115] 3 #[.slice (some ⟨g, i, none⟩) (xs.length + 1 - i) (xs.length + (rest.length + 1) - i), .slice (some ⟨vb, 0, none⟩) 1 1]).run Tryz.prog (w.drew.setRow g R1.toArray) =
      .ok (.int .i64 1) (w.drew.setRow g R2.toArray) := by
    have hR : Row (w.drew.setRow g R1.toArray) g 23 R1 := hr.drew.setRow R1
    have hV : Row (w.drew.setRow g R1.toArray) vb 23 [x] := hv.drew.farRow hne R1.toArray
    have hrs : RS (w.drew.setRow g R1.toArray) (Just vb) (.slice (some ⟨vb, 0, none⟩) 1 1) [x] := ⟨_, 1, rfl, by simp, by omega, fun _ => ⟨vb, 0, rfl, rfl, hV.lt, fun i hi => by rw [Nat.zero_add, hV.cell]⟩⟩
    have hx1 : Cells1 [x] := by intro u hu; simp at hu; subst hu; exact hx
    have := run_copy_into etBB _ (Just vb) 3 23 g i (xs.length + 1 - i) (xs.length + (rest.length + 1) - i) _ _ [x] 1 hR hrs (by simp; omega) (by rw [hR1]; simp; omega) hx1
    rw [this, setRow_setRow, hR2, hR1]
    have et : (xs.take (i + 1) ++ (xs.drop i ++ rest)).take i = xs.take i := by rw [List.take_append_of_le_length (by simp; omega), List.take_take, Nat.min_eq_left (by omega)]
    have ed : (xs.take (i + 1) ++ (xs.drop i ++ rest)).drop (i + 1) = xs.drop i ++ rest := by rw [List.drop_left' (by simp; omega)]
    rw [et, ed]; rfl
  have HB := Lib.hid hB
  have HR := Lib.hid hr
  have H1 := Lib.hid h1
  have HV := Lib.hid hv
  have C1 := Lib.hid c1
  have E1 := Lib.hid hR1
  have E2 := Lib.hid hR2
  clear c1 hR1 hR2 hd1
  have wq : IntKind.i64.wrap ((i : Int) + 1) = (i : Int) + 1 := IntWalk.i64_in _ (by omega)
  have hne1 : ((i : Int) == (xs.length : Int)) = false := by simp; omega
  clear hB hr h1 hv
  go_enter Tryz.func76, Tryz.ntmps76
  go_wp2_with fail
  go_still_tail 8, (by kernel_rfl)
  change wpList _ _ _ _ _ w.drew
  refine wpList_copy_eq rfl _ _ rfl rfl rfl C1.out ?_
  go_wp2_with fail
  go_ret
  refine ⟨_, rfl, .inr ⟨g, rest, ?_, HB.out, ?_, ?_⟩, ((Keep.refl (Just g) _).drew.setRow (fun _ => rfl) _), rfl⟩
  · have e : (xs.take i ++ x :: xs.drop i).length = xs.length + 1 := by simp; omega
    rw [e, show xs.length + 1 + rest.length = xs.length + (rest.length + 1) by omega]
    rfl
  · have := HR.out.drew.setRow R2
    rw [E2.out] at this ⊢
    simpa using this
  · simp; omega

set_option maxRecDepth 20000 in
set_option maxHeartbeats 800000 in
/-- There is no room: a new row. -/
theorem insertGrow_BB (w : World) (g i vb : Nat) (xs : List Value) (x : Value) (hr : Row w g 23 xs) (h1 : Cells1 xs) (hx : x.oneCell' = true) (hv : Row w vb 23 [x])
    (hi : i < xs.length) (hm : xs.length ≤ 1099511627776) :
    Calls Tryz.prog 76 #[.slice (some ⟨g, 0, none⟩) xs.length xs.length, .int .i64 i, .slice (some ⟨vb, 0, none⟩) 1 1] w fun e w' =>
      ∃ v', e = .returned v' ∧ Own w' (From w.heap.size) 23 v' (xs.take i ++ (x :: xs.drop i)) ∧ Keep No w w' ∧ v'.ownBlock = some w.heap.size := by
  have s0 : ∀ w : World, (Instr.slice 115 (.slice (some ⟨g, 0, none⟩) xs.length xs.length) (some (.int .i64 i)) none none).run Tryz.prog w = .ok (.slice (some ⟨g, i, none⟩) (xs.length - i) (xs.length - i)) w := fun w => by
    rw [run_slice_at etBB g 0 _ _ i _ rfl (by omega) (by omega) w, Nat.zero_add]
  obtain ⟨it, hit, hz, hs, hby⟩ := etBB.hi
  obtain ⟨cap, hcap⟩ : ∃ cap, cap = grownCap w (xs.length + 1) xs.length 23 := ⟨_, rfl⟩
  have hcap1 : xs.length + 1 ≤ cap := by rw [hcap]; exact grownCap_ge _ _ _ _
  have hcap2 : cap ≤ 9223372036854775807 := by rw [hcap]; exact grownCap_le_maxLen _ _ _ _ (by simp [maxLen]; omega)
  obtain ⟨Z, hZ⟩ : ∃ Z, Z = xs.take i ++ (zs (.slice none 0 0) (xs.length + 1 - i) ++ zs (.slice none 0 0) (cap - (xs.length + 1))) := ⟨_, rfl⟩
  have ha : (Builtin.append_ #[115, 3] 115 #[.slice (some ⟨g, 0, none⟩) i xs.length, .int .i64 ((xs.length : Int) + 1 - i)]).run Tryz.prog w = .ok (.slice (some ⟨w.heap.size, 0, none⟩) (xs.length + 1) cap) (w.drew.alloc (.cells Z.toArray 23)) := by
    have hzc : ∀ n, Builtin.zeroCells (Value.slice none 0 0).cells n = (zs (.slice none 0 0) n).toArray := by
      intro n
      apply Array.ext'
      apply List.ext_getElem?
      intro j
      simp only [Builtin.zeroCells, etBB.hz, zs]
      simp [List.getElem?_replicate]
      split <;> simp_all [Nat.mod_one]
    have hf : (Builtin.firstCells it.size i (.slice (some ⟨g, 0, none⟩) i xs.length)).run Tryz.prog w.drew = .ok (xs.take i).toArray w.drew := by
      rw [hs]
      refine run_first (D := Just g) i ⟨_, xs.length, by simp [Nat.min_eq_left (Nat.le_of_lt hi)], by simp; omega, by omega, fun _ => ⟨g, 0, rfl, rfl, hr.lt, fun j hj => ?_⟩⟩ (by simp; omega)
      simp at hj
      rw [Nat.zero_add, World.cell?_drew, hr.cell, List.getElem?_take_of_lt (by omega)]
    have hk : ((xs.length : Int) + 1 - i) = ((xs.length + 1 - i : Nat) : Int) := by omega
    rw [hk, Lib.run_append_grow_zeros w 115 3 _ 23 it (.slice none 0 0) .i64 .i64 Tryz.underlying115 Tryz.underlying3 hit hz (some ⟨g, 0, none⟩) i xs.length (xs.take i) hf (xs.length + 1 - i) (by omega) (by rw [hs]; omega) (by omega)
      (by omega) (by rw [hby]; omega) ?_]
    · rw [show i + (xs.length + 1 - i) = xs.length + 1 by omega, ← hcap, hzc, hzc, hZ]
      simp
    · rw [hby]
      exact growslice_fits (by omega) (by omega)
  obtain ⟨Z1, hZ1⟩ : ∃ Z1, Z1 = Z.take i ++ ([x] ++ Z.drop (i + 1)) := ⟨_, rfl⟩
  obtain ⟨Z2, hZ2⟩ : ∃ Z2, Z2 = xs.take i ++ (x :: xs.drop i) ++ zs (.slice none 0 0) (cap - (xs.length + 1)) := ⟨_, rfl⟩
  have hlZ : Z.length = cap := by rw [hZ]; simp [length_zs]; omega
  have rZ : Row (w.alloc (.cells Z.toArray 23)).drew w.heap.size 23 Z := Row.new w _ Z
  have c1 : (Builtin.copy_ #[115, 115] 3 #[.slice (some ⟨w.heap.size, i, none⟩) (xs.length + 1 - i) (cap - i), .slice (some ⟨vb, 0, none⟩) 1 1]).run Tryz.prog (w.alloc (.cells Z.toArray 23)).drew =
      .ok (.int .i64 1) ((w.alloc (.cells Z.toArray 23)).drew.setRow w.heap.size Z1.toArray) := by
    have hV : Row (w.alloc (.cells Z.toArray 23)).drew vb 23 [x] := (hv.alloc _).drew
    have hrs : RS (w.alloc (.cells Z.toArray 23)).drew (Just vb) (.slice (some ⟨vb, 0, none⟩) 1 1) [x] := ⟨_, 1, rfl, by simp, by omega, fun _ => ⟨vb, 0, rfl, rfl, hV.lt, fun i hi => by rw [Nat.zero_add, hV.cell]⟩⟩
    have hx1 : Cells1 [x] := by intro u hu; simp at hu; subst hu; exact hx
    have := run_copy_into etBB _ (Just vb) 3 23 w.heap.size i (xs.length + 1 - i) (cap - i) _ _ [x] 1 rZ hrs (by simp; omega) (by omega) hx1
    rw [this, hZ1]; rfl
  have hW1 : ((w.alloc (.cells Z.toArray 23)).drew.setRow w.heap.size Z1.toArray).drew = ((w.alloc (.cells Z.toArray 23)).drew.setRow w.heap.size Z1.toArray).drew := rfl
  have c2 : (Builtin.copy_ #[115, 115] 3 #[.slice (some ⟨w.heap.size, i + 1, none⟩) (xs.length - i) (cap - (i + 1)), .slice (some ⟨g, i, none⟩) (xs.length - i) (xs.length - i)]).run Tryz.prog ((w.alloc (.cells Z.toArray 23)).drew.setRow w.heap.size Z1.toArray).drew =
      .ok (.int .i64 ((xs.length - i : Nat) : Int)) (((w.alloc (.cells Z.toArray 23)).drew.setRow w.heap.size Z1.toArray).drew.setRow w.heap.size Z2.toArray) := by
    have rg : Row ((w.alloc (.cells Z.toArray 23)).drew.setRow w.heap.size Z1.toArray).drew g 23 xs := ((hr.alloc _).drew.farRow (by have := hr.lt; omega) _).drew
    have rZ1 : Row ((w.alloc (.cells Z.toArray 23)).drew.setRow w.heap.size Z1.toArray).drew w.heap.size 23 Z1 := (rZ.setRow Z1).drew
    have hl : (xs.drop i).length = xs.length - i := by simp
    have hlZ1 : Z1.length = cap := by rw [hZ1]; simp; omega
    have hrs : RS ((w.alloc (.cells Z.toArray 23)).drew.setRow w.heap.size Z1.toArray).drew (Just g) (.slice (some ⟨g, i, none⟩) (xs.length - i) (xs.length - i)) (xs.drop i) := by
      refine ⟨_, _, by rw [hl], by rw [hl]; omega, by omega, fun _ => ⟨g, i, rfl, rfl, rg.lt, fun j hj => ?_⟩⟩
      rw [rg.cell, List.getElem?_drop]
    have := run_copy_into etBB _ (Just g) 3 23 w.heap.size (i + 1) (xs.length - i) (cap - (i + 1)) _ _ (xs.drop i) (xs.length - i) rZ1 hrs (by rw [hl]; omega) (by omega) (cells1_take (cells1_drop h1 i) _)
    rw [this]
    have e1 : (xs.drop i).take (xs.length - i) = xs.drop i := by rw [← hl, List.take_length]
    have e2 : Z.take i = xs.take i := by rw [hZ, List.take_append_of_le_length (by simp; omega), List.take_take, Nat.min_self]
    have e3 : Z1.take (i + 1) = xs.take i ++ [x] := by
      rw [hZ1, e2, ← List.append_assoc, List.take_left' (by simp; omega)]
    have e4 : Z1.drop (i + 1 + (xs.length - i)) = zs (.slice none 0 0) (cap - (xs.length + 1)) := by
      have e5 : Z1.drop (i + 1) = Z.drop (i + 1) := by rw [hZ1, ← List.append_assoc, List.drop_left' (by simp; omega)]
      rw [← List.drop_drop, e5, List.drop_drop, hZ, ← List.append_assoc, List.drop_left' (by simp [length_zs]; omega)]
    rw [e1, e3, e4, hZ2]
    simp
  clear hit hz hs hby hcap hW1 rZ
  have HR := Lib.hid hr
  have H1 := Lib.hid h1
  have HV := Lib.hid hv
  have HZ2 := Lib.hid hZ2
  have HA := Lib.hid ha
  have C2 := Lib.hid c2
  have s1 : ∀ w' : World, (Instr.slice 115 (.slice (some ⟨w.heap.size, 0, none⟩) (xs.length + 1) cap) (some (.int .i64 ((i : Int) + 1))) none none).run Tryz.prog w' = .ok (.slice (some ⟨w.heap.size, i + 1, none⟩) (xs.length - i) (cap - (i + 1))) w' := fun w' => by
    rw [run_slice_at etBB _ 0 _ _ (i + 1) _ (by omega) (by omega) (by omega) w', Nat.zero_add, show xs.length + 1 - (i + 1) = xs.length - i by omega]
  have wq : IntKind.i64.wrap ((i : Int) + 1) = (i : Int) + 1 := IntWalk.i64_in _ (by omega)
  have hne1 : ((i : Int) == (xs.length : Int)) = false := by simp; omega
  clear hr h1 hv hZ hZ1 hZ2 ha c2 hlZ
  go_enter Tryz.func76, Tryz.ntmps76
  go_wp2_with (at_builtin; refine wpList_append_eq rfl _ _ rfl rfl rfl HA.out ?_)
  go_still_tail 8, (by kernel_rfl)
  refine wpList_copy_eq rfl _ _ rfl rfl rfl C2.out ?_
  go_wp2_with fail
  go_ret
  refine ⟨_, rfl, .inr ⟨w.heap.size, zs (.slice none 0 0) (cap - (xs.length + 1)), ?_, Nat.le_refl _, ?_, ?_⟩, ?_, rfl⟩
  · have e : (xs.take i ++ x :: xs.drop i).length = xs.length + 1 := by simp; omega
    rw [e, length_zs, show xs.length + 1 + (cap - (xs.length + 1)) = cap by omega]
    rfl
  · rw [← HZ2.out]
    exact ((Row.new w 23 Z).drew.setRow Z1).drew.setRow Z2
  · simp [length_zs]; omega
  · exact ((((Keep.refl (From w.heap.size) w).alloc _).drew.setRow (fun _ => Nat.le_refl _) _).drew.setRow (fun _ => Nat.le_refl _) _).new (fun k hk h => by have : w.heap.size ≤ k := h; omega)

/-- slices.Insert(s, i, x) on a slice that the call owns. -/
theorem insert_BB (w : World) (B : Nat → Prop) (v : Value) (xs : List Value) (i : Nat) (x : Value) (vb : Nat) (h : Own w B 23 v xs) (h1 : Cells1 xs) (hx : x.oneCell' = true) (hv : Row w vb 23 [x]) (hne : v.ownBlock ≠ some vb)
    (hi : i ≤ xs.length) (hl : xs.length ≤ 1099511627776) :
    Calls Tryz.prog 76 #[v, .int .i64 i, .slice (some ⟨vb, 0, none⟩) 1 1] w fun e w' =>
      ∃ v', e = .returned v' ∧ Own w' (fun k => B k ∨ w.heap.size ≤ k) 23 v' (xs.take i ++ (x :: xs.drop i)) ∧ Keep (fun k => v.ownBlock = some k) w w' ∧ (v'.ownBlock = v.ownBlock ∨ ∃ k, v'.ownBlock = some k ∧ w.heap.size ≤ k) := by
  by_cases hin : i = xs.length
  · subst hin
    have := insertEnd_BB w B v xs x vb h hx hv hl
    simpa using this
  · rcases h with ⟨rfl, rfl⟩ | ⟨g, rest, rfl, hB, hr, hm⟩
    · simp at hi; exact absurd hi hin
    · match rest, hr, hm with
      | [], hr, hm =>
        rw [List.append_nil] at hr
        refine (insertGrow_BB w g i vb xs x hr h1 hx hv (by omega) hl).mono fun e w' => ?_
        rintro ⟨v', rfl, ho, hk, hb⟩
        exact ⟨v', rfl, ho.more (fun _ _ h => .inr h), hk.any _, .inr ⟨_, hb, Nat.le_refl _⟩⟩
      | r0 :: rest, hr, hm =>
        refine (insertRoom_BB w B g i vb xs rest r0 x hB hr h1 hx hv (fun e => hne (by rw [e]; rfl)) (by omega) hm).mono fun e w' => ?_
        rintro ⟨v', rfl, ho, hk, hb⟩
        exact ⟨v', rfl, ho.more (fun _ _ h => .inl h), hk.mono (fun k _ h => by cases h; rfl), .inl hb⟩
end Go.Proofs.YtfhapbggngdckaaGreat
