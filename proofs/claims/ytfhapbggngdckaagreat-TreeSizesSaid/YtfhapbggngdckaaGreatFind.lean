/- Nodes: Find. -/
import Derived.Test.YtfhapbggngdckaaGreatRead
namespace Go.Proofs.YtfhapbggngdckaaGreat
set_option linter.unusedSimpArgs false
set_option linter.unusedVariables false
open Go.RowKit
/-- A key's place among rising keys. -/
structure Plc (keys : List (List UInt8)) (key : List UInt8) (k : Nat) : Prop where
  le : k ≤ keys.length
  low : ∀ i (h : i < keys.length), i < k → lt keys[i] key
  high : ∀ i (h : i < keys.length), k ≤ i → ¬ lt keys[i] key
/-- Rising. -/
def Rise (keys : List (List UInt8)) : Prop := ∀ i (h : i + 1 < keys.length), lt keys[i] keys[i + 1]
theorem Rise.far {keys : List (List UInt8)} (h : Rise keys) : ∀ (d i : Nat) (hj : i + d + 1 < keys.length), lt keys[i] keys[i + d + 1]
  | 0, i, hj => h i hj
  | d + 1, i, hj => lt_trans (Rise.far h d i (by omega)) (h (i + d + 1) hj)
theorem Rise.nle {keys : List (List UInt8)} (h : Rise keys) {i j : Nat} (hij : i ≤ j) (hj : j < keys.length) : ¬ lt keys[j] keys[i] := by
  rcases Nat.eq_or_lt_of_le hij with e | e
  · subst e; exact lt_irrefl _
  · have := Rise.far h (j - i - 1) i (by omega)
    have e2 : i + (j - i - 1) + 1 = j := by omega
    simp only [e2] at this
    exact lt_asymm this
section
variable {w : World} {D D' : Nat → Prop} {v : Value} {l : List (List UInt8)}
set_option maxRecDepth 20000 in
set_option maxHeartbeats 800000 in
theorem isSorted_any (h : BBS w D v l) (hr : Rise l) : Calls Tryz.prog 84 #[v, .func (.func 62) #[] #[]] w fun e w' => e = .returned (.bool true) ∧ ∃ n, w' = w.drewN n := by
  obtain ⟨ao, cap, rfl, hn, HC⟩ := h.form
  have HR := Lib.hid hr
  clear h hr
  have hw0 : IntKind.i64.wrap ((l.length : Int) - 1) = (l.length : Int) - 1 := IntWalk.i64_in _ (by omega)
  go_enter Tryz.func84, Tryz.ntmps84
  go_wp2_with fail
  go_loopw [5] (fun i wr => ∃ (k : Int) (n : Nat), -1 ≤ k ∧ k < l.length ∧ i = .int .i64 k ∧ wr = w.drewN n) (fun i _ => (intOf i + 1).toNat)
  case atStart => exact ⟨(l.length : Int) - 1, 0, by omega, by omega, rfl, rfl⟩
  case round =>
    obtain ⟨k, n, hk, hk2, rfl, rfl⟩ := hrel
    by_cases hp : 0 < k
    · obtain ⟨q, rfl⟩ : ∃ q : Nat, k = (q : Int) := ⟨k.toNat, by omega⟩
      obtain ⟨m, hqm⟩ : ∃ m : Nat, q = m + 1 := ⟨q - 1, by omega⟩
      have hq : q < l.length := by omega
      have hm : m < l.length := by omega
      obtain ⟨g, o, u1, rfl, _, _, ca, ba⟩ := HC.out q hq
      obtain ⟨g', o', u2, e, _, _, cb', bb⟩ := HC.out m hm
      simp only [Option.some.injEq, Addr.mk.injEq, and_true] at e
      obtain ⟨rfl, rfl⟩ := e
      obtain ⟨xo, xc, rfl, _, _⟩ := ba.form
      obtain ⟨yo, yc, rfl, _, _⟩ := bb.form
      have BA := Lib.hid ba
      have BB := Lib.hid bb
      clear ba bb
      have hge : decide (cb l[q] l[m] < 0) = false := by
        simp only [decide_eq_false_iff_not]; rw [cb_neg]; subst hqm; exact lt_asymm (HR.out m hq)
      have hw1 : IntKind.i64.wrap ((q : Int) - 1) = (m : Int) := by rw [IntWalk.i64_in _ (by omega)]; omega
      have hd : decide ((0 : Int) < (q : Int)) = true := by simp; omega
      have HQM := Lib.hid hqm
      clear hqm
      go_wp2_with fail
      go_quiet (exact (compare_B (BA.out.drewN _) (BB.out.drewN _)).mono (fun e w1 h => ⟨h.1, _, h.2⟩))
      go_wp2_with fail
      go_roundw
      case rel => exact ⟨m, _, by omega, by omega, rfl, rfl⟩
      case measure => have := HQM.out; simp [intOf]; omega
    · go_wp2_with fail
      go_ret
      exact ⟨rfl, _, rfl⟩
set_option maxRecDepth 20000 in
set_option maxHeartbeats 800000 in
theorem find1_any (key : List UInt8) (kb : Nat) (nb : Nat) (n : Nat) (w : World) {u : Value} (ao : Option Addr) (cap : Nat) (HC : Hid (∀ i (hi : i < l.length), ∃ b o u, ao = some ⟨b, o, none⟩ ∧ D b ∧ b < w.heap.size ∧ w.cell? ⟨b, o + i, none⟩ = some u ∧ BS w D u l[i]))
    (c1 : w.cell? ⟨nb, 1, none⟩ = some (.slice ao l.length cap)) (c2 : w.cell? ⟨kb, 0, none⟩ = some u) (hk : BS w D' u key) (i : Nat) (hi : i < l.length) (hl : l.length ≤ 1000) :
    Calls Tryz.prog 86 #[.int .i64 i, .pointer (some ⟨nb, 0, none⟩), .pointer (some ⟨kb, 0, none⟩)] w fun e w' => e = .returned (.bool (decide (¬ lt l[i] key))) ∧ ∃ n, w' = w.drewN n := by
  obtain ⟨g, o, x, rfl, _, _, ca, ba⟩ := HC.out i hi
  obtain ⟨xo, xc, rfl, _, _⟩ := ba.form
  obtain ⟨yo, yc, rfl, _, _⟩ := hk.form
  have BA := Lib.hid ba
  have BK := Lib.hid hk
  have hd : decide (0 ≤ cb l[i] key) = decide (¬ lt l[i] key) := by rw [Bool.eq_iff_iff, decide_eq_true_iff, decide_eq_true_iff, cb_nonneg]
  have HD := Lib.hid hd
  clear ba hk hd
  go_enter Tryz.func86, Tryz.ntmps86
  go_wp2_with fail
  go_quiet (exact (compare_B (BA.out.drewN _) (BK.out.drewN _)).mono (fun e w1 h => ⟨h.1, _, h.2⟩))
  go_wp2_with fail
  go_ret
  rw [← HD.out]
  exact ⟨rfl, _, rfl⟩
set_option maxRecDepth 20000 in
set_option maxHeartbeats 800000 in
theorem search_any (key : List UInt8) (kb : Nat) (nb : Nat) (w : World) {u : Value} (ao : Option Addr) (cap : Nat) (HC : Hid (∀ i (hi : i < l.length), ∃ b o u, ao = some ⟨b, o, none⟩ ∧ D b ∧ b < w.heap.size ∧ w.cell? ⟨b, o + i, none⟩ = some u ∧ BS w D u l[i]))
    (c1 : w.cell? ⟨nb, 1, none⟩ = some (.slice ao l.length cap)) (c2 : w.cell? ⟨kb, 0, none⟩ = some u) (hk : BS w D' u key) (hl : l.length ≤ 1000) (hr : Rise l) :
    Calls Tryz.prog 85 #[.int .i64 l.length, .func (.func 86) #[] #[.pointer (some ⟨nb, 0, none⟩), .pointer (some ⟨kb, 0, none⟩)]] w fun e w' => ∃ k : Nat, e = .returned (.int .i64 k) ∧ Plc l key k ∧ ∃ n, w' = w.drewN n := by
  have HF : Hid (∀ (n i : Nat) (hi : i < l.length), Calls Tryz.prog 86 #[.int .i64 i, .pointer (some ⟨nb, 0, none⟩), .pointer (some ⟨kb, 0, none⟩)] (w.drewN n) fun e w' => e = .returned (.bool (decide (¬ lt l[i] key))) ∧ ∃ m, w' = (w.drewN n).drewN m) := fun n i hi =>
    find1_any (D := D) (D' := D') key kb nb n (w.drewN n) ao cap (fun i hi => by
      obtain ⟨b, o, u, h1, h2, h3, h4, h5⟩ := HC.out i hi
      exact ⟨b, o, u, h1, h2, h3, h4, h5.drewN n⟩) c1 c2 (hk.drewN n) i hi hl
  have HR := Lib.hid hr
  clear hr HC c1 c2 hk
  go_enter Tryz.func85, Tryz.ntmps85
  go_wp2_with fail
  go_loopw [5, 6] (fun i j wr => ∃ a b n : Nat, a ≤ b ∧ b ≤ l.length ∧ i = .int .i64 a ∧ j = .int .i64 b ∧ wr = w.drewN n ∧ Hid ((∀ i (h : i < l.length), i < a → lt l[i] key) ∧ (∀ i (h : i < l.length), b ≤ i → ¬ lt l[i] key))) (fun i j _ => (intOf j).toNat - (intOf i).toNat)
  case atStart => exact ⟨0, l.length, 0, by omega, by omega, rfl, rfl, rfl, fun i h h2 => by omega, fun i h h2 => by omega⟩
  case round =>
    obtain ⟨a, b, n, hab, hb, rfl, rfl, rfl, HI⟩ := hrel
    by_cases hlt : a < b
    · have hd : decide ((a : Int) < (b : Int)) = true := by simpa using hlt
      obtain ⟨h, hh⟩ : ∃ h : Nat, h = (a + b) / 2 := ⟨_, rfl⟩
      have h1 : a ≤ h := by omega
      have h2 : h < b := by omega
      have hhi : (h : Int) = ((a : Int) + (b : Int)) / 2 := by omega
      have hl2 : h < l.length := by omega
      have HFH := HF.out n h hl2
      by_cases hp : lt l[h] key
      · rw [show decide (¬ lt l[h] key) = false by simpa using hp] at HFH
        have HF1 := Lib.hid HFH
        have HP := Lib.hid hp
        have HH := Lib.hid hhi
        clear hp hh hhi HFH
        go_upto_region 4 with fail
        rw [← HH.out]
        go_wp2_with (go_at_call 86; refine HF1.out.mono ?_; rintro e w1 ⟨rfl, m, rfl⟩)
        go_roundw
        case rel => exact ⟨h + 1, b, _, by omega, by omega, by go_num, rfl, rfl, fun i hi hlt2 => by
            have e : i ≤ h := by omega
            exact lt_of_not_of_lt (HR.out.nle e hl2) HP.out, HI.out.2⟩
        case measure => simp [intOf]; omega
      · rw [show decide (¬ lt l[h] key) = true by simpa using hp] at HFH
        have HF1 := Lib.hid HFH
        have HP := Lib.hid hp
        have HH := Lib.hid hhi
        clear hp hh hhi HFH
        go_upto_region 4 with fail
        rw [← HH.out]
        go_wp2_with (go_at_call 86; refine HF1.out.mono ?_; rintro e w1 ⟨rfl, m, rfl⟩)
        go_roundw
        case rel => exact ⟨a, h, _, by omega, by omega, rfl, rfl, rfl, HI.out.1, fun i hi hle => by
            intro hx
            exact HP.out (lt_of_not_of_lt (HR.out.nle hle hi) hx)⟩
        case measure => simp [intOf]; omega
    · obtain rfl : a = b := by omega
      have hd : decide ((a : Int) < (a : Int)) = false := by simp
      go_wp2_with fail
      go_ret
      exact ⟨a, rfl, ⟨by omega, HI.out.1, HI.out.2⟩, n, rfl⟩
theorem Plc.hit {key : List UInt8} {k : Nat} (h : k < l.length) : (l[k]? = some key) ↔ l[k] = key := by rw [List.getElem?_eq_getElem h]; simp
set_option maxRecDepth 20000 in
set_option maxHeartbeats 1600000 in
theorem find_any {kv vv iv : Value} {n : Nd} (h : NdR w D kv vv iv n) (hr : Rise n.keys) (hl : n.keys.length ≤ 1000) {u : Value} {key : List UInt8} (hk : BS w D' u key) :
    Calls Tryz.prog 56 #[.agg #[.bool n.leaf, kv, vv, iv], u] w fun e w' => ∃ k : Nat, e = .returned (.tuple #[.int .i64 k, .bool (decide (n.keys[k]? = some key))]) ∧ Plc n.keys key k ∧ Keep No w w' := by
  have H := Lib.hid h
  have HKY := Lib.hid hk
  have HR := Lib.hid hr
  obtain ⟨ko, kc, vo, vc, io, ic, rfl, rfl, rfl⟩ := h.forms
  obtain ⟨uo, uc, rfl, _, _⟩ := hk.form
  clear h hk hr
  go_enter Tryz.func56, Tryz.ntmps56
  go_upto_region 1 with fail
  obtain ⟨W0, hW0⟩ : ∃ W, W = w.alloc (.cells #[.bool n.leaf, .slice ko n.keys.length kc, .slice vo n.vals.length vc, .slice io n.kids.length ic] 144) := ⟨_, rfl⟩
  obtain ⟨W, hW⟩ : ∃ W, W = W0.alloc (.cells #[.slice uo key.length uc] 23) := ⟨_, rfl⟩
  have r0 : Row W0 w.heap.size 144 [.bool n.leaf, .slice ko n.keys.length kc, .slice vo n.vals.length vc, .slice io n.kids.length ic] := by rw [hW0]; exact Row.new w _ [_, _, _, _]
  have k0 : Keep No w W0 := by rw [hW0]; exact (Keep.refl No w).alloc _
  have s0 : W0.heap.size = w.heap.size + 1 := by rw [hW0]; simp
  have k1 : Keep No W0 W := by rw [hW]; exact (Keep.refl No W0).alloc _
  have r1 := r0.keep k1 (fun h => h)
  have r2 : Row W W0.heap.size 23 [.slice uo key.length uc] := by rw [hW]; exact Row.new W0 _ [_]
  rw [s0] at r2
  rw [← hW0, ← hW]
  clear hW hW0
  have HK := Lib.hid (k0.trans k1 (fun _ _ h => h))
  have c1 := r1.cell 1
  have c2 := r2.cell 0
  simp only [List.getElem?_cons_zero, List.getElem?_cons_succ] at c1 c2
  have HBB := Lib.hid (H.out.keys.keep HK.out (fun _ _ _ h => h))
  have HKW := Lib.hid (HKY.out.keep HK.out (fun _ _ _ h => h))
  clear r0 k0 s0 k1 r1 r2
  obtain ⟨_, _, ek, _, HKC⟩ := HBB.out.form
  simp only [Value.slice.injEq, true_and] at ek
  obtain ⟨rfl, rfl⟩ := ek
  go_upto_region 10 with (go_at_call 84; refine (isSorted_any HBB.out HR.out).mono ?_; rintro e w1 ⟨rfl, m, rfl⟩)
  have HSE := Lib.hid (search_any (w := W.drewN m) key (w.heap.size + 1) w.heap.size ko kc (fun i hi => by
    obtain ⟨b, o, u, h1, h2, h3, h4, h5⟩ := HKC.out i hi
    exact ⟨b, o, u, h1, h2, h3, h4, h5.drewN m⟩) c1 c2 (HKW.out.drewN m) hl HR.out)
  go_upto_region 11 with (go_at_call 85; refine HSE.out.mono ?_; rintro e w1 ⟨k, rfl, hp, m2, rfl⟩; have HP := Lib.hid hp; clear hp)
  by_cases hlt : k < n.keys.length
  · have hd : decide ((k : Int) < (n.keys.length : Int)) = true := by simpa using hlt
    obtain ⟨g, o, x, rfl, _, _, ca, ba⟩ := HKC.out k hlt
    obtain ⟨xo, xc, rfl, _, _⟩ := ba.form
    have BA := Lib.hid ba
    have HEQ : Hid (decide (n.keys[k]? = some key) = decide (n.keys[k] = key)) := by
      show _ = _
      rw [Bool.eq_iff_iff, decide_eq_true_iff, decide_eq_true_iff, Plc.hit hlt]
    clear ba
    go_quiet (exact (equal_B (BA.out.drewN _) (HKW.out.drewN _)).mono (fun e w1 h => ⟨h.1, _, h.2⟩))
    go_wp2_with fail
    go_ret2
    exact ⟨k, by rw [HEQ.out]; rfl, HP.out, (HK.out.drewN _).drewN _⟩
  · have hd : decide ((k : Int) < (n.keys.length : Int)) = false := by simp; omega
    have HEQ : Hid (decide (n.keys[k]? = some key) = false) := by
      show _ = _
      rw [List.getElem?_eq_none (by omega)]; rfl
    go_quiet (fail)
    go_wp2_with fail
    go_ret2
    exact ⟨k, by rw [HEQ.out]; rfl, HP.out, (HK.out.drewN _).drewN _⟩
set_option maxRecDepth 20000 in
set_option maxHeartbeats 800000 in
/-- The number of the kid that holds a key: the first one whose next key is greater. -/
theorem kid_any {kv vv iv : Value} {n : Nd} (h : NdR w D kv vv iv n) (hr : Rise n.keys) (hl : n.keys.length ≤ 1000) {u : Value} {key : List UInt8} (hk : BS w D' u key) :
    Calls Tryz.prog 57 #[.agg #[.bool n.leaf, kv, vv, iv], u] w fun e w' => ∃ k : Nat, e = .returned (.int .i64 k) ∧ k ≤ n.keys.length ∧ (∀ i (h : i < n.keys.length), i < k → ¬ lt key n.keys[i]) ∧ (∀ i (h : i < n.keys.length), k ≤ i → lt key n.keys[i]) ∧ Keep No w w' := by
  have H := Lib.hid h
  have HKY := Lib.hid hk
  have HR := Lib.hid hr
  obtain ⟨ko, kc, vo, vc, io, ic, rfl, rfl, rfl⟩ := h.forms
  obtain ⟨uo, uc, rfl, _, _⟩ := hk.form
  clear h hk hr
  go_enter Tryz.func57, Tryz.ntmps57
  go_upto_region 1 with fail
  obtain ⟨W, hW⟩ : ∃ W, W = w.alloc (.cells #[.bool n.leaf, .slice ko n.keys.length kc, .slice vo n.vals.length vc, .slice io n.kids.length ic] 144) := ⟨_, rfl⟩
  have r0 : Row W w.heap.size 144 [.bool n.leaf, .slice ko n.keys.length kc, .slice vo n.vals.length vc, .slice io n.kids.length ic] := by rw [hW]; exact Row.new w _ [_, _, _, _]
  have HK : Hid (Keep No w W) := by rw [hW]; exact (Keep.refl No w).alloc _
  have c0 := r0.cell 0
  have c1 := r0.cell 1
  have c2 := r0.cell 2
  have c3 := r0.cell 3
  simp only [List.getElem?_cons_zero, List.getElem?_cons_succ] at c0 c1 c2 c3
  try rw [← hW]
  have HFD := Lib.hid (find_any (H.out.keep HK.out (fun _ _ _ h => h)) HR.out hl (HKY.out.keep HK.out (fun _ _ _ h => h)))
  clear hW r0
  go_upto_region 2 with (go_at_call 56; refine HFD.out.mono ?_; rintro e w1 ⟨k, rfl, hp, hk1⟩; have HP := Lib.hid hp; have HK1 := Lib.hid hk1; have hkl := hp.le; generalize hbb : decide (n.keys[k]? = some key) = bb; have HBB := Lib.hid hbb; clear hp hk1 hbb)
  rcases bb with _ | _
  · go_wp2_with fail
    go_ret
    refine ⟨k, rfl, HP.out.le, fun i hi hik => lt_asymm (HP.out.low i hi hik), fun i hi hki => ?_, HK.out.trans HK1.out (fun _ _ h => h)⟩
    have h1 := HP.out.high i hi hki
    rcases lt_total n.keys[i] key with h | h | h
    · exact absurd h h1
    · exfalso
      rcases Nat.eq_or_lt_of_le hki with e | e
      · subst e
        have := HBB.out
        rw [decide_eq_false_iff_not, List.getElem?_eq_getElem hi] at this
        exact this (by rw [h])
      · have hk2 : k < n.keys.length := by omega
        have h3 := HR.out.far (i - k - 1) k (by omega)
        have e2 : k + (i - k - 1) + 1 = i := by omega
        simp only [e2] at h3
        rw [h] at h3
        exact HP.out.high k hk2 (Nat.le_refl _) h3
    · exact h
  · have hkk : k < n.keys.length := by
      rcases Nat.lt_or_ge k n.keys.length with h | h
      · exact h
      · have := HBB.out
        rw [decide_eq_true_iff, List.getElem?_eq_none h] at this
        simp at this
    have HE : Hid (n.keys[k] = key) := by
      have := HBB.out
      rw [decide_eq_true_iff, List.getElem?_eq_getElem hkk] at this
      exact Option.some.inj this
    go_wp2_with fail
    go_ret
    refine ⟨k + 1, by congr 1, by omega, fun i hi hik => ?_, fun i hi hki => ?_, HK.out.trans HK1.out (fun _ _ h => h)⟩
    · have := HR.out.nle (show i ≤ k by omega) hkk
      rw [HE.out] at this
      exact this
    · have h3 := HR.out.far (i - k - 1) k (by omega)
      have e2 : k + (i - k - 1) + 1 = i := by omega
      simp only [e2] at h3
      rw [HE.out] at h3
      exact h3
end
end Go.Proofs.YtfhapbggngdckaaGreat
