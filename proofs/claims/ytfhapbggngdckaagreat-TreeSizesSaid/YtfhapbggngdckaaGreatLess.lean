/- The reference's Less and Same. -/
import Derived.Test.YtfhapbggngdckaaGreatBytes
import Derived.BigQuiet
namespace Go.Proofs.YtfhapbggngdckaaGreat
open Go.RowKit
theorem cb_drop {a b : List UInt8} {i : Nat} (ha : i < a.length) (hb : i < b.length) : cb (a.drop i) (b.drop i) = if a[i] < b[i] then -1 else if b[i] < a[i] then 1 else cb (a.drop (i + 1)) (b.drop (i + 1)) := by
  rw [List.drop_eq_getElem_cons ha, List.drop_eq_getElem_cons hb]; rfl
theorem cb_drop_ne {a b : List UInt8} {i : Nat} (ha : i < a.length) (hb : i < b.length) (hne : a[i] ≠ b[i]) (h : cb a b = cb (a.drop i) (b.drop i)) : decide (lt a b) = decide (a[i].toNat < b[i].toNat) := by
  rw [Bool.eq_iff_iff, decide_eq_true_iff, decide_eq_true_iff, lt, h, cb_drop ha hb]
  have : (a[i].toNat < b[i].toNat) ↔ a[i] < b[i] := by rw [UInt8.lt_iff_toNat_lt]
  rw [this]
  by_cases h1 : a[i] < b[i]
  · simp [h1]
  · have h2 : b[i] < a[i] := UInt8.lt_of_le_of_ne (UInt8.not_lt.1 h1) (fun e => hne e.symm)
    simp [h1, h2]
theorem cb_drop_eq {a b : List UInt8} {i : Nat} (ha : i < a.length) (hb : i < b.length) (he : a[i] = b[i]) (h : cb a b = cb (a.drop i) (b.drop i)) : cb a b = cb (a.drop (i + 1)) (b.drop (i + 1)) := by
  rw [h, cb_drop ha hb, he, if_neg (UInt8.lt_irrefl _), if_neg (UInt8.lt_irrefl _)]
theorem cb_drop_end {a b : List UInt8} {i : Nat} (hi : i ≤ a.length) (hj : i ≤ b.length) (hn : ¬ (i < a.length ∧ i < b.length)) (h : cb a b = cb (a.drop i) (b.drop i)) : decide (lt a b) = decide (a.length < b.length) := by
  rw [Bool.eq_iff_iff, decide_eq_true_iff, decide_eq_true_iff, lt, h]
  by_cases ha : i < a.length
  · rw [List.drop_eq_nil_of_le (by omega : b.length ≤ i), List.drop_eq_getElem_cons ha]
    simp [cb, Lib.compareBytes]; omega
  · rw [List.drop_eq_nil_of_le (by omega : a.length ≤ i)]
    by_cases hb : i < b.length
    · rw [List.drop_eq_getElem_cons hb]; simp [cb, Lib.compareBytes]; omega
    · rw [List.drop_eq_nil_of_le (by omega : b.length ≤ i)]; simp [cb, Lib.compareBytes]; omega
theorem u8neI {x y : UInt8} (h : x ≠ y) : ((x.toNat : Int) == (y.toNat : Int)) = false := by
  simp; intro e; exact h (UInt8.toNat_inj.1 (by omega))
/-- A slice of bytes, its cells one by one. -/
theorem BS.form {w : World} {D : Nat → Prop} {v : Value} {a : List UInt8} (h : BS w D v a) : ∃ ao cap, v = .slice ao a.length cap ∧ a.length ≤ 9223372036854775807 ∧ Hid (∀ i (hi : i < a.length), ∃ b o, ao = some ⟨b, o, none⟩ ∧ D b ∧ b < w.heap.size ∧ w.cell? ⟨b, o + i, none⟩ = some (.int .u8 a[i].toNat)) := by
  obtain ⟨ao, cap, rfl, hcap, hcm, hcell⟩ := h
  rw [List.length_map] at hcap hcell ⊢
  refine ⟨ao, cap, rfl, by omega, fun i hi => ?_⟩
  obtain ⟨b, o, rfl, h1, h2, hc⟩ := hcell (by omega)
  exact ⟨b, o, rfl, h1, h2, by rw [hc i hi, List.getElem?_map, List.getElem?_eq_getElem hi]; rfl⟩
theorem dd (w : World) (n m : Nat) : (w.drewN n).drewN m = w.drewN (n + m) := by unfold World.drewN; simp [Nat.add_assoc]
section
variable {w : World} {D D' : Nat → Prop} {u v : Value} {a b : List UInt8}
set_option maxRecDepth 20000 in
set_option maxHeartbeats 800000 in
theorem less_any (h1 : BS w D u a) (h2 : BS w D' v b) : Calls Tryz.prog 11 #[u, v] w fun e w' => e = .returned (.bool (decide (lt a b))) ∧ ∃ n, w' = w.drewN n := by
  obtain ⟨ao, cap, rfl, la, HA⟩ := h1.form
  obtain ⟨bo, cap', rfl, lb, HB⟩ := h2.form
  clear h1 h2
  go_enter Tryz.func11, Tryz.ntmps11
  go_wp2_with fail
  go_loopw [5] (fun i wr => ∃ k n : Nat, k ≤ a.length ∧ k ≤ b.length ∧ i = .int .i64 k ∧ wr = w.drewN n ∧ Hid (cb a b = cb (a.drop k) (b.drop k))) (fun i _ => a.length - (intOf i).toNat)
  case atStart => exact ⟨0, 0, Nat.zero_le _, Nat.zero_le _, rfl, rfl, rfl⟩
  case round =>
    obtain ⟨k, n, hk, hk', rfl, rfl, HN⟩ := hrel
    by_cases ha : k < a.length
    · by_cases hb : k < b.length
      · obtain ⟨ga, oa, rfl, _, _, ca⟩ := HA.out k ha
        obtain ⟨gb, ob, rfl, _, _, cbb⟩ := HB.out k hb
        have hda : decide ((k : Int) < (a.length : Int)) = true := by simpa using ha
        have hdb : decide ((k : Int) < (b.length : Int)) = true := by simpa using hb
        by_cases he : a[k] = b[k]
        · have hb1 : ((a[k].toNat : Int) == (b[k].toNat : Int)) = true := by simp [he]
          have hb2 : ((a[k].toNat : Int) != (b[k].toNat : Int)) = false := by simp [he]
          have HE := Lib.hid he
          clear he
          go_wp2_with fail
          go_quiet (fail)
          go_wp2_with fail
          go_roundw
          case rel => exact ⟨k + 1, n + nq, by omega, by omega, by go_num, rfl, cb_drop_eq ha hb HE.out HN.out⟩
          case measure => simp [intOf]; omega
        · have hb1 := u8neI he
          have hb2 : ((a[k].toNat : Int) != (b[k].toNat : Int)) = true := by rw [bne, hb1]; rfl
          have HE := Lib.hid he
          clear he
          go_wp2_with fail
          go_quiet (fail)
          go_wp2_with fail
          go_quiet (fail)
          go_wp2_with fail
          go_ret
          rw [cb_drop_ne ha hb HE.out HN.out, dd, dd]
          exact ⟨rfl, _, rfl⟩
      · have hda : decide ((k : Int) < (a.length : Int)) = true := by simpa using ha
        have hdb : decide ((k : Int) < (b.length : Int)) = false := by simp; omega
        go_wp2_with fail
        go_ret
        rw [cb_drop_end hk hk' (fun h => hb h.2) HN.out]
        exact ⟨rfl, _, rfl⟩
    · have hda : decide ((k : Int) < (a.length : Int)) = false := by simp; omega
      go_wp2_with fail
      go_ret
      rw [cb_drop_end hk hk' (fun h => ha h.1) HN.out]
      exact ⟨rfl, _, rfl⟩
theorem same_upto {a b : List UInt8} {i : Nat} (ha : i < a.length) (hb : i < b.length) (he : a[i] = b[i]) (h : a.take i = b.take i) : a.take (i + 1) = b.take (i + 1) := by
  rw [List.take_succ_eq_append_getElem ha, List.take_succ_eq_append_getElem hb, h, he]
set_option maxRecDepth 20000 in
set_option maxHeartbeats 800000 in
theorem same_any (h1 : BS w D u a) (h2 : BS w D' v b) : Calls Tryz.prog 17 #[u, v] w fun e w' => e = .returned (.bool (decide (a = b))) ∧ ∃ n, w' = w.drewN n := by
  obtain ⟨ao, cap, rfl, la, HA⟩ := h1.form
  obtain ⟨bo, cap', rfl, lb, HB⟩ := h2.form
  clear h1 h2
  by_cases hl : a.length = b.length
  · have hl1 : ((a.length : Int) != (b.length : Int)) = false := by simp [hl]
    have hl2 : ((a.length : Int) == (b.length : Int)) = true := by simp [hl]
    have HL := Lib.hid hl
    clear hl
    go_enter Tryz.func17, Tryz.ntmps17
    go_wp2_with fail
    go_loopw [5] (fun i wr => ∃ k n : Nat, k ≤ a.length ∧ i = .int .i64 k ∧ wr = w.drewN n ∧ Hid (a.take k = b.take k)) (fun i _ => a.length - (intOf i).toNat)
    case atStart => exact ⟨0, 0, Nat.zero_le _, rfl, rfl, rfl⟩
    case round =>
      obtain ⟨k, n, hk, rfl, rfl, HN⟩ := hrel
      by_cases ha : k < a.length
      · have hb : k < b.length := by rw [← HL.out]; exact ha
        obtain ⟨ga, oa, rfl, _, _, ca⟩ := HA.out k ha
        obtain ⟨gb, ob, rfl, _, _, cbb⟩ := HB.out k hb
        by_cases he : a[k] = b[k]
        · have hb1 : ((a[k].toNat : Int) == (b[k].toNat : Int)) = true := by simp [he]
          have hb2 : ((a[k].toNat : Int) != (b[k].toNat : Int)) = false := by simp [he]
          have HE := Lib.hid he
          clear he
          go_wp2_with fail
          go_quiet (fail)
          go_wp2_with fail
          go_roundw
          case rel => exact ⟨k + 1, n + nq, by omega, by go_num, rfl, same_upto ha hb HE.out HN.out⟩
          case measure => simp [intOf]; omega
        · have hb1 := u8neI he
          have hb2 : ((a[k].toNat : Int) != (b[k].toNat : Int)) = true := by rw [bne, hb1]; rfl
          have HE : Hid (a ≠ b) := fun e => he (by subst e; rfl)
          clear he
          go_wp2_with fail
          go_quiet (fail)
          go_wp2_with fail
          go_ret
          rw [decide_eq_false HE.out, dd]
          exact ⟨rfl, _, rfl⟩
      · have HE : Hid (a = b) := by
          have h := HN.out
          rw [List.take_of_length_le (by omega), List.take_of_length_le (by rw [← HL.out]; omega)] at h
          exact h
        go_wp2_with fail
        go_ret
        rw [decide_eq_true HE.out]
        exact ⟨rfl, _, rfl⟩
  · have hl1 : ((a.length : Int) != (b.length : Int)) = true := by simp; omega
    have hl2 : ((a.length : Int) == (b.length : Int)) = false := by simp; omega
    have HE : Hid (a ≠ b) := fun e => hl (by rw [e])
    clear hl
    go_enter Tryz.func17, Tryz.ntmps17
    go_wp2_with fail
    go_ret
    rw [decide_eq_false HE.out]
    exact ⟨rfl, 0, rfl⟩
end
end Go.Proofs.YtfhapbggngdckaaGreat
