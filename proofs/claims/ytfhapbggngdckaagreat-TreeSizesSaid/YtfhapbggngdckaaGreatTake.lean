/- Nodes: take, number. -/
import Derived.Test.YtfhapbggngdckaaGreatNodeW
import Derived.Laws.BitsLemmas
namespace Go.Proofs.YtfhapbggngdckaaGreat
set_option linter.unusedSimpArgs false
set_option linter.unusedVariables false
open Go.RowKit
section
variable {P : Program} {t e : TypeId} {z : Value} {bytes : Nat} {w : World} {D : Nat → Prop} {u : Value} {xs : List Value}
theorem RS.slice_drop (E : ET P t e z bytes) (h : RS w D u xs) (lo : Nat) (hl : lo ≤ xs.length) : ∃ u', (∀ W, (Instr.slice t u (some (.int .i64 lo)) none none).run P W = .ok u' W) ∧ RS w D u' (xs.drop lo) := by
  obtain ⟨ao, cap, rfl, hcap, hm, hcell⟩ := h
  refine ⟨_, fun W => run_slice_lo E ao xs.length cap lo hl W, ?_⟩
  refine ⟨_, _, by rw [List.length_drop], by simp; omega, by omega, fun hp => ?_⟩
  rw [List.length_drop] at hp
  obtain ⟨b, o, rfl, h1, h2, hc⟩ := hcell (by omega)
  refine ⟨b, o + lo, ?_, h1, h2, fun i hi => ?_⟩
  · rw [if_neg (by omega)]; simp [Addr.add_lit]
  · rw [List.length_drop] at hi
    rw [Nat.add_assoc, hc (lo + i) (by omega), List.getElem?_drop]
theorem RS.slice_take3 (E : ET P t e z bytes) (h : RS w D u xs) (hi : Nat) (hl : hi ≤ xs.length) : ∃ u', (∀ W, (Instr.slice t u none (some (.int .i64 hi)) (some (.int .i64 hi))).run P W = .ok u' W) ∧ RS w D u' (xs.take hi) := by
  obtain ⟨ao, cap, rfl, hcap, hm, hcell⟩ := h
  obtain ⟨i, hi', hz, hs, hby⟩ := E.hi
  have h1 : hi ≤ cap := by omega
  refine ⟨.slice (if hi = 0 then ao else ao.map (·.add 0)) hi hi, fun W => ?_, ?_⟩
  · simp [Instr.slice, run_underlying E.ht, Instr.sliceBounds, Instr.sliceBound, asIntOf, h1, sizeOf, typeInfo, hi', hs]
  · refine ⟨if hi = 0 then ao else ao.map (·.add 0), hi, by simp [Nat.min_eq_left hl], by simp; omega, by omega, fun hp => ?_⟩
    rw [List.length_take] at hp
    obtain ⟨b, o, rfl, h1, h2, hc⟩ := hcell (by omega)
    refine ⟨b, o, by split <;> simp [Addr.add_lit], h1, h2, fun i hi => ?_⟩
    rw [List.length_take] at hi
    rw [hc i (by omega), List.getElem?_take_of_lt (by omega)]
end
section
variable {w : World} {D : Nat → Prop} {v : Value} {l : List UInt8} {b : Nat}
/-- What take leaves. -/
structure Taken (w : World) (D : Nat → Prop) (b : Nat) (l : List UInt8) (n : Nat) (c : Value) (w' : World) : Prop where
  rest : ∃ v', Row w' b 23 [v'] ∧ BS w' D v' (l.drop n)
  own : Own w' (From w.heap.size) 5 c ((l.take n).map u8)
  keep : Keep (Just b) w w'
set_option maxRecDepth 20000 in
set_option maxHeartbeats 800000 in
theorem take_any (hb : Row w b 23 [v]) (h : BS w D v l) (hD : ¬ D b) (n : Nat) (hn : n ≤ l.length) (hl : l.length ≤ 100000) :
    Calls Tryz.prog 117 #[.pointer (some ⟨b, 0, none⟩), .int .i64 n] w fun e w' => ∃ c, e = .returned (.tuple #[c, .bool true]) ∧ Taken w D b l n c w' := by
  obtain ⟨v1, hr1, h1⟩ := RS.slice_take3 (P := Tryz.prog) etB h n (by simpa using hn)
  obtain ⟨v2, hr2, h2⟩ := RS.slice_drop (P := Tryz.prog) etB h n (by simpa using hn)
  obtain ⟨v2o, v2c, e2', _⟩ := h2.form
  generalize hn2 : (List.drop n (List.map u8 l)).length = n2 at e2'
  subst e2'
  have c0 := hb.cell 0
  have f0 := hb.frozen 0
  simp only [List.getElem?_cons_zero] at c0
  obtain ⟨ao, cap, rfl, la, HA⟩ := h.form
  have hlt : decide ((l.length : Int) < (n : Int)) = false := by simp; omega
  have hk : Keep (Just b) w (w.setCell ⟨b, 0, none⟩ (.slice v2o n2 v2c)) := (Keep.refl (Just b) w).setCell (p := ⟨b, 0, none⟩) (fun _ => rfl) _
  have hrow := hb.set 0 (.slice v2o n2 v2c)
  rw [List.set_cons_zero] at hrow
  have hnj : ∀ k, k < w.heap.size → D k → ¬ Just b k := fun k _ hd e => by unfold Just at e; subst e; exact hD hd
  have g1 := h1.keep hk hnj
  have g2 := h2.keep hk hnj
  rw [← List.map_take] at g1
  rw [← List.map_drop] at g2
  have HROW := Lib.hid hrow
  have HK := Lib.hid hk
  have HLT := Lib.hid hb.lt
  have HD := Lib.hid hD
  have HL := Lib.hid hl
  have G1 := Lib.hid g1
  have G2 := Lib.hid g2
  clear hb h h1 h2 hrow hk hnj g1 g2 hD hl hn2
  go_enter Tryz.func117, Tryz.ntmps117
  go_wp2_with (go_at_call 51; refine (clone_B _ _ _ _ G1.out (cells1_u8 _) (by have := HL.out; rw [List.length_map, List.length_take]; omega)).mono ?_; rintro e w4 ⟨v4, rfl, ho4, hk4⟩; have HO4 := Lib.hid ho4; have HK4 := Lib.hid hk4; clear ho4 hk4)
  go_ret2
  have hs : w.heap.size = (w.setCell ⟨b, 0, none⟩ (.slice v2o n2 v2c)).heap.size := by simp
  refine ⟨v4, rfl, ⟨⟨_, HROW.out.keep HK4.out (fun h => h), G2.out.keep HK4.out (fun _ _ _ h => h)⟩, ?_, HK.out.trans (HK4.out.any _) (fun _ _ h => h)⟩⟩
  exact HO4.out.more (fun k _ h => by unfold From at *; omega)
theorem or_byte (x y : Nat) (hx : x < 16777216) (hy : y < 256) : bits .or .i64 ((x : Int) * 256) (y : Int) = (x : Int) * 256 + (y : Int) :=
  bits_join .i64 40 (by decide) (fun n h1 h2 => IntWalk.i64_in _ (by omega)) 8 _ _ (by omega) (by omega) (by omega) (by omega) (by omega) (by omega)
def be (l : List UInt8) : Nat := l.foldl (fun x b => x * 256 + b.toNat) 0
theorem be_snoc (l : List UInt8) (b : UInt8) : be (l ++ [b]) = be l * 256 + b.toNat := by unfold be; rw [List.foldl_append]; rfl
theorem be_lt : ∀ (n : Nat) (l : List UInt8), l.length = n → be l < 256 ^ n
  | 0, l, h => by rw [List.eq_nil_of_length_eq_zero h]; simp [be]
  | n + 1, l, h => by
    have hne : l ≠ [] := by intro e; subst e; simp at h
    rw [← List.dropLast_concat_getLast hne, be_snoc]
    have := be_lt n l.dropLast (by rw [List.length_dropLast]; omega)
    have h2 := (l.getLast hne).toNat_lt
    rw [Nat.pow_succ]
    omega
theorem be_lt3 (l : List UInt8) (h : l.length ≤ 3) : be l < 16777216 := by
  have h1 := be_lt l.length l rfl
  have h2 : 256 ^ l.length ≤ 256 ^ 3 := Nat.pow_le_pow_right (by omega) h
  omega
set_option maxRecDepth 20000 in
set_option maxHeartbeats 800000 in
theorem number_any (hb : Row w b 23 [v]) (h : BS w D v l) (hD : ¬ D b) (n : Nat) (hn : n ≤ l.length) (hl : l.length ≤ 100000) (hn4 : n ≤ 4) :
    Calls Tryz.prog 116 #[.pointer (some ⟨b, 0, none⟩), .int .i64 n] w fun e w' => e = .returned (.int .i64 (be (l.take n))) ∧ ∃ c, Taken w D b l n c w' := by
  have HT := Lib.hid (take_any hb h hD n hn hl)
  have HLN : Hid ((l.take n).length = n) := by unfold Hid; rw [List.length_take]; omega
  clear hb h hD
  generalize hm : l.take n = m at *
  go_enter Tryz.func116, Tryz.ntmps116
  go_wp2_with (go_at_call 117; refine HT.out.mono ?_; rintro e w1 ⟨c, rfl, ht⟩; have HTK := Lib.hid ht; have ho := ht.own; rw [hm] at ho; obtain ⟨co, cc, rfl, lc, HC⟩ := BS.form (show BS w1 _ c m from ho.rs); clear ht ho)
  go_loop [5, 18] (fun x i => ∃ k : Nat, k ≤ m.length ∧ i = .int .i64 k ∧ x = .int .i64 (be (m.take k))) (fun _ i => m.length - (intOf i).toNat)
  case atStart => exact ⟨0, Nat.zero_le _, rfl, rfl⟩
  case round =>
    obtain ⟨k, hk, rfl, rfl⟩ := hrel
    by_cases hlt : k < m.length
    · obtain ⟨g, o, rfl, _, _, hc⟩ := HC.out k hlt
      have hb3 := be_lt3 (m.take k) (by have := HLN.out; rw [List.length_take]; omega)
      have hu := m[k].toNat_lt
      have hor := or_byte _ _ hb3 hu
      have HBE : Hid ((be (m.take (k + 1)) : Int) = (be (m.take k) : Int) * 256 + (m[k].toNat : Int)) := by
        unfold Hid; rw [List.take_succ_eq_append_getElem hlt, be_snoc]; omega
      go_wp2_with fail
      go_round
      case rel => exact ⟨k + 1, by omega, by go_num, by rw [HBE.out]⟩
      case measure => simp [intOf]; omega
    · obtain rfl : k = m.length := by omega
      go_wp2_with fail
      go_ret
      exact ⟨rfl, _, HTK.out⟩
end
end Go.Proofs.YtfhapbggngdckaaGreat
