/- The disk: what Read and Write do, said of a disk that is up and has no fuse. -/
import Derived.Test.YtfhapbggngdckaaGreatClone
import Derived.Test.YtfhapbggngdckaaGreatIMap
namespace Go.Proofs.YtfhapbggngdckaaGreat
open Go.RowKit

set_option maxHeartbeats 400000 in
theorem add_any (b o : Nat) (x y : Int) (w : World) (hc : w.cell? ⟨b, o, none⟩ = some (.int .i64 x)) (hf : w.frozen? ⟨b, o, none⟩ = false) :
    Calls Tryz.prog 133 #[.pointer (some ⟨b, o, none⟩), .int .i64 y] w fun e w' => ∃ s, e = .returned (.int .i64 s) ∧ w' = w.setCell ⟨b, o, none⟩ (.int .i64 s) := by
  have hr : (callFunc 153 #[.pointer (some ⟨b, o, none⟩), .int .i64 y]).run Tryz.prog w = .ok (.value (.int .i64 (IntKind.i64.wrap (x + y)))) (w.setCell ⟨b, o, none⟩ (.int .i64 (IntKind.i64.wrap (x + y)))) :=
    run_call_add Tryz.func153 (by kernel_rfl) (by kernel_rfl) (by kernel_rfl) .i64 (by kernel_rfl) hc hf (by simp [Op.intArith])
  generalize IntKind.i64.wrap (x + y) = s at hr
  go_enter Tryz.func133, Tryz.ntmps133
  go_wp2_with fail
  go_ret
  exact ⟨_, rfl, rfl⟩
set_option maxHeartbeats 400000 in
theorem down_any (db : Nat) (w : World) (v : Bool) (h : w.cell? ⟨db, 5, none⟩ = some (.bool v)) :
    Calls Tryz.prog 132 #[.pointer (some ⟨db, 0, none⟩)] w fun e w' => e = .returned (.bool v) ∧ w' = w := by
  go_enter Tryz.func132, Tryz.ntmps132
  go_wp2_with fail
  go_ret
  exact ⟨rfl, rfl⟩
set_option maxHeartbeats 400000 in
theorem burn_any (db : Nat) (w : World) (h : w.cell? ⟨db, 4, none⟩ = some (.int .i64 (-1))) :
    Calls Tryz.prog 162 #[.pointer (some ⟨db, 0, none⟩)] w fun e w' => e = .returned (.bool true) ∧ w' = w := by
  go_enter Tryz.func162, Tryz.ntmps162
  go_wp2_with fail
  go_ret
  exact ⟨rfl, rfl⟩

/-- A disk of sz sectors, up, without a fuse; sector i holds the bytes sec i; at most k writes are pending. All that it is lies in F. -/
structure DiskOK (w : World) (db sz : Nat) (F : Nat → Prop) (sec : Nat → List UInt8) (k : Nat) : Prop where
  ex : ∃ (nb lb : Nat) (pv : Value) (pn : Nat) (pxs : List Value) (a0 a1 a2 : Int) (m : List (Int × Value)),
    Row w db 134 [.int .i64 sz, .map (some nb), .map (some lb), pv, .int .i64 (-1), .bool false, .int .i64 a0, .int .i64 a1, .int .i64 a2] ∧
    IMap w nb m ∧ w.ownsRow 0 250 2 pv pn pxs ∧ pn ≤ k ∧ F nb ∧ (∀ b, pv.ownBlock = some b → F b) ∧
    (∀ i : Nat, i < sz → ∀ v, imGet (i : Int) m = some v → Own w F 5 v ((sec i).map u8)) ∧ (∀ i : Nat, i < sz → imGet (i : Int) m = none → sec i = List.replicate 256 0)
  len : ∀ i, i < sz → (sec i).length = 256
  fdb : F db
  size : sz ≤ 65536

theorem own_u8_ne {w : World} {B : Nat → Prop} {v : Value} {xs : List Value} {g : Nat} {T : TypeId} {cs : List Value} (h : Own w B 5 v xs) (hr : Row w g T cs) (hT : T ≠ 5) : v.ownBlock ≠ some g := by
  rcases h with ⟨rfl, _⟩ | ⟨g', rest, rfl, _, hr', _⟩
  · simp [Value.ownBlock]
  · simp [Value.ownBlock]; rintro rfl; exact hT (hr.uniq hr').1
theorem own_map_ne {w : World} {B : Nat → Prop} {v : Value} {T : TypeId} {xs : List Value} {g : Nat} {m : List (Int × Value)} (h : Own w B T v xs) (hr : IMap w g m) : v.ownBlock ≠ some g := by
  rcases h with ⟨rfl, _⟩ | ⟨g', rest, rfl, _, hr', _⟩
  · simp [Value.ownBlock]
  · simp [Value.ownBlock]; rintro rfl; exact hr.ne_row hr' rfl
theorem DiskOK.keep {w w' : World} {db sz : Nat} {F G : Nat → Prop} {sec : Nat → List UInt8} {k : Nat} (h : DiskOK w db sz F sec k) (hk : Keep G w w') (hG : ∀ b, b < w.heap.size → F b → ¬ G b) : DiskOK w' db sz F sec k := by
  obtain ⟨⟨nb, lb, pv, pn, pxs, a0, a1, a2, m, hrow, hm, hp, hpn, hnb, hpv, hs, hs0⟩, hlen, hfdb, hsz⟩ := h
  refine ⟨⟨nb, lb, pv, pn, pxs, a0, a1, a2, m, hrow.keep hk (hG _ hrow.lt hfdb), hm.keep hk (hG _ hm.lt hnb), ?_, hpn, hnb, hpv, ?_, hs0⟩, hlen, hfdb, hsz⟩
  · obtain ⟨h1, h2⟩ := hp
    refine ⟨h1, ?_⟩
    rcases h2 with h2 | ⟨g, cap, cur, e, h3, h4, h5⟩
    · exact .inl h2
    · have hg := (Array.getElem?_eq_some_iff.1 h4).1
      exact .inr ⟨g, cap, cur, e, h3, (hk.block g hg (hG g hg (hpv g (by rw [e]; rfl)))).trans h4, h5⟩
  · intro i hi v hv
    exact (hs i hi v hv).keep hk fun b hb he => hG b hb ((hs i hi v hv).blk he).1
theorem DiskOK.more {w : World} {db sz : Nat} {F G : Nat → Prop} {sec : Nat → List UInt8} {k : Nat} (h : DiskOK w db sz F sec k) (hG : ∀ b, b < w.heap.size → F b → G b) : DiskOK w db sz G sec k := by
  obtain ⟨⟨nb, lb, pv, pn, pxs, a0, a1, a2, m, hrow, hm, hp, hpn, hnb, hpv, hs, hs0⟩, hlen, hfdb, hsz⟩ := h
  refine ⟨⟨nb, lb, pv, pn, pxs, a0, a1, a2, m, hrow, hm, hp, hpn, hG _ hm.lt hnb, ?_, fun i hi v hv => (hs i hi v hv).more hG, hs0⟩, hlen, hG _ hrow.lt hfdb, hsz⟩
  intro b hb
  refine hG b ?_ (hpv b hb)
  obtain ⟨_, h2⟩ := hp
  rcases h2 with ⟨rfl, _⟩ | ⟨g, cap, cur, rfl, _, h4, _⟩
  · simp [Value.ownBlock] at hb
  · simp [Value.ownBlock] at hb; subst hb; exact (Array.getElem?_eq_some_iff.1 h4).1
/-- A counter of acts has turned. -/
theorem DiskOK.acts {w : World} {db sz : Nat} {F : Nat → Prop} {sec : Nat → List UInt8} {k : Nat} (h : DiskOK w db sz F sec k) (j : Nat) (hj : j < 3) (s : Int) : DiskOK (w.setCell ⟨db, 6 + j, none⟩ (.int .i64 s)) db sz F sec k := by
  obtain ⟨⟨nb, lb, pv, pn, pxs, a0, a1, a2, m, hrow, hm, hp, hpn, hnb, hpv, hs, hs0⟩, hlen, hfdb, hsz⟩ := h
  have hk : Keep (Just db) w (w.setCell ⟨db, 6 + j, none⟩ (.int .i64 s)) := (Keep.refl (Just db) w).setCell (p := ⟨db, 6 + j, none⟩) (fun _ => rfl) _
  have hrow' := hrow.set (6 + j) (.int .i64 s)
  refine ⟨⟨nb, lb, pv, pn, pxs, if j = 0 then s else a0, if j = 1 then s else a1, if j = 2 then s else a2, m, ?_, hm.keep hk (hm.ne_row hrow), ?_, hpn, hnb, hpv, ?_, hs0⟩, hlen, hfdb, hsz⟩
  · match j, hj with
    | 0, _ => simpa using hrow'
    | 1, _ => simpa using hrow'
    | 2, _ => simpa using hrow'
  · obtain ⟨h1, h2⟩ := hp
    refine ⟨h1, ?_⟩
    rcases h2 with h2 | ⟨g, cap, cur, e, h3, h4, h5⟩
    · exact .inl h2
    · have hg := (Array.getElem?_eq_some_iff.1 h4).1
      have hne : ¬ Just db g := by
        rintro rfl
        unfold Row at hrow
        rw [hrow] at h4
        simp at h4
      exact .inr ⟨g, cap, cur, e, h3, (hk.block g hg hne).trans h4, h5⟩
  · intro i hi v hv
    exact (hs i hi v hv).keep hk fun b hb he hj => by
      cases hj
      exact own_u8_ne (hs i hi v hv) hrow (by decide) he
theorem zero_B (w : World) : (zeroValue 23).run Tryz.prog w = .ok (.slice none 0 0) w := by kernel_rfl

theorem size_DiskOK {w : World} {db sz : Nat} {F : Nat → Prop} {sec : Nat → List UInt8} {k : Nat} (h : DiskOK w db sz F sec k) : db < w.heap.size := by
  obtain ⟨⟨nb, lb, pv, pn, pxs, a0, a1, a2, m, hrow, _⟩, _⟩ := h
  exact hrow.lt

set_option maxRecDepth 20000 in
set_option maxHeartbeats 400000 in
theorem diskRead (w : World) (db sz : Nat) (F : Nat → Prop) (sec : Nat → List UInt8) (k n : Nat) (h : DiskOK w db sz F sec k) (hn : n < sz) :
    Calls Tryz.prog 115 #[.pointer (some ⟨db, 0, none⟩), .int .i64 n] w fun e w' => ∃ v, e = .returned (.tuple #[v, .int .i64 0]) ∧ DiskOK w' db sz F sec k ∧ Keep (Just db) w w' ∧ Own w' (From w.heap.size) 5 v ((sec n).map u8) := by
  have hh := h
  obtain ⟨⟨nb, lb, pv, pn, pxs, a0, a1, a2, m, hrow, hm, hp, hpn, hnb, hpv, hs, hs0⟩, hlen, hfdb, hsz⟩ := h
  have c0 := hrow.cell 0
  have c1 := hrow.cell 1
  have c5 := hrow.cell 5
  have c6 := hrow.cell 6
  have f6 := hrow.frozen 6
  simp only [List.getElem?_cons_zero, List.getElem?_cons_succ] at c0 c1 c5 c6
  have hl := hlen n hn
  have hH := Lib.hid hh
  have hkk : ∀ s, Keep (Just db) w (w.setCell ⟨db, 6, none⟩ (.int .i64 s)) := fun s => (Keep.refl (Just db) w).setCell (p := ⟨db, 6, none⟩) (fun _ => rfl) _
  have HK := Lib.hid hkk
  have HM : ∀ s, IMap (w.setCell ⟨db, 6, none⟩ (.int .i64 s)) nb m := fun s => hm.keep (hkk s) (hm.ne_row hrow)
  clear hkk
  have hdb := hrow.lt
  cases hg : imGet (n : Int) m with
  | some v =>
    have hv := hs n hn v hg
    have HR : Hid (∀ s, Own (w.setCell ⟨db, 6, none⟩ (.int .i64 s)) F 5 v ((sec n).map u8)) := fun s => hv.keep (HK.out s) fun b hb he hj => by
      cases hj
      exact own_u8_ne hv hrow (by decide) he
    have hlk : ∀ s, (Instr.lookup 125 (.map (some nb)) (.int .i64 n) true).run Tryz.prog (w.setCell ⟨db, 6, none⟩ (.int .i64 s)) = .ok (.tuple #[v, .bool true]) (w.setCell ⟨db, 6, none⟩ (.int .i64 s)) := by
      intro s
      have := (HM s).lookup2 (P := Tryz.prog) Tryz.underlying125 Tryz.underlying3 zero_B n
      rw [hg] at this
      exact this
    have HL := Lib.hid hl
    clear hh hp hpn hpv hsz hs hs0 hlen hfdb hnb hm hrow hg HM hv hl
    go_enter Tryz.func115, Tryz.ntmps115
    go_wp2_with (first | (go_at_call 132; refine (down_any _ _ _ c5).mono ?_; rintro e w' ⟨rfl, rfl⟩) | (go_at_call 133; refine (add_any _ _ _ _ _ c6 f6).mono ?_; rintro e w1 ⟨s, rfl, rfl⟩))
    refine (clone_B _ F v _ (HR.out s).rs (cells1_u8 _) (by rw [List.length_map, HL.out]; decide)).mono ?_
    rintro e w2 ⟨v2, rfl, ho, hk⟩
    go_wp2_with fail
    go_ret2
    refine ⟨v2, rfl, ?_, ?_, ?_⟩
    · exact (hH.out.acts 0 (by omega) s).keep hk (fun _ _ _ h => h)
    · exact (HK.out s).trans hk (fun _ _ h => h.elim)
    · simpa using ho
  | none =>
    have hz := hs0 n hn hg
    have hlk : ∀ s, (Instr.lookup 125 (.map (some nb)) (.int .i64 n) true).run Tryz.prog (w.setCell ⟨db, 6, none⟩ (.int .i64 s)) = .ok (.tuple #[.slice none 0 0, .bool false]) (w.setCell ⟨db, 6, none⟩ (.int .i64 s)) := by
      intro s
      have := (HM s).lookup2 (P := Tryz.prog) Tryz.underlying125 Tryz.underlying3 zero_B n
      rw [hg] at this
      exact this
    have HZ := Lib.hid hz
    have hmk : ∀ w : World, (Instr.makeSlice 23 (.int .i64 256) (.int .i64 256)).run Tryz.prog w = .ok (.slice (some ⟨w.heap.size, 0, none⟩) 256 256) (w.alloc (.cells (zs (.int .u8 0) 256).toArray 5)) :=
      fun w => run_mk etB w .i64 .i64 256 256 (by decide) (by decide) (by decide) (by decide)
    clear hh hp hpn hpv hsz hs hs0 hlen hfdb hnb hm hrow hg HM hl hz
    go_enter Tryz.func115, Tryz.ntmps115
    go_wp2_with (first | (go_at_call 132; refine (down_any _ _ _ c5).mono ?_; rintro e w' ⟨rfl, rfl⟩) | (go_at_call 133; refine (add_any _ _ _ _ _ c6 f6).mono ?_; rintro e w1 ⟨s, rfl, rfl⟩))
    go_ret2
    refine ⟨_, rfl, ?_, ?_, ?_⟩
    · exact (hH.out.acts 0 (by omega) s).keep ((Keep.refl No _).alloc _) (fun _ _ _ h => h)
    · exact (HK.out s).trans ((Keep.refl No _).alloc _) (fun _ _ h => h.elim)
    · rw [HZ.out, ← zs_u8]
      have := own_new (w'.setCell ⟨db, 6, none⟩ (.int .i64 s)) 5 (zs (.int .u8 0) 256) (by simp [length_zs])
      simpa [length_zs] using this
theorem own_size2_ne {w : World} {pv : Value} {n base : Nat} {T : TypeId} {xs : List Value} {g : Nat} {T' : TypeId} {cs : List Value} (h : w.ownsRow base T 2 pv n xs) (hr : Row w g T' cs) (hT : T ≠ T') : pv.ownBlock ≠ some g := by
  obtain ⟨_, h2⟩ := h
  rcases h2 with ⟨rfl, _⟩ | ⟨g', cap, cur, rfl, _, h4, _⟩
  · simp [Value.ownBlock]
  · simp [Value.ownBlock]; rintro rfl
    unfold Row at hr
    rw [h4] at hr
    simp at hr
    exact hT hr.2
theorem own_size2_ne_map {w : World} {pv : Value} {n base : Nat} {T : TypeId} {xs : List Value} {g : Nat} {m : List (Int × Value)} (h : w.ownsRow base T 2 pv n xs) (hr : IMap w g m) : pv.ownBlock ≠ some g := by
  obtain ⟨_, h2⟩ := h
  rcases h2 with ⟨rfl, _⟩ | ⟨g', cap, cur, rfl, _, h4, _⟩
  · simp [Value.ownBlock]
  · simp [Value.ownBlock]; rintro rfl
    obtain ⟨es, clock, hb, _⟩ := hr
    rw [h4] at hb
    simp at hb
theorem own_size2_keep {F : Nat → Prop} {w w' : World} {pv : Value} {n base : Nat} {T : TypeId} {xs : List Value} (h : w.ownsRow base T 2 pv n xs) (hk : Keep F w w') (hF : ∀ b, b < w.heap.size → pv.ownBlock = some b → ¬ F b) : w'.ownsRow base T 2 pv n xs := by
  obtain ⟨h1, h2⟩ := h
  refine ⟨h1, ?_⟩
  rcases h2 with h2 | ⟨g, cap, cur, rfl, h3, h4, h5⟩
  · exact .inl h2
  · have hg := (Array.getElem?_eq_some_iff.1 h4).1
    exact .inr ⟨g, cap, cur, rfl, h3, (hk.block g hg (hF g hg rfl)).trans h4, h5⟩
theorem own_u8_keep {F B : Nat → Prop} {w w' : World} {v : Value} {xs : List Value} (h : Own w B 5 v xs) (hk : Keep F w w') (hF : ∀ b cs, F b → Row w b 5 cs → False) : Own w' B 5 v xs := by
  rcases h with h | ⟨g, rest, rfl, hB, hr, hm⟩
  · exact .inl h
  · exact .inr ⟨g, rest, rfl, hB, hr.keep hk (fun hf => hF g _ hf hr), hm⟩
theorem info_write : (Tryz.prog.info? 250).map (fun i => (i.zero, i.size, i.bytes)) = some (some (.agg #[.int .i64 0, .slice none 0 0]), 2, 32) := by kernel_rfl

set_option maxRecDepth 20000 in
set_option maxHeartbeats 400000 in
theorem diskWrite (w : World) (db sz : Nat) (F D : Nat → Prop) (sec : Nat → List UInt8) (k n : Nat) (v : Value) (l : List UInt8) (h : DiskOK w db sz F sec k) (hn : n < sz) (hv : BS w D v l) (hll : l.length = 256) (hkk : k < 1099511627776) (hD : ¬ D db)
    (hF : ∀ b, F b → b < w.heap.size) :
    Calls Tryz.prog 152 #[.pointer (some ⟨db, 0, none⟩), .int .i64 n, v] w fun e w' => e = .returned (.int .i64 0) ∧ ∃ F', DiskOK w' db sz F' (fun i => if i = n then l else sec i) (k + 1) ∧ Keep F w w' ∧ (∀ b, F' b → b < w'.heap.size ∧ (F b ∨ w.heap.size ≤ b)) := by
  obtain ⟨⟨nb, lb, pv, pn, pxs, a0, a1, a2, m, hrow, hm, hp, hpn, hnb, hpv, hs, hs0⟩, hlen, hfdb, hsz⟩ := h
  have c0 := hrow.cell 0
  have c1 := hrow.cell 1
  have c3 := hrow.cell 3
  have c4 := hrow.cell 4
  have c5 := hrow.cell 5
  have c7 := hrow.cell 7
  have f7 := hrow.frozen 7
  simp only [List.getElem?_cons_zero, List.getElem?_cons_succ] at c0 c1 c3 c4 c5 c7
  have hv' := hv
  obtain ⟨ao, cap, rfl, hcap, hcm, hcell⟩ := hv'
  rw [List.length_map, hll] at hcap ⊢
  obtain ⟨i0, hi0, hz1, hz2, hz3⟩ := info_parts info_write
  have HV : Hid (∀ s, RS (w.setCell ⟨db, 7, none⟩ (.int .i64 s)) D (.slice ao 256 cap) (l.map u8)) := by
    intro s
    have := hv.keep ((Keep.refl (Just db) w).setCell (p := ⟨db, 7, none⟩) (fun _ => rfl) (.int .i64 s)) (fun b _ hb hj => hD (by cases hj; exact hb))
    rwa [List.length_map, hll] at this
  have HL := Lib.hid hll
  have HM := Lib.hid hm
  have HR := Lib.hid hrow
  have HP := Lib.hid hp
  have HS := Lib.hid hs
  have HS0 := Lib.hid hs0
  have HLN := Lib.hid hlen
  have HPV := Lib.hid hpv
  clear hv hll hcell hm hrow hp hs hs0 hlen hpv
  go_enter Tryz.func152, Tryz.ntmps152
  go_wp2_with (first
    | (go_at_call 132; refine (down_any _ _ _ c5).mono ?_; rintro e w' ⟨rfl, rfl⟩)
    | (go_at_call 162; refine (burn_any _ _ c4).mono ?_; rintro e w' ⟨rfl, rfl⟩)
    | (go_at_call 133; refine (add_any _ _ _ _ _ c7 f7).mono ?_; rintro e w1 ⟨s, rfl, rfl⟩))
  obtain ⟨W1, hW1⟩ : ∃ W1, W1 = w'.setCell ⟨db, 7, none⟩ (.int .i64 s) := ⟨_, rfl⟩
  rw [← hW1]
  have k1 : Keep (Just db) w' W1 := hW1 ▸ (Keep.refl (Just db) w').setCell (p := ⟨db, 7, none⟩) (fun _ => rfl) (.int .i64 s)
  have r1 : Row W1 db 134 _ := hW1 ▸ HR.out.set 7 (.int .i64 s)
  have hv1 := HV.out s
  rw [← hW1] at hv1
  have K1 := Lib.hid k1
  have R1 := Lib.hid r1
  have HW := Lib.hid hW1
  clear hW1 k1 r1 HV c0 c1 c3 c4 c5 c7 f7
  refine (clone_B _ D _ _ hv1 (cells1_u8 _) (by rw [List.length_map, HL.out]; decide)).mono ?_
  rintro e w2 ⟨v2, rfl, ho, hk2⟩
  rcases id ho with ⟨rfl, he⟩ | ⟨g, rest, rfl, hg, hrg, hgm⟩
  · have := HL.out
    have e1 : (l.map u8).length = 0 := by rw [he]; rfl
    rw [List.length_map] at e1
    omega
  rw [List.length_map, HL.out] at ho ⊢
  have r2 := R1.out.keep hk2 (fun h => h)
  simp only [List.set_cons_succ, List.set_cons_zero] at r2
  have m2 : IMap w2 nb m := (HM.out.keep K1.out (HM.out.ne_row HR.out)).keep hk2 (fun h => h)
  have d1 := r2.cell 1
  simp only [List.getElem?_cons_zero, List.getElem?_cons_succ] at d1
  have M2 := Lib.hid m2
  have R2 := Lib.hid r2
  have HO := Lib.hid ho
  have K2 := Lib.hid hk2
  clear m2 r2 ho hk2 hv1
  have HG := Lib.hid hrg
  have HG2 := Lib.hid hg
  have P2 := Lib.hid (own_size2_keep (own_size2_keep HP.out K1.out (fun b _ hb hj => own_size2_ne HP.out HR.out (by decide) (by cases hj; exact hb))) K2.out (fun _ _ _ h => h))
  clear hrg hg hgm
  go_wp2_with (first
    | (at_mapUpdate; refine wpList_mapUpdate_I (v := .slice (some ⟨g, 0, none⟩) 256 (256 + rest.length)) rfl _ _ _ Tryz.underlying125 Tryz.underlying3 rfl M2.out rfl rfl rfl ?_; intro w3 m3 k3; have r3 := R2.out.keep k3 (M2.out.ne_row R2.out).symm; have R3 := Lib.hid r3; have d3 := r3.cell 3; have f3 := r3.frozen 3; have q3 := r3.lt; simp only [List.getElem?_cons_zero, List.getElem?_cons_succ] at d3; have P3 := Lib.hid (own_size2_keep P2.out k3 (fun b _ hb hj => own_size2_ne_map P2.out M2.out (by cases hj; exact hb))); have M3 := Lib.hid m3; have K3 := Lib.hid k3; clear m3 k3 d1 r3)
    | (at_builtin; refine wpList_append_own_at (P := Tryz.prog) (w3.alloc (.cells #[.int .i64 n, .slice (some ⟨g, 0, none⟩) 256 (256 + rest.length)] 250)) rfl _ _ _ rfl 0 250 i0 _ 2 32 Tryz.underlying126 hi0 hz1 hz2 hz3 rfl (by decide) pv pn pxs rfl (P3.out.alloc _) ⟨w3.heap.size, 0, none⟩ 1 1 [.int .i64 n, .slice (some ⟨g, 0, none⟩) 256 (256 + rest.length)] rfl rfl ?_ ?_ (by unfold maxLen; omega) (by omega) (by omega) ?_; rotate_right; intro v4 w4 o4 g4 _ b4; obtain ⟨q, cq, rfl, _, hq⟩ := o4.form (by omega); have r4 := (R3.out.alloc (.cells #[.int .i64 n, .slice (some ⟨g, 0, none⟩) 256 (256 + rest.length)] 250)).keep (Keep.of_grown g4) (own_size2_ne P3.out R3.out (by decide)); have R4 := Lib.hid r4; have d4 := r4.cell 3; have f4 := r4.frozen 3; simp only [List.getElem?_cons_zero, List.getElem?_cons_succ] at d4; have O4 := Lib.hid o4; have G4 := Lib.hid g4; have B4 := Lib.hid b4; clear r4 o4 g4 b4 d3 f3))
  rotate_left
  · intro j u hj
    match j, hj with
    | 0, hj => simp at hj; subst hj; simp [Addr.add]
    | 1, hj => simp at hj; subst hj; simp [Addr.add]
  · intro u hu
    simp at hu
    rcases hu with rfl | rfl <;> rfl
  · go_ret
    refine ⟨rfl, ?_⟩
    obtain ⟨G, hG⟩ : ∃ G : Nat → Prop, G = fun b => b = db ∨ b = nb ∨ pv.ownBlock = some b := ⟨_, rfl⟩
    have e3 : w'.heap.size ≤ w3.heap.size := Nat.le_trans K1.out.size (Nat.le_trans K2.out.size K3.out.size)
    have kA : Keep G w2 (w4.setCell ⟨db, 3, none⟩ (.slice (some ⟨q, 0, none⟩) (pn + 1) cq)) :=
      (((K3.out.mono (G := G) (fun i _ h => by subst hG; exact .inr (.inl h))).alloc (.cells #[.int .i64 n, .slice (some ⟨g, 0, none⟩) 256 (256 + rest.length)] 250)).trans (Keep.of_grown G4.out) (fun i _ h => by subst hG; exact .inr (.inr h))).setCell
        (p := ⟨db, 3, none⟩) (fun _ => by subst hG; exact .inl rfl) _
    have kB : Keep G w' (w4.setCell ⟨db, 3, none⟩ (.slice (some ⟨q, 0, none⟩) (pn + 1) cq)) :=
      (K1.out.mono (G := G) (fun i _ h => by subst hG; exact .inl h)).trans ((K2.out.any G).trans kA (fun _ _ h => h)) (fun _ _ h => h)
    have nB : ∀ b cs, G b → Row w' b 5 cs → False := by
      intro b cs hb hr
      subst hG
      rcases hb with rfl | rfl | hb
      · exact absurd (hr.uniq HR.out).1 (by decide)
      · exact HM.out.ne_row hr rfl
      · exact own_size2_ne HP.out hr (by decide) hb
    have nA : ∀ b cs, G b → Row w2 b 5 cs → False := by
      intro b cs hb hr
      subst hG
      rcases hb with rfl | rfl | hb
      · exact absurd (hr.uniq R2.out).1 (by decide)
      · exact M2.out.ne_row hr rfl
      · exact own_size2_ne P2.out hr (by decide) hb
    have hGF : ∀ b, G b → F b := by
      intro b hb
      subst hG
      rcases hb with rfl | rfl | hb
      · exact hfdb
      · exact hnb
      · exact HPV.out b hb
    obtain ⟨w5, hw5⟩ : ∃ w5, w5 = w4.setCell ⟨db, 3, none⟩ (.slice (some ⟨q, 0, none⟩) (pn + 1) cq) := ⟨_, rfl⟩
    have sz5 : w5.heap.size = w4.heap.size := by rw [hw5]; simp
    have e4 : w3.heap.size + 1 ≤ w4.heap.size := by have := G4.out.size; simpa using this
    have hq5 : q < w5.heap.size := by rw [sz5]; exact hq
    have e0 : w'.heap.size ≤ W1.heap.size := K1.out.size
    have e1 : W1.heap.size ≤ w2.heap.size := K2.out.size
    have e2 : w2.heap.size ≤ w3.heap.size := K3.out.size
    rw [← hw5] at kA kB ⊢
    have hB4 : pv.ownBlock = some q ∨ q = w3.heap.size + 1 := by
      rcases B4.out with h | h
      · exact .inl h.symm
      · simp [Value.ownBlock] at h; exact .inr h
    have hf' : ∀ b, b < w'.heap.size → F b → F b ∨ (w'.heap.size ≤ b ∧ b < w5.heap.size) := fun b _ h => .inl h
    refine ⟨fun b => F b ∨ (w'.heap.size ≤ b ∧ b < w5.heap.size), ⟨⟨nb, lb, .slice (some ⟨q, 0, none⟩) (pn + 1) cq, pn + 1, pxs ++ [.int .i64 n, .slice (some ⟨g, 0, none⟩) 256 (256 + rest.length)], a0, s, a2, imPut n (.slice (some ⟨g, 0, none⟩) 256 (256 + rest.length)) m, ?_, ?_, ?_, by omega, .inl hnb, ?_, ?_, ?_⟩, ?_, .inl hfdb, hsz⟩, kB.mono (fun b _ h => hGF b h), ?_⟩
    · rw [hw5]
      have := R4.out.set 3 (.slice (some ⟨q, 0, none⟩) (pn + 1) cq)
      simpa using this
    · rw [hw5]
      exact (((M3.out.keep ((Keep.refl No _).alloc (.cells #[.int .i64 n, .slice (some ⟨g, 0, none⟩) 256 (256 + rest.length)] 250)) (fun h => h)).keep (Keep.of_grown G4.out) (own_size2_ne_map P3.out M3.out)).keep ((Keep.refl (Just db) _).setCell (p := ⟨db, 3, none⟩) (fun _ => rfl) _)
        (fun h => M3.out.ne_row R3.out h))
    · rw [hw5]
      exact own_size2_keep O4.out ((Keep.refl (Just db) _).setCell (p := ⟨db, 3, none⟩) (fun _ => rfl) _) (fun b _ hb hj => own_size2_ne O4.out R4.out (by decide) (by cases hj; exact hb))
    · intro b hb
      simp only [Value.ownBlock, Option.some.injEq] at hb
      subst hb
      rcases hB4 with hB4 | hB4
      · exact .inl (HPV.out _ hB4)
      · exact .inr ⟨by omega, hq5⟩
    · intro i hi v hv
      rw [imGet_put] at hv
      by_cases hin : i = n
      · subst hin
        rw [if_pos rfl] at hv
        cases hv
        rw [if_pos rfl]
        refine (own_u8_keep HO.out kA nA).more (fun b hb h => .inr ⟨?_, hb⟩)
        have : W1.heap.size ≤ b := h
        omega
      · rw [if_neg (by omega)] at hv
        rw [if_neg hin]
        exact (own_u8_keep (HS.out i hi v hv) kB nB).more (fun b hb h => .inl h)
    · intro i hi hv
      rw [imGet_put] at hv
      by_cases hin : i = n
      · subst hin
        rw [if_pos rfl] at hv
        cases hv
      · rw [if_neg (by omega)] at hv
        rw [if_neg hin]
        exact HS0.out i hi hv
    · intro i hi
      by_cases hin : i = n
      · rw [if_pos hin]; exact HL.out
      · rw [if_neg hin]; exact HLN.out i hi
    · intro b hb
      rcases hb with hb | hb
      · exact ⟨by have := hF b hb; omega, .inl hb⟩
      · exact ⟨hb.2, .inr hb.1⟩
end Go.Proofs.YtfhapbggngdckaaGreat
