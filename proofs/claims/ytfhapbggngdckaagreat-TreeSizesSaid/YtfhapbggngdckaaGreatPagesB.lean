/- Pages: Alloc, Put, Free. -/
import Derived.Test.YtfhapbggngdckaaGreatPages
namespace Go.Proofs.YtfhapbggngdckaaGreat
open Go.RowKit

def upd (img : Nat → List UInt8) (n : Nat) (l : List UInt8) : Nat → List UInt8 := fun i => if i = n then l else img i
section
variable {off : Nat} {fs : List (Int × Fr)} {st : List Int} {sec : Nat → List UInt8} {img : Nat → List UInt8}
theorem mem_unique {n : Int} {f f' : Fr} (hnd : (fs.map (·.1)).Nodup) (h : (n, f) ∈ fs) (h' : (n, f') ∈ fs) : f = f' := by
  obtain ⟨a, ha, hqa⟩ := List.getElem_of_mem h
  obtain ⟨b, hb, hqb⟩ := List.getElem_of_mem h'
  rcases Nat.lt_trichotomy a b with hlt | heq | hgt
  · exact ((List.pairwise_iff_getElem.1 hnd) a b (by simpa using ha) (by simpa using hb) hlt (by simp [hqa, hqb])).elim
  · subst heq
    have := hqa.symm.trans hqb
    simpa using this
  · exact ((List.pairwise_iff_getElem.1 hnd) b a (by simpa using hb) (by simpa using ha) hgt (by simp [hqa, hqb])).elim
theorem Content.land {n : Nat} (h : Content off fs st sec img (fun m => m = n)) {f : Fr} (hf : ((n : Int), f) ∈ fs) (hnd : (fs.map (·.1)).Nodup) {st' : List Int} (hu : UsedSt st' n) (hst : ∀ m, m ≠ n → (UsedSt st' m ↔ UsedSt st m))
    (hd : f.dirty = false → ∀ j, j < 4 → sec (off + 4 * n + j) = chunk j f.data) : Content off fs st' sec (upd img n f.data) (fun _ => False) := by
  refine ⟨fun m g hm _ => ?_, fun m hum _ hm => ?_⟩
  · by_cases hmn : m = n
    · subst hmn
      have := mem_unique hnd hf hm
      subst this
      exact ⟨hu, by simp [upd], hd⟩
    · obtain ⟨h1, h2, h3⟩ := h.frame m g hm hmn
      exact ⟨(hst m hmn).2 h1, by simp [upd, hmn, h2], h3⟩
  · by_cases hmn : m = n
    · subst hmn
      exact absurd (List.mem_map.2 ⟨_, hf, rfl⟩) hm
    · have := h.out m ((hst m hmn).1 hum) hmn hm
      simpa [upd, hmn] using this
theorem Content.gone {n : Nat} (h : Content off fs st sec img (fun m => m = n)) (hn : (n : Int) ∉ fs.map (·.1)) {st' : List Int} (hu : ¬ UsedSt st' n) (hst : ∀ m, m ≠ n → (UsedSt st' m ↔ UsedSt st m)) : Content off fs st' sec img (fun _ => False) := by
  refine ⟨fun m g hm _ => ?_, fun m hum _ hm => ?_⟩
  · have hmn : m ≠ n := by
      rintro rfl
      exact hn (List.mem_map.2 ⟨_, hm, rfl⟩)
    obtain ⟨h1, h2, h3⟩ := h.frame m g hm hmn
    exact ⟨(hst m hmn).2 h1, h2, h3⟩
  · have hmn : m ≠ n := by
      rintro rfl
      exact hu hum
    exact h.out m ((hst m hmn).1 hum) hmn hm
/-- In limbo nothing is said of a page. -/
theorem Content.limbo {n : Nat} (h : Content off fs st sec img (fun _ => False)) {st' : List Int} (hst : ∀ m, m ≠ n → (UsedSt st' m ↔ UsedSt st m)) : Content off fs st' sec img (fun m => m = n) :=
  ⟨fun m g hm hl => by
      obtain ⟨h1, h2, h3⟩ := h.frame m g hm (fun h => h)
      exact ⟨(hst m hl).2 h1, h2, h3⟩, fun m hum hl hm => h.out m ((hst m hl).1 hum) (fun h => h) hm⟩
end
theorem used_set (st : List Int) (n : Nat) (s : Int) (m : Nat) (h : m ≠ n) : UsedSt (st.set n s) m ↔ UsedSt st m := by
  unfold UsedSt
  rw [List.getElem?_set_ne (fun e => h e.symm)]
section
variable {w w' : World} {F : Nat → Prop} {pb : Nat} {st : List Int} {img : Nat → List UInt8} {k : Nat}
theorem ixOf_spec {x : Int} {l : List Int} {n : Nat} (h : ixOf x l = n) : l[n]? = some x := by
  unfold ixOf at h
  cases hf : l.findIdx? (· == x) with
  | none => rw [hf] at h; simp at h
  | some i =>
    rw [hf] at h
    simp only at h
    obtain rfl : i = n := by omega
    rw [List.findIdx?_eq_some_iff_getElem] at hf
    obtain ⟨h1, h2, _⟩ := hf
    rw [List.getElem?_eq_getElem h1]
    simpa using h2
set_option maxRecDepth 20000 in
set_option maxHeartbeats 800000 in
theorem alloc_any (h : PagesOK w F pb st img k) (n : Nat) (hn : ixOf 0 st = n) (hk : k < 1099511627770) :
    Calls Tryz.prog 80 #[.pointer (some ⟨pb, 0, none⟩)] w fun e w' => e = .returned (.tuple #[.int .i64 n, .int .i64 0]) ∧ PTo w F pb (st.set n 2) (upd img n (List.replicate 1024 0)) k 4 (fun _ _ => True) w' := by
  obtain ⟨ib0, c3, hr0, c6, _⟩ := h.cells
  obtain ⟨⟨FD, g, uv, ul, fs, sec, rfl, hr, hc, hp, hp1, hpl⟩⟩ := h
  have hst := ixOf_spec hn
  have hnl : n < st.length := (List.getElem?_eq_some_iff.1 hst).1
  have hnu : ¬ UsedSt st n := by
    rintro (h | h) <;> rw [hst] at h <;> simp at h
  have hin : (n : Int) ∉ fs.map (·.1) := by
    intro hm
    obtain ⟨⟨x, f⟩, hf, e⟩ := List.mem_map.1 hm
    simp only at e
    subst e
    exact hnu (hc.frame n f hf (fun h => h)).1
  have hmk : ∀ w : World, (Instr.makeSlice 23 (.int .i64 1024) (.int .i64 1024)).run Tryz.prog w = .ok (.slice (some ⟨w.heap.size, 0, none⟩) 1024 1024) (w.alloc (.cells (zs (.int .u8 0) 1024).toArray 5)) :=
    fun w => run_mk etB w .i64 .i64 1024 1024 (by decide) (by decide) (by decide) (by decide)
  have HI := Lib.hid (index_S w _ (.slice (some ⟨ib0, 0, none⟩) st.length st.length) st 0 (hr0.rs st.length (by simp) (by have := hr.small.1; omega)))
  rw [hn] at HI
  have hib : ib0 = g.ib := by
    have := hr.row.cell 3
    rw [c3] at this
    simp at this
    exact this
  subst hib
  have hsm := hr.small.1
  obtain ⟨fr, hfr⟩ : ∃ fr : Fr, fr = ⟨w.heap.size + 1, .slice (some ⟨w.heap.size, 0, none⟩) 1024 1024, true, List.replicate 1024 0⟩ := ⟨_, rfl⟩
  obtain ⟨W, hW⟩ : ∃ W, W = (w.alloc (.cells (zs (.int .u8 0) 1024).toArray 5)).alloc (.cells #[.int .i64 n, .slice (some ⟨w.heap.size, 0, none⟩) 1024 1024, .bool true] 206) := ⟨_, rfl⟩
  have kW : Keep No w W := by rw [hW]; exact ((Keep.refl No w).alloc _).alloc _
  have hfo : FrOK W (fun b => w.heap.size ≤ b ∧ b < W.heap.size) n fr := by
    have hs : W.heap.size = w.heap.size + 2 := by rw [hW]; simp
    subst hfr
    refine ⟨?_, ⟨by simp, by rw [hs]; simp⟩, ?_, by simp⟩
    · have := Row.new (w.alloc (.cells (zs (.int .u8 0) 1024).toArray 5)) 206 [.int .i64 n, .slice (some ⟨w.heap.size, 0, none⟩) 1024 1024, .bool true]
      rw [hW]
      simpa using this
    · have h1 := own_new w 5 (zs (.int .u8 0) 1024) (by simp [length_zs])
      rw [length_zs] at h1
      rw [hW, ← zs_u8]
      exact (h1.keep ((Keep.refl No _).alloc _) (fun _ _ _ h => h)).more (fun b hb h => ⟨h, by simp at hb ⊢; omega⟩)
  have hrW := hr.keep kW (fun _ _ h => h)
  have HP := Lib.hid (put_any hrW (lim := fun m => m = n) (hc.limbo (n := n) (st' := st) (fun _ _ => Iff.rfl)) hp hp1 hpl n hnl (fun _ => Iff.rfl) fr hfo (fun b hb hfd => by have := hr.lt b (hr.sub b hfd); omega) (fun b hb => hb.2) hk)
  have HKW := Lib.hid kW
  have HFR := Lib.hid hfr
  have HH := Lib.hid hr
  have HC := Lib.hid hc
  have HST := Lib.hid hst
  have hsW : Hid (W.heap.size = w.heap.size + 2) := by show W.heap.size = _; rw [hW]; simp
  have hpb : fr.b = w.heap.size + 1 := by rw [hfr]
  rw [hpb] at HP
  clear hr hr0 hc hst hnu hin hfo hrW kW hfr hn
  obtain ⟨pb, pool, db, off, sz, ib, fb⟩ := g
  simp only at c3 c6 HI HP hp hp1 hpl ⊢
  have HWW := Lib.hid hW
  clear hW
  go_enter Tryz.func80, Tryz.ntmps80
  go_wp2_with (first
    | (go_at_call 92; refine (lost_any _ _ _ c6).mono ?_; rintro e w1 ⟨rfl, rfl⟩)
    | (go_at_call 113; refine HI.out.mono ?_; rintro e w1 ⟨rfl, rfl⟩)
    | (go_at_call 114; rw [← HWW.out]; refine HP.out.mono ?_; rintro e w2 ⟨rfl, ⟨⟨F2, FD2, uv2, ul2, fs2, sec2, k2, hr2, hk2, hc2, hl2, hin2, hs2, hkp2, hF2⟩⟩⟩; have d3 := hr2.row.cell 3; have di := hr2.is.cell n; have dz := hr2.is.frozen n; rw [List.getElem?_map, HST.out, Option.map_some] at di; simp only [List.getElem?_cons_zero, List.getElem?_cons_succ] at d3; have HR2 := Lib.hid hr2; have HC2 := Lib.hid hc2; have HL2 := Lib.hid hl2; have HIN2 := Lib.hid hin2; have HKP2 := Lib.hid hkp2; have HF2 := Lib.hid hF2; clear hr2 hc2 hl2 hin2 hs2 hkp2 hF2 c3 c6))
  go_ret2
  have hrs := HR2.out.setSt n 2
  have hdat : fr.data = List.replicate 1024 0 := by rw [HFR.out]
  have hdir : fr.dirty = true := by rw [HFR.out]
  have hu : UsedSt (st.set n 2) n := .inr (by simp [hnl])
  have hland := HC2.out.land HIN2.out HR2.out.fnd hu (fun m hm => used_set st n 2 m hm) (fun hf => by rw [hdir] at hf; cases hf)
  rw [hdat] at hland
  refine ⟨rfl, ⟨F2, k2, ⟨⟨FD2, _, uv2, ul2, fs2, sec2, rfl, hrs, hland, HL2.out, hp1, hpl⟩⟩, hk2, ?_, ?_, trivial⟩⟩
  · refine ((HKW.out.any F).trans HKP2.out (fun _ _ h => h)).setCell (p := ⟨ib, n, none⟩) (fun _ => HH.out.bib.1) _
  · intro b hb
    have := hsW.out
    rcases HF2.out b hb with h | h | h
    · exact .inl h
    · exact .inr h.1
    · exact .inr (by omega)

theorem putTo_done {W : World} {BB : Nat → Prop} {g : PG} {sec : Nat → List UInt8} {n : Nat} {fr : Fr} (hK : Keep F w W) (hBB : ∀ b, BB b → F b ∨ w.heap.size ≤ b) (hP : PutTo W F BB g st sec img (fun m => m = n) n fr k w') (hu : UsedSt st n) (hp1 : 1 ≤ g.pool) (hpl : g.pool < 9223372036854775807)
    (hd : fr.dirty = false → ∀ j, j < 4 → sec (g.off + 4 * n + j) = chunk j fr.data) : PTo w F g.pb st (upd img n fr.data) k 4 (fun w' F' => FrOK w' (fun b => F' b) n fr) w' := by
  obtain ⟨⟨F2, FD2, uv2, ul2, fs2, sec2, k2, hr2, hk2, hc2, hl2, hin2, hs2, hkp2, hF2⟩⟩ := hP
  refine ⟨F2, k2, ⟨⟨FD2, g, uv2, ul2, fs2, sec2, rfl, hr2, hc2.land hin2 hr2.fnd hu (fun _ _ => Iff.rfl) (fun hf j hj => (hs2 j hj).trans (hd hf j hj)), hl2, hp1, hpl⟩⟩, hk2, hK.trans hkp2 (fun _ _ h => h), ?_, (hr2.frs _ hin2).more (fun b _ h => h.1)⟩
  intro b hb
  have := hK.size
  rcases hF2 b hb with h | h | h
  · exact .inl h
  · exact hBB b h
  · exact .inr (by omega)
set_option maxRecDepth 20000 in
set_option maxHeartbeats 800000 in
theorem put_page (h : PagesOK w F pb st img k) (n : Nat) (hn : st[n]? = some 2) (D : Nat → Prop) (v : Value) (l : List UInt8) (hv : BS w D v l) (hl : l.length = 1024) (hk : k < 1099511627770) :
    Calls Tryz.prog 81 #[.pointer (some ⟨pb, 0, none⟩), .int .i64 n, v] w fun e w' => e = .returned (.int .i64 0) ∧ PTo w F pb st (upd img n l) k 4 (fun _ _ => True) w' := by
  obtain ⟨ib0, c3, hr0, c6, _⟩ := h.cells
  have hsm0 := h.small
  have HOF := Lib.hid (of_any pb ib0 st n w c3 hr0 hsm0)
  obtain ⟨⟨FD, g, uv, ul, fs, sec, rfl, hr, hc, hp, hp1, hpl⟩⟩ := h
  have hnl : n < st.length := (List.getElem?_eq_some_iff.1 hn).1
  have hso : stOf st n = 2 := by unfold stOf; rw [if_pos (by omega)]; simp [List.getD, hn]
  rw [hso] at HOF
  have hml : (l.map u8).length = 1024 := by rw [List.length_map, hl]
  obtain ⟨vb, vo, cap, rfl, _, _, _, _, _⟩ := hv.pos (by rw [hml]; omega)
  rw [hml] at hv ⊢
  have HCL := Lib.hid (clone_B w D _ _ hv (cells1_u8 _) (by rw [hml]; decide))
  have HH := Lib.hid hr
  have HC := Lib.hid hc
  have HST := Lib.hid hn
  have HL := Lib.hid hl
  clear hr hr0 hc hn hso hv hml c3
  obtain ⟨pb, pool, db, off, sz, ib, fb⟩ := g
  simp only at c6 hp hp1 hpl HOF ⊢
  go_enter Tryz.func81, Tryz.ntmps81
  go_wp2_with (first
    | (go_at_call 92; refine (lost_any _ _ _ c6).mono ?_; rintro e w1 ⟨rfl, rfl⟩)
    | (go_at_call 93; refine HOF.out.mono ?_; rintro e w1 ⟨rfl, rfl⟩)
    | (go_at_call 51; refine HCL.out.mono ?_; rintro e w2 ⟨v2, rfl, ho2, hk2⟩; obtain ⟨ao2, cp2, hf2⟩ := ho2.form; subst hf2))
  have hll : (l.map u8).length = 1024 := by rw [List.length_map]; exact HL.out
  rw [hll] at ho2
  obtain ⟨W, hW⟩ : ∃ W, W = w2.alloc (.cells #[.int .i64 n, .slice ao2 1024 cp2, .bool true] 206) := ⟨_, rfl⟩
  rw [← hW]
  have kW : Keep No w1 W := by rw [hW]; exact hk2.alloc _
  have hs : W.heap.size = w2.heap.size + 1 := by rw [hW]; simp
  have hfo : FrOK W (fun b => w1.heap.size ≤ b ∧ b < W.heap.size) n ⟨w2.heap.size, .slice ao2 1024 cp2, true, l⟩ := by
    refine ⟨?_, ⟨hk2.size, by show w2.heap.size < _; omega⟩, ?_, HL.out⟩
    · rw [hW]; simpa using Row.new w2 206 [.int .i64 n, .slice ao2 1024 cp2, .bool true]
    · rw [hW]
      exact (ho2.keep ((Keep.refl No _).alloc _) (fun _ _ _ h => h)).more (fun b hb h => ⟨h, by simpa using hb⟩)
  have hP := put_any (HH.out.keep kW (fun _ _ h => h)) (lim := fun m => m = n) (HC.out.limbo (n := n) (st' := st) (fun _ _ => Iff.rfl)) hp hp1 hpl n hnl (fun _ => Iff.rfl) _ hfo (fun b hb hfd => by have := HH.out.lt b (HH.out.sub b hfd); omega) (fun b hb => hb.2) hk
  refine hP.mono fun e w3 he => ?_
  obtain ⟨rfl, hput⟩ := he
  have hdone := putTo_done (w := w1) (kW.any F) (fun b hb => .inr hb.1) hput (.inr HST.out) hp1 hpl (fun h => by cases h)
  obtain ⟨⟨F3, k3, h1, h2, h3, h4, h5⟩⟩ := hdone
  have HDN : Hid (PTo w1 F pb st (upd img n l) k 4 (fun _ _ => True) w3) := ⟨F3, k3, h1, h2, h3, h4, trivial⟩
  clear h1 h2 h3 h4 h5 hput hP hfo hW kW
  go_wp2_with fail
  go_ret
  exact ⟨rfl, HDN.out⟩

set_option maxRecDepth 20000 in
set_option maxHeartbeats 800000 in
theorem free_page (h : PagesOK w F pb st img k) (n : Nat) (hn : st[n]? = some 2) :
    Calls Tryz.prog 60 #[.pointer (some ⟨pb, 0, none⟩), .int .i64 n] w fun e w' => e = .returned (.int .i64 0) ∧ PTo w F pb (st.set n 0) img k 0 (fun _ _ => True) w' := by
  obtain ⟨ib0, c3, hr0, c6, _⟩ := h.cells
  have hsm0 := h.small
  have HOF := Lib.hid (of_any pb ib0 st n w c3 hr0 hsm0)
  obtain ⟨⟨FD, g, uv, ul, fs, sec, rfl, hr, hc, hp, hp1, hpl⟩⟩ := h
  have hnl : n < st.length := (List.getElem?_eq_some_iff.1 hn).1
  have hso : stOf st n = 2 := by unfold stOf; rw [if_pos (by omega)]; simp [List.getD, hn]
  rw [hso] at HOF
  have hib : ib0 = g.ib := by
    have := hr.row.cell 3
    rw [c3] at this
    simp at this
    exact this
  subst hib
  have di := hr.is.cell n
  have dz := hr.is.frozen n
  rw [List.getElem?_map, hn, Option.map_some] at di
  have hr2 := hr.setSt n 0
  have hnu : ¬ UsedSt (st.set n 0) n := by
    rintro (h | h) <;> simp [hnl] at h
  have hc2 := hc.limbo (n := n) (st' := st.set n 0) (fun m hm => used_set st n 0 m hm)
  have hfin : Calls Tryz.prog 94 #[.pointer (some ⟨g.pb, 0, none⟩), .int .i64 n] (w.setCell ⟨g.ib, n, none⟩ (.int .i64 0)) fun e w' => e = .returned (.tuple #[]) ∧ PTo w F g.pb (st.set n 0) img k 0 (fun _ _ => True) w' := by
    have hk1 : Keep F w (w.setCell ⟨g.ib, n, none⟩ (.int .i64 0)) := (Keep.refl F w).setCell (p := ⟨g.ib, n, none⟩) (fun _ => hr.bib.1) _
    by_cases hin : (n : Int) ∈ fs.map (·.1)
    · obtain ⟨⟨x, f⟩, hf, e⟩ := List.mem_map.1 hin
      simp only at e
      subst e
      refine (drop_hit hr2 (n : Int) f hf).mono fun e w1 he => ?_
      obtain ⟨rfl, uv', ul', hr3, hkp⟩ := he
      refine ⟨rfl, ⟨F, k, ⟨⟨FD, g, uv', ul', _, sec, rfl, hr3, ((hc2.drop n).more (fun m h => by rcases h with h | h <;> exact h)).gone (by rw [mem_fst_fdel]; exact fun h => h.2 rfl) hnu (fun _ _ => Iff.rfl), Nat.le_trans (length_fdel_le _ _) hp, hp1, hpl⟩⟩, by omega,
        hk1.trans (hr2.keep3 hkp) (fun _ _ h => h), fun b hb => .inl hb, trivial⟩⟩
    · refine (drop_miss hr2 (n : Int) hin).mono fun e w1 he => ?_
      obtain ⟨rfl, rfl⟩ := he
      exact ⟨rfl, ⟨F, k, ⟨⟨FD, g, uv, ul, fs, sec, rfl, hr2, hc2.gone hin hnu (fun _ _ => Iff.rfl), hp, hp1, hpl⟩⟩, by omega, hk1, fun b hb => .inl hb, trivial⟩⟩
  have HFIN := Lib.hid hfin
  clear hfin hc2 hnu hr2 hr hr0 hc hn hso
  obtain ⟨pb, pool, db, off, sz, ib, fb⟩ := g
  simp only at c3 c6 di dz hp hp1 hpl HOF HFIN ⊢
  go_enter Tryz.func60, Tryz.ntmps60
  go_wp2_with (first
    | (go_at_call 92; refine (lost_any _ _ _ c6).mono ?_; rintro e w1 ⟨rfl, rfl⟩)
    | (go_at_call 93; refine HOF.out.mono ?_; rintro e w1 ⟨rfl, rfl⟩)
    | (go_at_call 94; refine HFIN.out.mono ?_; rintro e w2 ⟨rfl, hpt⟩))
  go_ret
  exact ⟨rfl, hpt⟩
end
end Go.Proofs.YtfhapbggngdckaaGreat
