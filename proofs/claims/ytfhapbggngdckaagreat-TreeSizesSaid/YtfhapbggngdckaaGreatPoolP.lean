/- The pool: put. -/
import Derived.Test.YtfhapbggngdckaaGreatPoolW
import Derived.Deep.DeepCutAuto
import Derived.Deep.CutBlock
namespace Go.Proofs.YtfhapbggngdckaaGreat
set_option linter.unusedSimpArgs false
set_option linter.unusedVariables false
open Go.RowKit

def UsedSt (st : List Int) (n : Nat) : Prop := st[n]? = some 1 ∨ st[n]? = some 2
/-- What the pages hold, but for those in limbo. -/
structure Content (off : Nat) (fs : List (Int × Fr)) (st : List Int) (sec : Nat → List UInt8) (img : Nat → List UInt8) (lim : Nat → Prop) : Prop where
  frame : ∀ (n : Nat) f, ((n : Int), f) ∈ fs → ¬ lim n → UsedSt st n ∧ f.data = img n ∧ (f.dirty = false → ∀ j, j < 4 → sec (off + 4 * n + j) = chunk j f.data)
  out : ∀ n, UsedSt st n → ¬ lim n → (n : Int) ∉ fs.map (·.1) → (img n).length = 1024 ∧ ∀ j, j < 4 → sec (off + 4 * n + j) = chunk j (img n)
theorem UsedSt.lt {st : List Int} {n : Nat} (h : UsedSt st n) : n < st.length := by
  rcases h with h | h <;> exact (List.getElem?_eq_some_iff.1 h).1
section
variable {off : Nat} {fs : List (Int × Fr)} {st : List Int} {sec : Nat → List UInt8} {img : Nat → List UInt8} {lim : Nat → Prop}
theorem Content.drop (h : Content off fs st sec img lim) (n : Nat) : Content off (fdel n fs) st sec img (fun m => lim m ∨ m = n) := by
  refine ⟨fun m f hm hl => h.frame m f (mem_fdel.1 hm).1 (fun hh => hl (.inl hh)), fun m hu hl hm => h.out m hu (fun hh => hl (.inl hh)) (fun hh => hm ?_)⟩
  rw [mem_fst_fdel]
  exact ⟨hh, fun e => hl (.inr (by omega))⟩
theorem Content.more (h : Content off fs st sec img lim) {lim' : Nat → Prop} (hl : ∀ n, lim n → lim' n) : Content off fs st sec img lim' :=
  ⟨fun m f hm hn => h.frame m f hm (fun hh => hn (hl m hh)), fun m hu hn hm => h.out m hu (fun hh => hn (hl m hh)) hm⟩
/-- A clean frame that is out of limbo may go. -/
theorem Content.evict (h : Content off fs st sec img lim) (hlen : ∀ p ∈ fs, p.2.data.length = 1024) (m : Nat) (f : Fr) (hm : ((m : Int), f) ∈ fs) (hnd : (fs.map (·.1)).Nodup) (hl : ¬ lim m) (hc : f.dirty = false) : Content off (fdel m fs) st sec img lim := by
  refine ⟨fun i f hi hl => h.frame i f (mem_fdel.1 hi).1 hl, fun i hu hli hi => ?_⟩
  by_cases him : i = m
  · subst him
    obtain ⟨h1, h2, h3⟩ := h.frame i f hm hl
    rw [← h2]
    exact ⟨hlen _ hm, h3 hc⟩
  · exact h.out i hu hli (fun hh => hi (by rw [mem_fst_fdel]; exact ⟨hh, fun e => him (by omega)⟩))
/-- The page of a frame has been written. -/
theorem Content.wrote (h : Content off fs st sec img lim) (m : Nat) (f : Fr) (hm : ((m : Int), f) ∈ fs) (hnd : (fs.map (·.1)).Nodup) : Content off (clean m fs) st (wr sec (off + 4 * m) f.data 4) img lim := by
  have far : ∀ i j, i ≠ m → j < 4 → wr sec (off + 4 * m) f.data 4 (off + 4 * i + j) = sec (off + 4 * i + j) := by
    intro i j hi hj
    unfold wr
    rw [if_neg (by omega)]
  have near : ∀ j, j < 4 → wr sec (off + 4 * m) f.data 4 (off + 4 * m + j) = chunk j f.data := by
    intro j hj
    unfold wr
    rw [if_pos (by omega), show off + 4 * m + j - (off + 4 * m) = j by omega]
  refine ⟨fun i g hi hl => ?_, fun i hu hl hi => ?_⟩
  · obtain ⟨⟨q1, q2⟩, hq, he⟩ := List.mem_map.1 hi
    simp only at he
    by_cases hqm : q1 = m
    · rw [if_pos hqm] at he
      simp only [Prod.mk.injEq] at he
      obtain ⟨e1, e2⟩ := he
      obtain rfl : i = m := by omega
      subst hqm
      have h1 := imGet_fmap_some hnd hq
      obtain ⟨h2, h3, h4⟩ := h.frame i q2 hq hl
      have hqf : q2 = f := by
        obtain ⟨a, ha, hqa⟩ := List.getElem_of_mem hq
        obtain ⟨b, hb, hqb⟩ := List.getElem_of_mem hm
        rcases Nat.lt_trichotomy a b with hlt | heq | hgt
        · exact ((List.pairwise_iff_getElem.1 hnd) a b (by simpa using ha) (by simpa using hb) hlt (by simp [hqa, hqb])).elim
        · subst heq
          have := hqa.symm.trans hqb
          simpa using this
        · exact ((List.pairwise_iff_getElem.1 hnd) b a (by simpa using hb) (by simpa using ha) hgt (by simp [hqa, hqb])).elim
      subst hqf
      subst e2
      exact ⟨h2, h3, fun _ => near⟩
    · rw [if_neg hqm] at he
      simp only [Prod.mk.injEq] at he
      obtain ⟨e1, e2⟩ := he
      subst e1; subst e2
      have him : i ≠ m := fun e => hqm (by rw [e])
      obtain ⟨h2, h3, h4⟩ := h.frame i q2 hq hl
      exact ⟨h2, h3, fun hd j hj => by rw [far i j him hj]; exact h4 hd j hj⟩
  · rw [clean_fst] at hi
    have him : i ≠ m := by
      rintro rfl
      exact hi (List.mem_map.2 ⟨_, hm, rfl⟩)
    obtain ⟨h1, h2⟩ := h.out i hu hl hi
    exact ⟨h1, fun j hj => by rw [far i j him hj]; exact h2 j hj⟩
end
theorem wr_far (sec : Nat → List UInt8) (off m n : Nat) (l : List UInt8) (h : n ≠ m) (j : Nat) (hj : j < 4) : wr sec (off + 4 * m) l 4 (off + 4 * n + j) = sec (off + 4 * n + j) := by
  unfold wr; rw [if_neg (by omega)]

structure PutTo (w : World) (F BB : Nat → Prop) (g : PG) (st : List Int) (sec : Nat → List UInt8) (img : Nat → List UInt8) (lim : Nat → Prop) (n : Nat) (f : Fr) (k : Nat) (w' : World) : Prop where
  ex : ∃ F' FD' uv' ul' fs' sec' k', Raw w' F' FD' g uv' ul' fs' st sec' k' ∧ k' ≤ k + 4 ∧ Content g.off fs' st sec' img lim ∧ fs'.length ≤ g.pool ∧ ((n : Int), f) ∈ fs' ∧ (∀ j, j < 4 → sec' (g.off + 4 * n + j) = sec (g.off + 4 * n + j)) ∧
    Keep F w w' ∧ ∀ b, F' b → F b ∨ BB b ∨ w.heap.size ≤ b
/-- There is room for the frame. -/
structure Ready (w : World) (F BB : Nat → Prop) (g : PG) (st : List Int) (sec : Nat → List UInt8) (img : Nat → List UInt8) (lim : Nat → Prop) (n : Nat) (f : Fr) (k : Nat) (w' : World) : Prop where
  ex : ∃ F' FD' uv' ul' fs' sec' k', Raw w' F' FD' g uv' ul' fs' st sec' k' ∧ k' ≤ k + 4 ∧ Content g.off fs' st sec' img lim ∧ fs'.length + 1 ≤ g.pool ∧ (n : Int) ∉ fs'.map (·.1) ∧ (∀ j, j < 4 → sec' (g.off + 4 * n + j) = sec (g.off + 4 * n + j)) ∧
    FrOK w' BB n f ∧ (∀ b, BB b → ¬ FD' b) ∧ Keep F w w' ∧ (∀ b, F' b → F b ∨ w.heap.size ≤ b)

section
variable {w w' : World} {F FD BB : Nat → Prop} {g : PG} {uv : Value} {ul : List Int} {fs : List (Int × Fr)} {st : List Int} {sec : Nat → List UInt8} {k : Nat}
theorem FrOK.keepDrop {n : Int} {f : Fr} (hf : FrOK w BB n f) (h : Raw w F FD g uv ul fs st sec k) (hk : Keep (fun b => b = g.pb ∨ b = g.fb ∨ uv.ownBlock = some b) w w') : FrOK w' BB n f := by
  refine ⟨hf.row.keep hk ?_, hf.inb, hf.own.keep hk ?_, hf.len⟩
  · rintro (e | e | e)
    · exact absurd e (hf.row.ne h.row (by decide))
    · exact h.fm.ne_row hf.row e.symm
    · exact own_ne_row h.us hf.row (by decide) e
  · rintro b _ hb (e | e | e)
    · subst e; exact own_ne_row hf.own h.row (by decide) hb
    · subst e; exact own_map_ne hf.own h.fm hb
    · exact own_ne_own hf.own h.us (by decide) hb e
theorem FrOK.keepWrite {n m : Int} {f f2 : Fr} (hf : FrOK w BB n f) (hBB : ∀ b, BB b → ¬ FD b) {B2 : Nat → Prop} (h2 : FrOK w B2 m f2) (hnm : n ≠ m) (hk : Keep (fun b => FD b ∨ b = f2.b) w w') : FrOK w' BB n f := by
  refine ⟨hf.row.keep hk ?_, hf.inb, hf.own.keep hk ?_, hf.len⟩
  · rintro (e | e)
    · exact hBB _ hf.inb e
    · have hr := hf.row
      rw [e] at hr
      have := (hr.uniq h2.row).2
      simp only [List.cons.injEq, Value.int.injEq, true_and] at this
      exact hnm this.1
  · rintro b _ hb (e | e)
    · exact hBB b (hf.own.blk hb).1 e
    · subst e; exact own_ne_row hf.own h2.row (by decide) hb

structure DropTo (w : World) (F FD BB : Nat → Prop) (g : PG) (st : List Int) (sec : Nat → List UInt8) (img : Nat → List UInt8) (lim : Nat → Prop) (n : Nat) (f : Fr) (k : Nat) (w' : World) : Prop where
  ex : ∃ uv1 ul1 fs1, Raw w' F FD g uv1 ul1 fs1 st sec k ∧ Content g.off fs1 st sec img lim ∧ fs1.length ≤ g.pool ∧ (n : Int) ∉ fs1.map (·.1) ∧ FrOK w' BB n f ∧ Keep F w w'
theorem Raw.keep3 (h : Raw w F FD g uv ul fs st sec k) (hk : Keep (fun b => b = g.pb ∨ b = g.fb ∨ uv.ownBlock = some b) w w') : Keep F w w' := by
  refine hk.mono ?_
  rintro b _ (rfl | rfl | hh)
  · exact h.bpb.1
  · exact h.bfb.1
  · exact (h.us.blk hh).1.1
theorem length_fdel_le (n : Int) (fs : List (Int × Fr)) : (fdel n fs).length ≤ fs.length := List.length_filter_le _ _
theorem drop_any (h : Raw w F FD g uv ul fs st sec k) {img : Nat → List UInt8} {lim : Nat → Prop} (hc : Content g.off fs st sec img lim) (hp : fs.length ≤ g.pool) (n : Nat) (hlim : lim n) (f : Fr) (hf : FrOK w BB n f) :
    Calls Tryz.prog 94 #[.pointer (some ⟨g.pb, 0, none⟩), .int .i64 n] w fun e w1 => e = .returned (.tuple #[]) ∧ DropTo w F FD BB g st sec img lim n f k w1 := by
  by_cases hin : (n : Int) ∈ fs.map (·.1)
  · obtain ⟨⟨q1, f0⟩, hq, e⟩ := List.mem_map.1 hin
    simp only at e
    subst e
    refine (drop_hit h (n : Int) f0 hq).mono fun e w1 he => ?_
    obtain ⟨rfl, uv', ul', hr, hkp⟩ := he
    refine ⟨rfl, ⟨uv', ul', fdel n fs, hr, (hc.drop n).more ?_, Nat.le_trans (length_fdel_le _ _) hp, ?_, hf.keepDrop h hkp, h.keep3 hkp⟩⟩
    · rintro m (hm | rfl)
      · exact hm
      · exact hlim
    · rw [mem_fst_fdel]; exact fun hh => hh.2 rfl
  · refine (drop_miss h (n : Int) hin).mono fun e w1 he => ?_
    obtain ⟨rfl, rfl⟩ := he
    exact ⟨rfl, ⟨uv, ul, fs, h, hc, hp, hin, hf, Keep.refl _ _⟩⟩

theorem Raw.insert (h : Raw w F FD g uv ul fs st sec k) {n : Nat} (hn : (n : Int) ∉ fs.map (·.1)) (hnl : n < st.length) {f : Fr} (hf : FrOK w BB n f) (hBB : ∀ b, BB b → ¬ FD b) (hBs : ∀ b, BB b → b < w.heap.size) {G : Nat → Prop} (hk : Keep G w w')
    (hG : ∀ b, b < w.heap.size → G b → b = g.pb ∨ b = g.fb ∨ uv.ownBlock = some b) {uv' : Value}
    (row' : Row w' g.pb 123 [.pointer (some ⟨g.db, 0, none⟩), .int .i64 g.off, .int .i64 g.pool, .slice (some ⟨g.ib, 0, none⟩) st.length st.length, .map (some g.fb), uv', .bool false])
    (fm' : IMap w' g.fb (imPut n (frPtr f) (fmap fs))) (us' : Own w' (fun b => (F b ∧ ¬ FD b) ∨ w.heap.size ≤ b) 3 uv' (((n : Int) :: ul).map (Value.int .i64))) :
    Raw w' (fun b => F b ∨ BB b ∨ uv'.ownBlock = some b) FD g uv' ((n : Int) :: ul) (fs ++ [((n : Int), f)]) st sec k := by
  have hk' : Keep (fun b => b = g.pb ∨ b = g.fb ∨ uv.ownBlock = some b) w w' := hk.mono hG
  have hFD : ∀ b, FD b → ¬ (b = g.pb ∨ b = g.fb ∨ uv.ownBlock = some b) := by
    rintro b hb (rfl | rfl | h2)
    · exact h.bpb.2 hb
    · exact h.bfb.2 hb
    · exact (h.us.blk h2).1.2 hb
  have hins : imPut (n : Int) (frPtr f) (fmap fs) = fmap (fs ++ [((n : Int), f)]) := by
    have : ∀ (i : Nat), imFind (n : Int) (fmap fs) i = none := by
      intro i
      have h1 := imFind_get (n : Int) (fmap fs) i
      rw [imGet_fmap_none.2 hn] at h1
      cases h2 : imFind (n : Int) (fmap fs) i with
      | none => rfl
      | some x => rw [h2] at h1; cases h1
    rw [imPut_none (this 0)]
    simp [fmap]
  refine { row := row', disk := h.disk.keep hk' (fun b _ hb => hFD b hb), is := h.is.keep hk' ?_, fm := by rw [← hins]; exact fm', us := ?_, und := ?_, umem := ?_, frs := ?_, sub := fun b hb => .inl (h.sub b hb), lt := ?_, bpb := ⟨.inl h.bpb.1, h.bpb.2⟩, bib := ⟨.inl h.bib.1, h.bib.2⟩
           bfb := ⟨.inl h.bfb.1, h.bfb.2⟩, fits := h.fits, keys := ?_ }
  · rintro (e | e | e)
    · exact absurd e (h.is.ne h.row (by decide))
    · exact h.fm.ne_row h.is e.symm
    · exact own_ne_row h.us h.is (by decide) e
  · rcases us' with ⟨e1, e2⟩ | ⟨q, rest, e1, hB, hr, hm⟩
    · simp at e2
    · refine .inr ⟨q, rest, e1, ?_, hr, hm⟩
      rcases hB with hB | hB
      · exact ⟨.inl hB.1, hB.2⟩
      · exact ⟨.inr (.inr (by rw [e1]; rfl)), fun hfd => by have := h.lt _ (h.sub _ hfd); omega⟩
  · rw [List.nodup_cons]
    exact ⟨fun hm => hn ((h.umem _).1 hm), h.und⟩
  · intro x
    simp only [List.mem_cons, List.map_append, List.map_cons, List.map_nil, List.mem_append, h.umem, List.not_mem_nil, or_false]
    exact Or.comm
  · intro p hp
    rcases List.mem_append.1 hp with hp | hp
    · have hfp := h.frs p hp
      exact (hfp.keepDrop h hk').more (fun b _ hb => ⟨.inl hb.1, hb.2⟩)
    · simp only [List.mem_singleton] at hp
      subst hp
      exact (hf.keepDrop h hk').more (fun b _ hb => ⟨.inr (.inl hb), hBB b hb⟩)
  · rintro b (hb | hb | hb)
    · exact Nat.lt_of_lt_of_le (h.lt b hb) hk.size
    · exact Nat.lt_of_lt_of_le (hBs b hb) hk.size
    · exact (us'.blk hb).2
  · intro p hp
    rcases List.mem_append.1 hp with hp | hp
    · exact h.keys p hp
    · simp only [List.mem_singleton] at hp
      subst hp
      simp only; omega
theorem mem_clean {m : Int} {f : Fr} {fs : List (Int × Fr)} (h : (m, f) ∈ fs) : (m, { f with dirty := false }) ∈ clean m fs :=
  List.mem_map.2 ⟨_, h, by simp⟩
theorem length_fdel_lt {n : Int} {f : Fr} {fs : List (Int × Fr)} (h : (n, f) ∈ fs) : (fdel n fs).length < fs.length := by
  unfold fdel
  exact List.length_filter_lt_length_iff_exists.2 ⟨_, h, by simp⟩
set_option maxRecDepth 40000 in
set_option maxHeartbeats 1600000 in
theorem put_any (h : Raw w F FD g uv ul fs st sec k) {img : Nat → List UInt8} {lim : Nat → Prop} (hc : Content g.off fs st sec img lim) (hp : fs.length ≤ g.pool) (hp1 : 1 ≤ g.pool) (hpl : g.pool < 9223372036854775807) (n : Nat) (hn : n < st.length)
    (hlim : ∀ m, lim m ↔ m = n) (f : Fr) (hf : FrOK w BB n f) (hBB : ∀ b, BB b → ¬ FD b) (hBs : ∀ b, BB b → b < w.heap.size) (hk : k < 1099511627770) :
    Calls Tryz.prog 114 #[.pointer (some ⟨g.pb, 0, none⟩), .pointer (some ⟨f.b, 0, none⟩)] w fun e w' => e = .returned (.bool true) ∧ PutTo w F BB g st sec img lim n f k w' := by
  have b0 := hf.row.cell 0
  simp only [List.getElem?_cons_zero, List.getElem?_cons_succ] at b0
  have hd := drop_any h hc hp n ((hlim n).2 rfl) f hf
  have HD := Lib.hid hd
  have HB := Lib.hid hBB
  have HL := Lib.hid hlim
  have HBS := Lib.hid hBs
  clear hd h hc hf hBB hlim hBs
  obtain ⟨pb, pool, db, off, sz, ib, fb⟩ := g
  simp only at hp hp1 hpl HD ⊢
  go_enter Tryz.func114, Tryz.ntmps114
  go_upto_region 2 with (go_at_call 94; refine (HD.out).mono ?_; rintro e w1 ⟨rfl, hd1⟩)
  obtain ⟨⟨uv1, ul1, fs1, hr, hct, hpl1, hni, hfo, hkp⟩⟩ := hd1
  have c4 := hr.row.cell 4
  have c2 := hr.row.cell 2
  simp only [List.getElem?_cons_zero, List.getElem?_cons_succ] at c4 c2
  have hln : ∀ m, (Builtin.len_ #[121] 3 #[.map (some fb)]).run Tryz.prog (w1.drewN m) = .ok (.int .i64 fs1.length) (w1.drewN m) := fun m => by
    have := ((hr.drewN m).fm).len (P := Tryz.prog) Tryz.underlying121 3
    rw [this]; simp [fmap]
  have HR := Lib.hid hr
  have HC := Lib.hid hct
  have HP := Lib.hid hpl1
  have HN := Lib.hid hni
  have HFO := Lib.hid hfo
  have HK := Lib.hid hkp
  clear hr hct hni hfo hkp HD b0
  go_quiet (fail)
  revert nq
  intro i1
  have C4 := Lib.hid c4
  clear hln c4 c2
  go_upto_if 21 with fail
  go_cut [] (fun wc => Ready w F BB ⟨pb, pool, db, off, sz, ib, fb⟩ st sec img lim n f k wc)
  case first =>
    by_cases hfull : pool ≤ fs1.length
    · have hr := HR.out
      have hul := hr.ulen
      obtain ⟨L, hL⟩ : ∃ L, ul1.length = L + 1 := ⟨ul1.length - 1, by omega⟩
      have hxm : ul1[L]'(by omega) ∈ fs1.map (·.1) := (hr.umem _).1 (List.getElem_mem _)
      obtain ⟨⟨x, f2⟩, hx2, hx⟩ := List.mem_map.1 hxm
      simp only at hx
      have hkey := hr.keys _ hx2
      simp only at hkey
      obtain ⟨m, rfl⟩ := Int.eq_ofNat_of_zero_le hkey.1
      have hml : (ul1.map (Value.int .i64)).length = L + 1 := by rw [List.length_map, hL]
      obtain ⟨ub, o, cap, hu, _, _, _, _, hcell⟩ := hr.us.rs.pos (by rw [hml]; omega)
      rw [hml] at hu hcell
      have cl : w1.cell? ⟨ub, o + L, none⟩ = some (.int .i64 m) := by
        rw [hcell L (by omega), List.getElem?_map, List.getElem?_eq_getElem (by omega), hx]; rfl
      subst hu
      have c4 := C4.out
      have c5 := hr.row.cell 5
      simp only [List.getElem?_cons_zero, List.getElem?_cons_succ] at c5
      have hlk : ∀ i, (Instr.lookup 121 (.map (some fb)) (.int .i64 m) false).run Tryz.prog (w1.drewN i) = .ok (.pointer (some ⟨f2.b, 0, none⟩)) (w1.drewN i) := fun i => by
        have := ((hr.drewN i).fm).lookup1 (P := Tryz.prog) Tryz.underlying121 Tryz.underlying3 zero_frp m
        rw [imGet_fmap_some hr.fnd hx2] at this
        exact this
      have hf2 := hr.frs _ hx2
      have e0 := hf2.row.cell 0
      have e2 := hf2.row.cell 2
      simp only [List.getElem?_cons_zero, List.getElem?_cons_succ] at e0 e2
      have q1 : IntKind.i64.wrap (L : Int) = (L : Int) := IntWalk.i64_in _ (by have := hr.small.1; have := flen_le (st := st) hr.fnd hr.keys; omega)
      have HX2 := Lib.hid hx2
      have HKEY := Lib.hid hkey
      have HF2 := Lib.hid hf2
      have hmn : m ≠ n := by
        rintro rfl
        exact HN.out (hx ▸ hxm)
      have HMN := Lib.hid hmn
      clear hr hul hL hxm hx hcell hx2 hml hkey hf2 hmn
      go_wp2_with fail
      go_quiet (fail)
      obtain ⟨W, hW⟩ : ∃ W, W = (w1.drewN i1).drewN nq := ⟨_, rfl⟩
      rw [← hW]
      have kW : Keep No w1 W := by rw [hW]; exact ((Keep.refl No w1).drewN i1).drewN nq
      have rW := HR.out.keep kW (fun _ _ h => h)
      have fW := HF2.out.keep kW (fun _ _ _ h => h)
      have e0' := fW.row.cell 0
      have e2' := fW.row.cell 2
      simp only [List.getElem?_cons_zero, List.getElem?_cons_succ] at e0' e2'
      have RW := Lib.hid rW
      have KW := Lib.hid kW
      have FOW := Lib.hid (HFO.out.keep kW (fun _ _ _ h => h))
      clear rW fW kW hW c4 c5 hlk e0 e2 cl q1 C4
      cases hdt : f2.dirty with
      | true =>
        rw [hdt] at e2'
        have HDT := Lib.hid hdt
        clear hdt
        go_wp2_with (first
          | (go_at_call 131; refine (write_any RW.out m f2 HX2.out hk).mono ?_; rintro e w2 ⟨rfl, ⟨F2, FD2, hr2, hk2, hf2, hfd2⟩⟩; have hx3 := mem_clean HX2.out; have g0 := (hr2.frs _ hx3).row.cell 0; simp only [List.getElem?_cons_zero, List.getElem?_cons_succ] at g0; have HR2 := Lib.hid hr2; have HK2 := Lib.hid hk2; have HFF2 := Lib.hid hf2; have HFD2 := Lib.hid hfd2; have HX3 := Lib.hid hx3; clear hr2 hk2 hf2 hfd2 hx3 e0' e2')
          | (go_at_call 94; refine (drop_hit HR2.out _ _ HX3.out).mono ?_; rintro e w3 ⟨rfl, ⟨uv3, ul3, hr3, hk3⟩⟩; have HR3 := Lib.hid hr3; have HK3 := Lib.hid hk3; clear hr3 hk3 g0))
        go_meet
        case rel =>
          have hnl : ¬ lim m := fun hh => HMN.out ((HL.out m).1 hh)
          have c2 := HC.out.wrote m f2 HX2.out HR.out.fnd
          have hlen : ∀ p ∈ clean m fs1, p.2.data.length = 1024 := fun p hp => (HR2.out.frs p hp).len
          have c3 := c2.evict hlen m _ HX3.out (by rw [clean_fst]; exact HR.out.fnd) hnl rfl
          have l1 := length_fdel_lt HX3.out
          have l2 : (clean m fs1).length = fs1.length := by simp [clean]
          have f3 : FrOK w2 BB n f := FOW.out.keepWrite HB.out (HF2.out.keep KW.out (fun _ _ _ h => h)) (fun e => HMN.out (by omega)) HK2.out
          have sz1 := HK.out.size
          have sz2 := KW.out.size
          have kk : Keep F W w3 := (HK2.out.mono (G := F) (by
            rintro b _ (h | rfl)
            · exact RW.out.sub b h
            · exact HF2.out.inb.1)).trans (HR2.out.keep3 HK3.out) (by
            intro b hb h
            rcases HFF2.out b h with h2 | h2
            · exact h2
            · omega)
          refine ⟨⟨F2, FD2, uv3, ul3, _, _, _, HR3.out, by omega, c3, by show (fdel m (clean m fs1)).length + 1 ≤ pool; omega, ?_, fun j hj => wr_far sec off m n f2.data (fun e => HMN.out e.symm) j hj, f3.keepDrop HR2.out HK3.out, ?_, (HK.out.trans (KW.out.any F) (fun _ _ h => h)).trans kk (fun _ _ h => h), ?_⟩⟩
          · rw [mem_fst_fdel, clean_fst]; exact fun hh => HN.out hh.1
          · intro b hb h
            rcases HFD2.out b h with h2 | h2
            · exact HB.out b hb h2
            · have h3 := HBS.out b hb
              omega
          · intro b hb
            rcases HFF2.out b hb with h2 | h2
            · exact .inl h2
            · exact .inr (by omega)
      | false =>
        rw [hdt] at e2'
        have HDT := Lib.hid hdt
        clear hdt
        go_wp2_with (first
          | (go_at_call 94; refine (drop_hit RW.out _ _ HX2.out).mono ?_; rintro e w3 ⟨rfl, ⟨uv3, ul3, hr3, hk3⟩⟩; have HR3 := Lib.hid hr3; have HK3 := Lib.hid hk3; clear hr3 hk3 e0' e2'))
        go_meet
        case rel =>
          have hnl : ¬ lim m := fun hh => HMN.out ((HL.out m).1 hh)
          have hlen : ∀ p ∈ fs1, p.2.data.length = 1024 := fun p hp => (HR.out.frs p hp).len
          have c3 := HC.out.evict hlen m _ HX2.out HR.out.fnd hnl HDT.out
          have l1 := length_fdel_lt HX2.out
          refine ⟨⟨F, FD, uv3, ul3, _, _, _, HR3.out, by omega, c3, by show (fdel m fs1).length + 1 ≤ pool; omega, ?_, fun j hj => rfl, FOW.out.keepDrop RW.out HK3.out, HB.out, (HK.out.trans (KW.out.any F) (fun _ _ h => h)).trans (RW.out.keep3 HK3.out) (fun _ _ h => h), fun b hb => .inl hb⟩⟩
          rw [mem_fst_fdel]; exact fun hh => HN.out hh.1
    · go_wp2_with fail
      go_meet
      case rel => exact ⟨⟨F, FD, uv1, ul1, fs1, sec, k, HR.out.drewN i1, by omega, HC.out, Nat.lt_of_not_le hfull, HN.out, fun _ _ => rfl, HFO.out.keep ((Keep.refl No _).drewN i1) (fun _ _ _ h => h), HB.out, HK.out.drewN i1, fun b hb => .inl hb⟩⟩
  case rest =>
    obtain ⟨⟨F2, FD2, uv2, ul2, fs2, sec2, k2, hr, hk2, hc2, hl2, hn2, hsec, hf2, hB2, hkp, hF2⟩⟩ := hcut
    have c4 := hr.row.cell 4
    have c5 := hr.row.cell 5
    have f5 := hr.row.frozen 5
    have b0 := hf2.row.cell 0
    simp only [List.getElem?_cons_zero, List.getElem?_cons_succ] at c4 c5 b0
    have HR2 := Lib.hid hr
    have HC2 := Lib.hid hc2
    have HL2 := Lib.hid hl2
    have HN2 := Lib.hid hn2
    have HS2 := Lib.hid hsec
    have HFO2 := Lib.hid hf2
    have HB2 := Lib.hid hB2
    have HK2 := Lib.hid hkp
    have HF2 := Lib.hid hF2
    clear hr hc2 hl2 hn2 hsec hf2 hB2 hkp hF2 HR HC HP HN HFO HK C4
    go_wp2_with fail
    go_still_tail 9, (by kernel_rfl)
    refine wpList_mapUpdate_I (v := frPtr f) rfl _ _ _ Tryz.underlying121 Tryz.underlying3 rfl (HR2.out.fm.drewN 1) rfl rfl rfl ?_
    intro w3 m3 k3
    have r3 := (HR2.out.row.drewN 1).keep k3 (HR2.out.fm.ne_row HR2.out.row).symm
    have d5 := r3.cell 5
    have g5 := r3.frozen 5
    have x0 := ((HFO2.out.row.drewN 1).keep k3 (HR2.out.fm.ne_row HFO2.out.row).symm).cell 0
    simp only [List.getElem?_cons_zero, List.getElem?_cons_succ] at d5 x0
    have u3 := (HR2.out.us.drewN 1).keep k3 (fun b _ hb hj => by cases hj; exact own_map_ne HR2.out.us HR2.out.fm hb)
    have hn3 : pb < w3.heap.size := r3.lt
    have hn4 : f.b < w3.heap.size := ((HFO2.out.row.drewN 1).keep k3 (HR2.out.fm.ne_row HFO2.out.row).symm).lt
    have R3 := Lib.hid r3
    have M3 := Lib.hid m3
    have K3 := Lib.hid k3
    have U3 := Lib.hid u3
    clear r3 m3 k3 u3 c4 c5 f5 b0
    go_wp2_with fail
    have hus : (ul2.map (Value.int .i64)).length ≤ 1099511627776 := by
      have h1 := HR2.out.ulen
      have h2 := flen_le (st := st) HR2.out.fnd HR2.out.keys
      have h3 := HR2.out.small.1
      rw [List.length_map]; omega
    have hne1 : uv2.ownBlock ≠ some w3.heap.size := fun e => by have := (U3.out.blk e).2; omega
    have hne2 : uv2.ownBlock ≠ some pb := own_ne_row U3.out R3.out (by decide)
    have hne3 : uv2.ownBlock ≠ some f.b := own_ne_row HR2.out.us HFO2.out.row (by decide)
    have NE1 := Lib.hid hne1
    have NE2 := Lib.hid hne2
    have NE3 := Lib.hid hne3
    clear hne1 hne2 hne3
    have fz : ∀ o, (w3.alloc o).drew.frozen? ⟨pb, 5, none⟩ = false := fun o => (R3.out.alloc o).drew.frozen 5
    go_region_law (first | (go_simp; go_at_call 77; refine (insert_I _ (fun b => F2 b ∧ ¬ FD2 b) uv2 (ul2.map (Value.int .i64)) 0 (.int .i64 n) w3.heap.size ((U3.out.drewN 1).keep ((Keep.refl No _).alloc _) (fun _ _ _ h => h)) (cells1_int _ _) rfl (Row.new _ _ [.int .i64 n]) NE1.out (Nat.zero_le _) hus).mono ?_; rintro e w5 ⟨uv5, rfl, ho, hk5, hb5⟩; simp only [List.take_zero, List.drop_zero, List.nil_append] at ho; obtain ⟨ao5, cc5, hf5⟩ := ho.form; subst hf5; simp only [List.length_cons, List.length_map] at ho hb5; have r5 := (R3.out.alloc (.cells #[.int .i64 n] 3)).drew.keep hk5 NE2.out; have p1 := r5.cell 5; have p3 := r5.frozen 5; have p2 := (hk5.cell (p := ⟨f.b, 0, none⟩) (by simp; omega) NE3.out).trans ((World.cell?_alloc_lt w3 _ ⟨f.b, 0, none⟩ hn4).trans x0); simp only [List.getElem?_cons_zero, List.getElem?_cons_succ] at p1; have R5 := Lib.hid r5; have O5 := Lib.hid ho; have K5 := Lib.hid hk5; have B5 := Lib.hid hb5; clear r5 ho hk5 hb5))
    all_goals
      go_wp2_with fail
      go_ret
      refine ⟨rfl, ?_⟩
      have kk : Keep (fun b => b = pb ∨ b = fb ∨ uv2.ownBlock = some b) wc (w5.setCell ⟨pb, 5, none⟩ (.slice ao5 (ul2.length + 1) cc5)) := by
        refine Keep.setCell (p := ⟨pb, 5, none⟩) ?_ (fun _ => .inl rfl) _
        refine Keep.trans (G := fun b => b = pb ∨ b = fb ∨ uv2.ownBlock = some b) ((Keep.refl _ wc).drewN 1) ?_ (fun _ _ h => h)
        refine Keep.trans (K3.out.mono (G := fun b => b = pb ∨ b = fb ∨ uv2.ownBlock = some b) (fun _ _ h => .inr (.inl h))) ?_ (fun _ _ h => h)
        exact (((Keep.refl (fun b => b = pb ∨ b = fb ∨ uv2.ownBlock = some b) w3).drewN 1).alloc _).trans K5.out (fun _ _ h => .inr (.inr h))
      have hsz : wc.heap.size ≤ w3.heap.size := K3.out.size
      have hs6 : (w5.setCell ⟨pb, 5, none⟩ (.slice ao5 (ul2.length + 1) cc5)).heap.size = w5.heap.size := by simp
      have hh := HR2.out.insert HN2.out hn HFO2.out HB2.out (fun b hb => Nat.lt_of_lt_of_le (HBS.out b hb) HK2.out.size) kk (fun _ _ h => h) (uv' := .slice ao5 (ul2.length + 1) cc5)
        (by have := R5.out.set 5 (.slice ao5 (ul2.length + 1) cc5); simpa using this)
        (((M3.out.drewN 1).keep ((Keep.refl No _).alloc _) (fun h => h)).keep K5.out (own_map_ne U3.out M3.out) |>.keep ((Keep.refl (Just pb) _).setCell (p := ⟨pb, 5, none⟩) (fun _ => rfl) _) (fun h => M3.out.ne_row R3.out h))
        ((O5.out.keep ((Keep.refl (Just pb) _).setCell (p := ⟨pb, 5, none⟩) (fun _ => rfl) _) (fun b _ hb hj => by cases hj; exact own_ne_row O5.out R5.out (by decide) hb)).more (fun b _ hb => by
          rcases hb with hb | hb
          · exact .inl hb
          · simp at hb; exact .inr (by omega)))
      refine ⟨⟨_, FD2, _, _, _, sec2, k2, hh, hk2, ⟨?_, ?_⟩, ?_, by simp, HS2.out, ?_, ?_⟩⟩
      · intro m f' hm hl
        rcases List.mem_append.1 hm with hm | hm
        · exact HC2.out.frame m f' hm hl
        · simp only [List.mem_singleton, Prod.mk.injEq] at hm
          exact absurd ((HL.out m).2 (by omega)) hl
      · intro m hu hl hm
        exact HC2.out.out m hu hl (fun hh => hm (by rw [List.map_append]; exact List.mem_append_left _ hh))
      · have := HL2.out
        simpa using this
      · refine HK2.out.trans (kk.mono (G := F2) ?_) ?_
        · rintro b _ (rfl | rfl | h)
          · exact HR2.out.bpb.1
          · exact HR2.out.bfb.1
          · exact (HR2.out.us.blk h).1.1
        · intro b hb h
          rcases HF2.out b h with h2 | h2
          · exact h2
          · omega
      · rintro b (hb | hb | hb)
        · rcases HF2.out b hb with h | h
          · exact .inl h
          · exact .inr (.inr h)
        · exact .inr (.inl hb)
        · have hws := HK2.out.size
          rcases B5.out with h | ⟨q, h, hq⟩
          · rw [h] at hb
            rcases HF2.out b (HR2.out.us.blk hb).1.1 with h | h
            · exact .inl h
            · exact .inr (.inr h)
          · rw [h] at hb
            simp at hq hb
            exact .inr (.inr (by omega))
end
end Go.Proofs.YtfhapbggngdckaaGreat
