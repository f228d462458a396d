/- The pool: a frame's page is written. -/
import Derived.Test.YtfhapbggngdckaaGreatPoolA
namespace Go.Proofs.YtfhapbggngdckaaGreat
open Go.RowKit

/-- The j-th sector of a page. -/
def chunk (j : Nat) (l : List UInt8) : List UInt8 := (l.drop (256 * j)).take 256
theorem length_chunk {j : Nat} {l : List UInt8} (h : l.length = 1024) (hj : j < 4) : (chunk j l).length = 256 := by simp [chunk]; omega
/-- The sectors behind the first j of a page have been written from sector s on. -/
def wr (sec : Nat → List UInt8) (s : Nat) (l : List UInt8) (j : Nat) : Nat → List UInt8 := fun x => if s ≤ x ∧ x < s + j then chunk (x - s) l else sec x
theorem wr_zero (sec : Nat → List UInt8) (s : Nat) (l : List UInt8) : wr sec s l 0 = sec := by
  funext x; unfold wr; rw [if_neg (by omega)]
theorem wr_succ (sec : Nat → List UInt8) (s : Nat) (l : List UInt8) (j : Nat) : (fun x => if x = s + j then chunk j l else wr sec s l j x) = wr sec s l (j + 1) := by
  funext x
  unfold wr
  by_cases h : x = s + j
  · subst h; rw [if_pos rfl, if_pos (by omega), show s + j - s = j by omega]
  · rw [if_neg h]
    by_cases h2 : s ≤ x ∧ x < s + j
    · rw [if_pos h2, if_pos (by omega)]
    · rw [if_neg h2, if_neg (by omega)]
def clean (n : Int) (fs : List (Int × Fr)) : List (Int × Fr) := fs.map fun p => if p.1 = n then (p.1, { p.2 with dirty := false }) else p
theorem clean_fst (n : Int) (fs : List (Int × Fr)) : (clean n fs).map (·.1) = fs.map (·.1) := by
  simp only [clean, List.map_map]
  apply List.map_congr_left
  intro p _
  simp only [Function.comp]
  split <;> rfl
theorem fmap_clean (n : Int) (fs : List (Int × Fr)) : fmap (clean n fs) = fmap fs := by
  simp only [clean, fmap, List.map_map]
  apply List.map_congr_left
  intro p _
  simp only [Function.comp]
  split <;> rfl
theorem chunk_bs {w : World} {B : Nat → Prop} {n : Int} {f : Fr} (h : FrOK w B n f) {q o cap j : Nat} (hbv : f.bv = .slice (some ⟨q, o, none⟩) 1024 cap) (hlt : j < 4) :
    BS w.drew B (.slice (some ⟨q, o + 256 * j, none⟩) 256 (cap - 256 * j)) (chunk j f.data) := by
  have hl1 : (f.data.map u8).length = 1024 := by rw [List.length_map]; exact h.len
  have hl2 : ((chunk j f.data).map u8).length = 256 := by rw [List.length_map]; exact length_chunk h.len hlt
  obtain ⟨b', o', cap', e, h1, h2, hin, hbl, hx⟩ := h.own.rs.pos (by rw [hl1]; omega)
  rw [hbv] at e
  injection e with e1 e2 e3
  injection e1 with e1
  injection e1 with e1 e4 _
  subst e1; subst e4; subst e3
  refine ⟨_, _, by rw [hl2], by rw [hl2]; omega, by omega, fun _ => ⟨q, o + 256 * j, rfl, hin, hbl, fun i hi => ?_⟩⟩
  rw [hl2] at hi
  rw [World.cell?_drew, show o + 256 * j + i = o + (256 * j + i) by omega, hx _ (by rw [hl1]; omega)]
  simp only [List.getElem?_map, chunk]
  rw [List.getElem?_take_of_lt hi, List.getElem?_drop]
section
variable {w w' : World} {F FD : Nat → Prop} {g : PG} {uv : Value} {ul : List Int} {fs : List (Int × Fr)} {st : List Int} {sec : Nat → List UInt8} {k : Nat}
/-- The disk has turned, and nothing else. -/
theorem Raw.diskStep (h : Raw w F FD g uv ul fs st sec k) {FD' : Nat → Prop} {sec' : Nat → List UInt8} {k' : Nat} (hd : DiskOK w' g.db g.sz FD' sec' k') (hk : Keep FD w w') (hf : ∀ b, FD' b → b < w'.heap.size ∧ (FD b ∨ w.heap.size ≤ b)) :
    Raw w' (fun b => F b ∨ FD' b) FD' g uv ul fs st sec' k' := by
  have hB : ∀ b, (F b ∧ ¬ FD b) → (F b ∨ FD' b) ∧ ¬ FD' b := by
    rintro b ⟨h1, h2⟩
    refine ⟨.inl h1, fun h3 => ?_⟩
    rcases (hf b h3).2 with h4 | h4
    · exact h2 h4
    · have := h.lt b h1; omega
  exact { row := h.row.keep hk h.bpb.2, disk := hd, is := h.is.keep hk h.bib.2, fm := h.fm.keep hk h.bfb.2, us := (h.us.more (fun b _ => hB b)).keep hk (fun b _ hb => (h.us.blk hb).1.2), und := h.und, umem := h.umem
          frs := fun p hp => ((h.frs p hp).keep hk (fun b _ hb => hb.2)).more (fun b _ => hB b)
          sub := fun b hb => .inr hb, lt := fun b hb => by
            rcases hb with hb | hb
            · exact Nat.lt_of_lt_of_le (h.lt b hb) hk.size
            · exact (hf b hb).1
          bpb := hB _ h.bpb, bib := hB _ h.bib, bfb := hB _ h.bfb, fits := h.fits, keys := h.keys }
/-- A frame is clean now. -/
theorem Raw.cleanStep (h : Raw w F FD g uv ul fs st sec k) (n : Int) (f : Fr) (hn : (n, f) ∈ fs) : Raw (w.setCell ⟨f.b, 2, none⟩ (.bool false)) F FD g uv ul (clean n fs) st sec k := by
  have hf := h.frs _ hn
  have hk : Keep (Just f.b) w (w.setCell ⟨f.b, 2, none⟩ (.bool false)) := (Keep.refl (Just f.b) w).setCell (p := ⟨f.b, 2, none⟩) (fun _ => rfl) _
  have hB : ∀ b, (F b ∧ ¬ FD b) → True := fun _ _ => trivial
  refine { row := h.row.keep hk (h.row.ne hf.row (by decide)), disk := h.disk.keep hk (fun b _ hb hj => by cases hj; exact hf.inb.2 hb), is := h.is.keep hk (h.is.ne hf.row (by decide)), fm := by rw [fmap_clean]; exact h.fm.keep hk (h.fm.ne_row hf.row)
           us := h.us.keep hk (fun b _ hb hj => by cases hj; exact own_ne_row h.us hf.row (by decide) hb), und := h.und, umem := fun x => by rw [clean_fst]; exact h.umem x
           frs := ?_, sub := h.sub, lt := fun b hb => by simpa using h.lt b hb, bpb := h.bpb, bib := h.bib, bfb := h.bfb, fits := h.fits, keys := ?_ }
  · intro p hp
    obtain ⟨q, hq, rfl⟩ := List.mem_map.1 hp
    have hfq := h.frs q hq
    by_cases hqn : q.1 = n
    · have hqf : q.2 = f := by
        have h1 := imGet_fmap_some h.fnd hq
        have h2 := imGet_fmap_some h.fnd hn
        rw [hqn] at h1
        rw [h1] at h2
        simp only [frPtr, Option.some.injEq, Value.pointer.injEq, Addr.mk.injEq, and_true] at h2
        have hp2 : q = (n, f) := by
          have hpw := h.fnd
          obtain ⟨i, hi, hqi⟩ := List.getElem_of_mem hq
          obtain ⟨j, hj, hnj⟩ := List.getElem_of_mem hn
          rcases Nat.lt_trichotomy i j with hlt | heq | hgt
          · exact ((List.pairwise_iff_getElem.1 hpw) i j (by simpa using hi) (by simpa using hj) hlt (by simp [hqi, hnj, hqn])).elim
          · subst heq; exact hqi.symm.trans hnj
          · exact ((List.pairwise_iff_getElem.1 hpw) j i (by simpa using hj) (by simpa using hi) hgt (by simp [hqi, hnj, hqn])).elim
        rw [hp2]
      rw [if_pos hqn]
      refine ⟨?_, hfq.inb, ?_, hfq.len⟩
      · have := hfq.row.set 2 (.bool false)
        rw [hqf] at this ⊢
        simpa using this
      · exact hfq.own.keep hk (fun b _ hb hj => by cases hj; exact own_ne_row hfq.own hf.row (by decide) hb)
    · rw [if_neg hqn]
      refine ⟨hfq.row.keep hk ?_, hfq.inb, hfq.own.keep hk ?_, hfq.len⟩
      · intro hj
        have hj : q.2.b = f.b := hj
        have hr := hfq.row
        rw [hj] at hr
        have := (hr.uniq hf.row).2
        simp only [List.cons.injEq, Value.int.injEq, true_and] at this
        exact hqn this.1
      · intro b _ hb hj
        cases hj
        exact own_ne_row hfq.own hf.row (by decide) hb
  · intro p hp
    obtain ⟨q, hq, rfl⟩ := List.mem_map.1 hp
    have := h.keys q hq
    split <;> exact this

set_option maxRecDepth 40000 in
set_option maxHeartbeats 1600000 in
theorem write_any (h : Raw w F FD g uv ul fs st sec k) (n : Nat) (f : Fr) (hn : ((n : Int), f) ∈ fs) (hk : k < 1099511627770) :
    Calls Tryz.prog 131 #[.pointer (some ⟨g.pb, 0, none⟩), .pointer (some ⟨f.b, 0, none⟩)] w fun e w' => e = .returned (.bool true) ∧
      To w (fun b => FD b ∨ b = f.b) F FD (fun w' F' FD' => Raw w' F' FD' g uv ul (clean n fs) st (wr sec (g.off + 4 * n) f.data 4) (k + 4)) w' := by
  have hf := h.frs _ hn
  have hlen : (f.data.map u8).length = 1024 := by rw [List.length_map]; exact hf.len
  obtain ⟨q, o, cap, hbv, hcap, hcm, _, _, _⟩ := hf.own.rs.pos (by rw [hlen]; omega)
  rw [hlen] at hbv hcap
  have hkey := h.keys _ hn
  simp only at hkey
  have hsm := h.small
  have hsl : ∀ (j : Nat), j < 4 → ∀ w : World, (Instr.slice 23 (.slice (some ⟨q, o, none⟩) 1024 cap) (some (.int .i64 ((j : Int) * 256))) (some (.int .i64 (((j : Int) + 1) * 256))) none).run Tryz.prog w = .ok (.slice (some ⟨q, o + 256 * j, none⟩) 256 (cap - 256 * j)) w := fun j hj w => by
    rw [run_slice_lh_at etB q o 1024 cap (256 * j) (256 * (j + 1)) _ _ (by omega) (by omega) (by omega) (by omega) (by omega) w, show 256 * (j + 1) - 256 * j = 256 by omega]
  have HS := Lib.hid hsl
  have HH := Lib.hid h
  have HN := Lib.hid hn
  have HBV := Lib.hid hbv
  have hfits := h.fits
  clear hsl h hn hf hbv hlen
  obtain ⟨pb, pool, db, off, sz, ib, fb⟩ := g
  simp only at hfits hsm ⊢
  go_enter Tryz.func131, Tryz.ntmps131
  go_wp2_with fail
  go_loopw [6] (fun i wr' => ∃ j : Nat, j ≤ 4 ∧ i = .int .i64 j ∧ To w FD F FD (fun wr' F' FD' => Raw wr' F' FD' ⟨pb, pool, db, off, sz, ib, fb⟩ uv ul fs st (wr sec (off + 4 * n) f.data j) (k + j)) wr') (fun i _ => 4 - (intOf i).toNat)
  case atStart => exact ⟨0, by omega, rfl, ⟨F, FD, by rw [wr_zero]; exact HH.out, Keep.refl _ _, fun b hb => .inl hb, fun b hb => .inl hb⟩⟩
  case round =>
    obtain ⟨j, hj, rfl, HI⟩ := hrel
    obtain ⟨⟨F', FD', hr, hkp, hF', hFD'⟩⟩ := HI
    have hfr := hr.frs _ HN.out
    have e0 := hfr.row.cell 0
    have e1 := hfr.row.cell 1
    have e2 := hfr.row.frozen 2
    have e3 := hfr.row.cell 2
    have c0 := hr.row.cell 0
    have c1 := hr.row.cell 1
    simp only [List.getElem?_cons_zero, List.getElem?_cons_succ] at e0 e1 e3 c0 c1
    rw [HBV.out] at e1
    have HR := Lib.hid hr
    have HK := Lib.hid hkp
    have HF := Lib.hid hF'
    have HFD := Lib.hid hFD'
    have HFR := Lib.hid hfr
    clear hr hkp hF' hFD' hfr
    by_cases hlt : j < 4
    · have hs := HS.out j hlt
      have q1 : IntKind.i64.wrap (4 * (n : Int)) = 4 * (n : Int) := IntWalk.i64_in _ (by omega)
      have q2 : IntKind.i64.wrap ((off : Int) + 4 * (n : Int)) = (off : Int) + 4 * (n : Int) := IntWalk.i64_in _ (by omega)
      have q3 : IntKind.i64.wrap ((off : Int) + 4 * (n : Int) + (j : Int)) = (off : Int) + 4 * (n : Int) + (j : Int) := IntWalk.i64_in _ (by omega)
      have q4 : IntKind.i64.wrap ((j : Int) * 256) = (j : Int) * 256 := IntWalk.i64_in _ (by omega)
      have q5 : IntKind.i64.wrap ((j : Int) + 1) = (j : Int) + 1 := IntWalk.i64_in _ (by omega)
      have q6 : IntKind.i64.wrap (((j : Int) + 1) * 256) = ((j : Int) + 1) * 256 := IntWalk.i64_in _ (by omega)
      go_wp2_with fail
      go_still_tail 26, (by kernel_rfl)
      change wpList _ _ _ _ _ wr.drew
      have hD := HR.out.disk
      have hlt2 := HR.out.lt
      have hsub := HR.out.sub
      have hB : BS wr.drew (fun b => F' b ∧ ¬ FD' b) (.slice (some ⟨q, o + 256 * j, none⟩) 256 (cap - 256 * j)) (chunk j f.data) := by
        exact chunk_bs HFR.out HBV.out hlt
      have HB := Lib.hid hB
      have HD := Lib.hid hD
      have HSUB := Lib.hid hsub
      have HLT := Lib.hid hlt2
      clear hB hD hsub hlt2 q1 q2 q3 q4 q5 q6 hs HS
      go_wp2_with (go_at_call 152; rw [show ((off : Int) + 4 * (n : Int) + (j : Int)) = ((off + 4 * n + j : Nat) : Int) from by omega]; refine (diskWrite _ db sz FD' (fun b => F' b ∧ ¬ FD' b) _ _ _ _ _ (HD.out.keep ((Keep.refl No wr).drew) (fun _ _ _ h => h)) (by omega) HB.out (length_chunk (HFR.out.len) hlt) (by omega) (fun h => h.2 HD.out.fdb) (fun b hb => HLT.out b (HSUB.out b hb))).mono ?_; rintro e w2 ⟨rfl, FD2, hd2, hk2, hf2⟩; have HD2 := Lib.hid hd2; have HK2 := Lib.hid hk2; have HF2 := Lib.hid hf2; clear hd2 hk2 hf2)
      go_roundw
      case rel =>
        refine ⟨j + 1, by omega, by go_num, ?_⟩
        have hd3 := HD2.out
        rw [wr_succ] at hd3
        have h5 := (HR.out.keep ((Keep.refl No wr).drew) (fun _ _ h => h)).diskStep hd3 HK2.out HF2.out
        have hs1 := HK.out.size
        refine ⟨_, FD2, h5, ?_, ?_, ?_⟩
        · refine HK.out.trans (G := fun b => FD' b) ((Keep.refl (fun b => FD' b) wr).drew.trans HK2.out (fun b _ h => h)) ?_
          intro b hb h
          rcases HFD.out b h with h2 | h2
          · exact h2
          · omega
        · intro b hb
          rcases hb with hb | hb
          · exact HF.out b hb
          · rcases (HF2.out b hb).2 with h | h
            · exact HF.out b (HSUB.out b h)
            · simp at h
              exact .inr (by omega)
        · intro b hb
          rcases (HF2.out b hb).2 with h | h
          · exact HFD.out b h
          · simp at h
            exact .inr (by omega)
      case measure => simp [intOf]; omega
    · obtain rfl : j = 4 := by omega
      clear HS
      go_wp2_with fail
      go_ret
      exact ⟨rfl, ⟨F', FD', HR.out.cleanStep _ _ HN.out, (HK.out.mono (fun _ _ h => .inl h)).setCell (p := ⟨f.b, 2, none⟩) (fun _ => .inr rfl) _, HF.out, HFD.out⟩⟩
end
end Go.Proofs.YtfhapbggngdckaaGreat
