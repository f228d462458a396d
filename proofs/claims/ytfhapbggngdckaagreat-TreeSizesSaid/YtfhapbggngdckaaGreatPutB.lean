/- Trees: put, at any height. -/
import Derived.Test.YtfhapbggngdckaaGreatPutA
namespace Go.Proofs.YtfhapbggngdckaaGreat
open Go.RowKit
section
variable {w w' : World} {F D : Nat → Prop} {tb pb : Nat} {root : Int} {st st' : List Int} {img img' : Nat → Byt} {k c h : Nat} {lo hi : Option Byt} {m n : Nd} {kv vv iv : Value} {p : Nat} {ps : List Nat} {es : List Ent} {key val : Byt}
theorem PutR.form {c0 : Nat} {x : Value} {b : Int} {w1 : World} {F1 : Nat → Prop} (hp : PutR c0 c h lo hi p ps es st img x b w1 F1 st' img') : ∃ xo xl xc, x = .slice xo xl xc := by
  rcases hp.it with ⟨_, e, _⟩ | ⟨q, h1, h2, sep, pa, pb, ea, eb, h3, h4, h5, h6, h7, h8, h9, h10, h11⟩
  · exact ⟨_, _, _, e⟩
  · obtain ⟨xo, xc, e, _⟩ := h11.form
    exact ⟨_, _, _, e⟩
theorem BS.uniq {w : World} {D D' : Nat → Prop} {v : Value} {a b : Byt} (h : BS w D v a) (h' : BS w D' v b) : a = b := by
  obtain ⟨ao, ac, e1, _, HA⟩ := h.form
  obtain ⟨bo, bc, e2, _, HB⟩ := h'.form
  rw [e1] at e2
  simp only [Value.slice.injEq] at e2
  obtain ⟨rfl, hl, rfl⟩ := e2
  refine List.ext_getElem hl fun i h1 h2 => ?_
  obtain ⟨g, o, e3, _, _, c1⟩ := HA.out i h1
  obtain ⟨g', o', e4, _, _, c2⟩ := HB.out i h2
  rw [e3] at e4
  simp only [Option.some.injEq, Addr.mk.injEq, and_true] at e4
  obtain ⟨rfl, rfl⟩ := e4
  rw [c1] at c2
  simp only [Option.some.injEq, Value.int.injEq, true_and] at c2
  exact UInt8.toNat_inj.1 (by omega)
theorem Has.of_perm' (h : Has st ps) {ps1 : List Nat} (e : ps = ps1) : Has st ps1 := e ▸ h
/-- The kid's pages among all. -/
theorem kid_has {R : RT} {keys K1 K2 : List Byt} {kids C1 C2 : List Int} {a b : Option Byt} {i pk : Nat} {pq P1 P2 ps' : List Nat} {E1 ek E2 : List Ent} (hh : Has st (p :: ps')) (hc : ChainAt R lo hi keys kids ps' es i a b pk K1 K2 C1 C2 P1 pq P2 E1 ek E2) : Has st ((p :: P1) ++ (pq ++ P2)) := by
  rw [hc.ps] at hh; exact hh
/-- What the kid has answered, and where it lies. -/
structure KY (n : Nd) (h : Nat) (lo hi : Option Byt) (ps : List Nat) (es : List Ent) (key val : Byt) (st : List Int) (img : Nat → Byt) (i : Nat) (x : Value) (b : Int) (w2 : World) (F2 : Nat → Prop) (st2 : List Int) (img2 : Nat → Byt) : Prop where
  it : ∃ a b' pk K1 K2 C1 C2 P1 pq P2 E1 ek E2, ChainAt (Rep img h false) lo hi n.keys n.kids ps es i a b' pk K1 K2 C1 C2 P1 pq P2 E1 ek E2 ∧ PutR 0 (h + 1) h a b' pk pq (insE ek key val) st img x b w2 F2 st2 img2
theorem Rep.bnd : ∀ {lo hi : Option Byt} {p : Nat} {ps : List Nat} {es : List Ent}, Rep img h false lo hi p ps es → ∀ e ∈ es, loOK lo e.1 ∧ hiOK hi e.1 := fun hr => hr.inn
/-- The node's own page, and the other kids', are as they were. -/
theorem same_else {P1 pq P2 pq' : List Nat} {st2 : List Int} {img2 : Nat → Byt} (hh : Has st ((p :: P1) ++ (pq ++ P2))) (hm : Mv st img pq st2 img2 pq') : Mv st img ((p :: P1) ++ (pq ++ P2)) st2 img2 ((p :: P1) ++ (pq' ++ P2)) ∧ img2 p = img p ∧ (∀ q ∈ P1, img2 q = img q) ∧ (∀ q ∈ P2, img2 q = img q) := by
  obtain ⟨h1, h2⟩ := hm.frame hh
  exact ⟨h1, h2 p (.inl (by simp)), fun q hq => h2 q (.inl (by simp [hq])), fun q hq => h2 q (.inr hq)⟩
/-- The kid has stayed one: so has the node. -/
theorem ky_one {ps' : List Nat} (hn : OnPage img p n) (hnr : NRep img (h + 1) lo hi n ps' es) (hh : Has st (p :: ps')) (hlo : loOK lo key) (hhi : hiOK hi key) {i : Nat} (hk : KPlc n key i) {x : Value} {w2 : World} {F2 : Nat → Prop} {st2 : List Int} {img2 : Nat → Byt} (c0 : Nat) (hy : KY n h lo hi ps' es key val st img i x (-1) w2 F2 st2 img2) :
    PutR c0 (h + 2) (h + 1) lo hi p (p :: ps') (insE es key val) st img (.slice none 0 0) (-1) w2 F2 st2 img2 := by
  obtain ⟨a, b', pk, K1, K2, C1, C2, P1, pq, P2, E1, ek, E2, hc, hp⟩ := hy.it
  rcases hp.it with ⟨_, _, pq', hr, hm⟩ | ⟨q, h1, _⟩
  · obtain ⟨g1, g2, g3, g4⟩ := same_else (kid_has hh hc) hm
    have hlies := hk.at Rep.bnd hlo hhi hc
    obtain ⟨hl, hke, hb, _⟩ := hnr
    refine ⟨by have := hp.room; omega, .inl ⟨rfl, rfl, p :: (P1 ++ (pq' ++ P2)), ?_, ?_⟩⟩
    · rw [hc.es, insE_mid hlies.low hlies.high]
      have hch := (hc.pre.congr g3).glue ((hc.suf.congr g4).put hr)
      rw [← hc.keys, ← hc.kids] at hch
      exact ⟨n, _, ⟨by rw [g2, hn.page], hn.sh, hn.size⟩, hl, .inr hke, hb, rfl, hch⟩
    · rw [hc.ps]; exact g1
  · omega
/-- The kid has become two: the node that is to be laid. -/
theorem ky_two {ps' : List Nat} (hn : OnPage img p n) (hnr : NRep img (h + 1) lo hi n ps' es) (hh : Has st (p :: ps')) (hlo : loOK lo key) (hhi : hiOK hi key) {i q : Nat} (hk : KPlc n key i) {x : Value} {sep : Byt} {w2 : World} {F2 : Nat → Prop} {st2 : List Int} {img2 : Nat → Byt} (hy : KY n h lo hi ps' es key val st img i x q w2 F2 st2 img2) (hsep : BS w2 D x sep) :
    roomOf st ≤ roomOf st2 + (h + 1) ∧ InnerIns n (n.kidAt i sep q) sep ∧ ∃ ps2, NRep img2 (h + 1) lo hi (n.kidAt i sep q) ps2 (insE es key val) ∧ Mv st img (p :: ps') st2 img2 (p :: ps2) := by
  obtain ⟨a, b', pk, K1, K2, C1, C2, P1, pq, P2, E1, ek, E2, hc, hp⟩ := hy.it
  rcases hp.it with ⟨e, _⟩ | ⟨q', h1, h2, sep', pa, pb, ea, eb, h3, h4, h5, h6, h7, h8, h9, h10, h11⟩
  · omega
  · obtain rfl : q = q' := by omega
    have hse : sep' = sep := h11.uniq hsep
    subst hse
    have hm2 : Mv st img pq st2 img2 (pa ++ pb) := h10
    obtain ⟨g1, g2, g3, g4⟩ := same_else (kid_has hh hc) hm2
    have hlies := hk.at Rep.bnd hlo hhi hc
    obtain ⟨hl, hke, hb, _⟩ := hnr
    obtain ⟨b1, b2, b3, b4⟩ := hc.between hn.sh.pair hb h6 h7
    have hK1 : n.keys.take i = K1 := by rw [hc.keys, ← hc.kl, List.take_left]
    have hK2 : n.keys.drop i = K2 := by rw [hc.keys, ← hc.kl, List.drop_left]
    have hC1 : n.kids.take (i + 1) = C1 ++ [(pk : Int)] := by
      rw [hc.kids, ← hc.cl, show C1 ++ (pk : Int) :: C2 = (C1 ++ [(pk : Int)]) ++ C2 by simp]
      exact List.take_left' (by simp)
    have hC2 : n.kids.drop (i + 1) = C2 := by
      rw [hc.kids, ← hc.cl, show C1 ++ (pk : Int) :: C2 = (C1 ++ [(pk : Int)]) ++ C2 by simp]
      exact List.drop_left' (by simp)
    have hii := inner_ins hl hn.sh hn.size h8 h9 h2 hk.le (by rw [hK1]; exact b1) (by rw [hK2]; exact b2)
    refine ⟨hp.room, hii, P1 ++ ((pa ++ pb) ++ P2), ⟨hl, hii.ne, fun k hk' => ?_, ?_⟩, ?_⟩
    · rcases hii.mem k hk' with e | e
      · exact hb k e
      · subst e; exact ⟨b3, b4⟩
    · rw [hc.es, insE_mid hlies.low hlies.high, h5]
      show Chain (Rep img2 h false) lo hi (n.keys.take i ++ (sep' :: n.keys.drop i)) (n.kids.take (i + 1) ++ ((q : Int) :: n.kids.drop (i + 1))) _ _
      rw [hK1, hK2, hC1, hC2]
      have hch := (hc.pre.congr g3).glue (Chain.cons h3 ((hc.suf.congr g4).put h4))
      simpa using hch
    · rw [hc.ps]
      simpa using g1
set_option maxHeartbeats 1000000 in
theorem put_tree (hk1 : 1 ≤ key.length) (hk2 : key.length ≤ 240) (hvl : val.length ≤ 260) : ∀ (h : Nat) (w : World) (F : Nat → Prop) (st : List Int) (img : Nat → Byt) (k : Nat) (lo hi : Option Byt) (p : Nat) (ps : List Nat) (es : List Ent) (deep : Int) (kx vx : Value),
    TrOK w F tb pb root st img k → Rep img h false lo hi p ps es → Has st ps → loOK lo key → hiOK hi key → 0 ≤ deep → deep + h ≤ 20 → k + 16 * (h + 1) < 1099511627700 → h + 1 ≤ roomOf st → BS w (fun b => ¬ F b) kx key → BS w (fun b => ¬ F b) vx val →
    Calls Tryz.prog 53 #[.pointer (some ⟨tb, 0, none⟩), .int .i64 p, .int .i64 deep, kx, vx] w fun e w' => ∃ xo xl xc b, e = .returned (.tuple #[.agg #[.int .i64 p, .slice xo xl xc, .int .i64 b], .int .i64 0]) ∧
      TT w F tb pb root k (16 * (h + 1)) (PutR (w.heap.size + 1) (h + 1) h lo hi p ps (insE es key val) st img (.slice xo xl xc) b) w'
  | 0, w, F, st, img, k, lo, hi, p, ps, es, deep, kx, vx, ht, hr, hh, hlo, hhi, hd0, hd, hkb, hroom, hkx, hvx => by
    obtain ⟨n, ps', hn, hnr, rfl⟩ := hr.open
    obtain ⟨hl, hke, rfl, hes, hb⟩ := hnr
    have hp := hh.use p (by simp)
    refine (put_leaf ht p hp hn hl deep (by omega) (by omega) hkx hvx hk2 hvl (c := 12) (Y := fun _ x b w' F' st' img' => PutR (w.heap.size + 1) 1 0 lo hi p [p] (insE es key val) st img x b w' F' st' img')
      (fun i x b w1 w2 F' st' img' {G} hk hG hF hx => hx.keep hk (fun b hb => by have := hG b hb; omega)) ?_).mono ?_
    · intro i X F1 k1 kv vv iv hi' hpl hX ht1 hk1' hr
      have li := leaf_ins hl hn.sh hn.size hk1 hk2 hvl hpl
      have hla := lay_any ht1 hr li.sh (by rw [li.leaf]; exact li.size) (h := 0) (lo := lo) (hi := hi) (p := p) (ps := []) (es := insE es key val) ⟨li.leaf, li.ne, rfl, by rw [hes]; exact li.ents.symm, fun x hx => by
        rcases li.mem x hx with e | e
        · exact hb x e
        · subst e; exact ⟨hlo, hhi⟩⟩ hh (by omega) (by omega)
      rw [li.leaf] at hla
      refine hla.mono fun e w' => ?_
      rintro ⟨xo, xl, xc, b, rfl, t⟩
      exact ⟨xo, xl, xc, b, rfl, t.mono (Nat.le_refl _) fun F1 st1 img1 _ _ hx => hx.low (by omega)⟩
    · rintro e w' ⟨i, x, b, rfl, _, _, t⟩
      obtain ⟨xo, xl, xc, rfl⟩ : ∃ xo xl xc, x = .slice xo xl xc := by
        obtain ⟨⟨F1, st1, img1, k1, _, _, _, _, hx⟩⟩ := t
        exact hx.form
      exact ⟨xo, xl, xc, b, rfl, t.mono (by omega) fun F1 st1 img1 _ _ hx => hx⟩
  | h + 1, w, F, st, img, k, lo, hi, p, ps, es, deep, kx, vx, ht, hr, hh, hlo, hhi, hd0, hd, hkb, hroom, hkx, hvx => by
    obtain ⟨n, ps', hn, hnr, rfl⟩ := hr.open
    have hl := hnr.1
    have hp := hh.use p (by simp)
    refine (put_inner ht p hp hn hl deep hd0 (by omega) (by omega) hkx hvx hk2 hvl (ck := 16 * (h + 1)) (c := 12) (KY := KY n h lo hi ps' es key val st img) (Y := fun _ x b w' F' st' img' => PutR (w.heap.size + 1) (h + 2) (h + 1) lo hi p (p :: ps') (insE es key val) st img x b w' F' st' img') ?_ ?_ ?_
      (fun i x b w1 w2 F' st' img' {G} hk hG hF hx => hx.keep hk (fun b hb => by have := hG b hb; omega))).mono ?_
    · intro i X F1 k1 pk hkp hpk ht1 hk1' hkx1 hvx1
      obtain ⟨a, b', pk', K1, K2, C1, C2, P1, pq, P2, E1, ek, E2, hc⟩ := hnr.2.2.2.split i hkp.le
      have hlies := hkp.at Rep.bnd hlo hhi hc
      obtain rfl : pk = (pk' : Int) := by
        rw [hc.kids, List.getElem?_append_right (by rw [hc.cl]; omega), hc.cl] at hpk
        simpa using hpk.symm
      have hhk := (kid_has hh hc).mid
      refine (put_tree hk1 hk2 hvl h X F1 st img k1 a b' pk' pq ek (deep + 1) kx vx ht1 hc.it hhk hlies.lo hlies.hi (by omega) (by omega) (by omega) (by omega) hkx1 hvx1).mono fun e w' => ?_
      rintro ⟨xo, xl, xc, b, rfl, t⟩
      refine ⟨xo, xl, xc, b, rfl, t.mono (Nat.le_refl _) fun F2 st2 img2 _ _ hx => ⟨⟨?_⟩, ⟨a, b', pk', K1, K2, C1, C2, P1, pq, P2, E1, ek, E2, hc, hx.low (Nat.zero_le _)⟩⟩⟩
      rcases hx.it with ⟨e, _⟩ | ⟨q, h1, h2, sep, pa, pb, ea, eb, h3, h4, h5, h6, h7, h8, h9, h10, h11⟩
      · exact .inl e
      · exact .inr ⟨q, h1, sep, by omega, h11.more (fun b _ e => ⟨by omega, e.2⟩)⟩
    · intro i x w2 F2 st2 img2 hkp hy
      exact ky_one hn hnr hh hlo hhi hkp _ hy
    · intro i x q sep w2 F2 st2 img2 k2 X kv vv iv hkp hsep hy hX ht2 hk2' hr
      obtain ⟨g1, g2, ps2, g3, g4⟩ := ky_two hn hnr hh hlo hhi hkp hy hsep
      have hla := lay_any ht2 hr g2.sh (by rw [g2.leaf]; exact g2.size) g3 g4.has (by omega) (by omega)
      rw [g2.leaf] at hla
      refine hla.mono fun e w' => ?_
      rintro ⟨xo, xl, xc, b, rfl, t⟩
      refine ⟨xo, xl, xc, b, rfl, t.mono (Nat.le_refl _) fun F1 st1 img1 _ _ hx => ?_⟩
      have hx := hx.low (show w.heap.size + 1 ≤ X.heap.size by omega)
      refine ⟨by have := hx.room; omega, ?_⟩
      rcases hx.it with ⟨e1, e2, ps3, e3, e4⟩ | ⟨q', e1, e2, sep', pa, pb, ea, eb, e3, e4, e5, e6, e7, e8, e9, e10, e11⟩
      · exact .inl ⟨e1, e2, ps3, e3, g4.trans e4⟩
      · exact .inr ⟨q', e1, e2, sep', pa, pb, ea, eb, e3, e4, e5, e6, e7, e8, e9, g4.trans e10, e11⟩
    · rintro e w' ⟨i, x, b, rfl, _, t⟩
      obtain ⟨xo, xl, xc, rfl⟩ : ∃ xo xl xc, x = .slice xo xl xc := by
        obtain ⟨⟨F1, st1, img1, k1, _, _, _, _, hx⟩⟩ := t
        exact hx.form
      exact ⟨xo, xl, xc, b, rfl, t.mono (by omega) fun F1 st1 img1 _ _ hx => hx⟩
end
end Go.Proofs.YtfhapbggngdckaaGreat
