/- Trees: lay, with what it means for the tree. -/
import Derived.Test.YtfhapbggngdckaaGreatNRep
namespace Go.Proofs.YtfhapbggngdckaaGreat
open Go.RowKit
/-- What a change under a page leaves: the page's subtree, or two of them. -/
structure PutR (c0 c h : Nat) (lo hi : Option Byt) (p : Nat) (ps : List Nat) (es : List Ent) (st : List Int) (img : Nat → Byt) (x : Value) (b : Int) (w' : World) (F' : Nat → Prop) (st' : List Int) (img' : Nat → Byt) : Prop where
  room : roomOf st ≤ roomOf st' + c
  it : (b = -1 ∧ x = .slice none 0 0 ∧ ∃ ps', Rep img' h false lo hi p ps' es ∧ Mv st img ps st' img' ps') ∨
    (∃ q : Nat, b = q ∧ q ≤ 2147483647 ∧ ∃ sep pa pb ea eb, Rep img' h false lo (some sep) p pa ea ∧ Rep img' h false (some sep) hi q pb eb ∧ es = ea ++ eb ∧ loS lo sep ∧ hiOK hi sep ∧ 1 ≤ sep.length ∧ sep.length ≤ 240 ∧
      Mv st img ps st' img' (pa ++ pb) ∧ BS w' (fun b => c0 ≤ b ∧ ¬ F' b) x sep)
section
variable {w w' : World} {F D : Nat → Prop} {tb pb : Nat} {root : Int} {st st' : List Int} {img img' : Nat → Byt} {k c h : Nat} {lo hi : Option Byt} {m : Nd} {kv vv iv : Value} {p : Nat} {ps : List Nat} {es : List Ent}
theorem PutR.keep {c0 : Nat} {x : Value} {b : Int} {w1 w2 : World} {F1 G : Nat → Prop} (hp : PutR c0 c h lo hi p ps es st img x b w1 F1 st' img') (hk : Keep G w1 w2) (hG : ∀ b, G b → b < c0) : PutR c0 c h lo hi p ps es st img x b w2 F1 st' img' := by
  refine ⟨hp.room, hp.it.imp id ?_⟩
  rintro ⟨q, h1, h2, sep, pa, pb, ea, eb, h3, h4, h5, h6, h7, h8, h9, h10, h11⟩
  exact ⟨q, h1, h2, sep, pa, pb, ea, eb, h3, h4, h5, h6, h7, h8, h9, h10, h11.keep hk (fun b _ e f => by have := hG b f; omega)⟩
theorem PutR.low {c0 c1 : Nat} {x : Value} {b : Int} {w1 : World} {F1 : Nat → Prop} (hp : PutR c0 c h lo hi p ps es st img x b w1 F1 st' img') (hc : c1 ≤ c0) : PutR c1 c h lo hi p ps es st img x b w1 F1 st' img' := by
  refine ⟨hp.room, hp.it.imp id ?_⟩
  rintro ⟨q, h1, h2, sep, pa, pb, ea, eb, h3, h4, h5, h6, h7, h8, h9, h10, h11⟩
  exact ⟨q, h1, h2, sep, pa, pb, ea, eb, h3, h4, h5, h6, h7, h8, h9, h10, h11.more (fun b _ e => ⟨by omega, e.2⟩)⟩
theorem upd_same (img : Nat → Byt) (p : Nat) (l : Byt) : upd img p l p = l := by simp [upd]
theorem upd_other (img : Nat → Byt) {p q : Nat} (h : q ≠ p) (l : Byt) : upd img p l q = img q := by simp [upd, h]
theorem one_page (hn : NRep img h lo hi m ps es) (hs : m.Sh) (hz : m.size ≤ 1024) (hh : Has st (p :: ps)) : Rep (upd img p m.page) h false lo hi p (p :: ps) es ∧ Mv st img (p :: ps) st (upd img p m.page) (p :: ps) := by
  have hpn : p ∉ ps := (List.nodup_cons.1 hh.nd).1
  exact ⟨(hn.congr (fun q hq => upd_other img (fun (e : q = p) => hpn (by rw [← e]; exact hq)) _)).rep ⟨upd_same _ _ _, hs, hz⟩, Mv.write hh (by simp) _⟩
set_option maxHeartbeats 1000000 in
theorem lay_any (ht : TrOK w F tb pb root st img k) (hr : NdR w D kv vv iv m) (hs : m.Sh) (hz : m.size ≤ if m.leaf then 1527 else 1300) (hn : NRep img h lo hi m ps es) (hh : Has st (p :: ps)) (hroom : 1 ≤ roomOf st) (hk : k < 1099511627750) :
    Calls Tryz.prog 52 #[.pointer (some ⟨tb, 0, none⟩), .agg #[.bool m.leaf, kv, vv, iv], .int .i64 p] w fun e w' => ∃ xo xl xc b, e = .returned (.tuple #[.agg #[.int .i64 p, .slice xo xl xc, .int .i64 b], .int .i64 0]) ∧
      TT w F tb pb root k 12 (PutR w.heap.size 1 h lo hi p (p :: ps) es st img (.slice xo xl xc) b) w' := by
  have hp := hh.use p (by simp)
  by_cases hfit : m.size ≤ 1024
  · have ho := one_page hn hs hfit hh
    refine (lay_fit ht hr hs hfit p p (c := 4) (X := fun _ _ st' img' => st' = st ∧ img' = upd img p m.page) (fun _ _ _ _ _ h => h) (fun W hW => write_fresh (ht.step hW) (hr.keep hW (fun _ _ _ h => h)) hs hfit p hp (by omega))).mono fun e w' => ?_
    rintro ⟨rfl, t⟩
    refine ⟨_, _, _, _, rfl, t.mono (by omega) fun F1 st1 img1 _ _ hx => ?_⟩
    obtain ⟨rfl, rfl⟩ := hx
    exact ⟨by omega, .inl ⟨rfl, rfl, _, ho.1, ho.2⟩⟩
  · obtain ⟨q, hq, hq0⟩ := room_take hroom
    have hsm := ht.pages.small
    have hql : q < st.length := (List.getElem?_eq_some_iff.1 hq0).1
    refine (lay_split ht hr hs (by omega) hz p q hp hq hk).mono fun e w' => ?_
    rintro ⟨xv, kk, rfl, hkk, hfits, t⟩
    obtain ⟨ps1, ps2, es1, es2, hv⟩ := halved hn hs hkk.1 hkk.2
    have hform : ∃ xo xl xc, xv = .slice xo xl xc := by
      obtain ⟨⟨F1, st1, img1, k1, _, _, _, _, hx⟩⟩ := t
      obtain ⟨xo, xc, e, _⟩ := hx.key.form
      exact ⟨xo, _, xc, e⟩
    obtain ⟨xo, xl, xc, rfl⟩ := hform
    refine ⟨xo, xl, xc, q, rfl, t.mono (by omega) fun F1 st1 img1 _ _ hx => ?_⟩
    obtain ⟨rfl, rfl, hkey⟩ := hx
    have hpn := (List.nodup_cons.1 hh.nd).1
    have hqn : q ∉ p :: ps := fun e => by have := hh.use q e; rw [hq0] at this; simp at this
    have hne : q ≠ p := fun e => hqn (by simp [e])
    have hps : ∀ x ∈ ps, upd (upd img p (m.fst kk).page) q (m.snd kk).page x = img x := fun x hx => by
      rw [upd_other _ (fun (e : x = q) => hqn (by rw [← e]; simp [hx])), upd_other _ (fun (e : x = p) => hpn (by rw [← e]; exact hx))]
    have r1 := (hv.fst.congr (img' := upd (upd img p (m.fst kk).page) q (m.snd kk).page) (fun x hx => hps x (by rw [hv.ps]; simp [hx]))).rep (p := p) ⟨by rw [upd_other _ (fun e => hne e.symm), upd_same], hfits.1, hfits.2.2.1⟩
    have r2 := (hv.snd.congr (img' := upd (upd img p (m.fst kk).page) q (m.snd kk).page) (fun x hx => hps x (by rw [hv.ps]; simp [hx]))).rep (p := q) ⟨upd_same _ _ _, hfits.2.1, hfits.2.2.2⟩
    have m1 := Mv.write (img := img) hh (p := p) (by simp) (m.fst kk).page
    have m2 := Mv.alloc (img := upd img p (m.fst kk).page) m1.has hq0 (m.snd kk).page
    refine ⟨by have := roomOf_set st q 2 (by decide) hq0; omega, .inr ⟨q, rfl, by omega, _, p :: ps1, q :: ps2, es1, es2, r1, r2, hv.es, hv.lo, hv.hi, hv.l1, hv.l2, (m1.trans m2).perm ?_, hkey⟩⟩
    rw [hv.ps]
    have : (q :: (p :: ps1 ++ ps2)).Perm ((p :: ps1) ++ q :: ps2) := List.perm_middle.symm
    simpa using this
end
end Go.Proofs.YtfhapbggngdckaaGreat
