/- Trees: collect. -/
import Derived.Test.YtfhapbggngdckaaGreatGet
namespace Go.Proofs.YtfhapbggngdckaaGreat
open Go.RowKit
/-- A page that has been seen. -/
def pr (q : Nat) : Int × Value := ((q : Int), .bool true)
/-- What a call leaves that may write one more block. -/
structure TM (w : World) (F : Nat → Prop) (tb pb : Nat) (root : Int) (k c mb : Nat) (X : World → (Nat → Prop) → List Int → (Nat → Byt) → Prop) (w' : World) : Prop where
  ex : ∃ F' st' img' k', TrOK w' F' tb pb root st' img' k' ∧ k' ≤ k + c ∧ Keep (fun b => F b ∨ b = mb) w w' ∧ (∀ b, F' b → F b ∨ w.heap.size ≤ b) ∧ X w' F' st' img'
theorem zero_bool (w : World) : (zeroValue 4).run Tryz.prog w = .ok (.bool false) w := by kernel_rfl
theorem imPut_new {q : Nat} : ∀ {qs : List Nat}, q ∉ qs → imPut (q : Int) (.bool true) (qs.map pr) = (qs ++ [q]).map pr
  | [], _ => rfl
  | x :: qs, h => by
    simp only [List.mem_cons, not_or] at h
    show (if (q : Int) = (x : Int) then _ else _) = _
    rw [if_neg (by omega)]
    show pr x :: imPut (q : Int) (.bool true) (qs.map pr) = _
    rw [imPut_new h.2]; rfl
theorem pr_fst (qs : List Nat) : (qs.map pr).map (·.1) = qs.map (fun q : Nat => (q : Int)) := by simp [pr, Function.comp_def]
theorem imGet_new {q : Nat} {qs : List Nat} (h : q ∉ qs) : imGet (q : Int) (qs.map pr) = none := by
  refine imGet_of_not_mem _ _ ?_
  rw [pr_fst]
  intro hm
  obtain ⟨x, hx, e⟩ := List.mem_map.1 hm
  have e2 : x = q := by omega
  exact h (e2 ▸ hx)
section
variable {w w' : World} {F D : Nat → Prop} {tb pb mb : Nat} {root : Int} {st st' : List Int} {img img' : Nat → Byt} {k c h hgt : Nat} {lo hi : Option Byt} {m n : Nd} {kv vv iv kx vx : Value} {p : Nat} {ps qs : List Nat} {es : List Ent} {key val : Byt}
theorem TM.trans {w1 w2 : World} {F1 : Nat → Prop} {k1 c1 c2 : Nat} {Y : World → (Nat → Prop) → List Int → (Nat → Byt) → Prop} (hkp : Keep (fun b => F b ∨ b = mb) w w1) (hg : ∀ b, F1 b → F b ∨ w.heap.size ≤ b) (hk1 : k1 ≤ k + c1) (t : TM w1 F1 tb pb root k1 c2 mb Y w2) : TM w F tb pb root k (c1 + c2) mb Y w2 := by
  obtain ⟨⟨F2, st2, img2, k2, ht, hk2, hkp2, hg2, hx⟩⟩ := t
  have hs := hkp.size
  refine ⟨F2, st2, img2, k2, ht, by omega, hkp.next hkp2 (fun b e => ?_), fun b hb => ?_, hx⟩
  · rcases e with e | e
    · rcases hg b e with e | e
      · exact .inr (.inl e)
      · exact .inl e
    · exact .inr (.inr e)
  · rcases hg2 b hb with e | e
    · exact hg b e
    · exact .inr (by omega)
theorem chain_next {R : RT} {keys : List Byt} {kids : List Int} {i : Nat} {P2 : List Nat} {E2 : List Ent} (hc : Chain R lo hi keys (kids.drop i) P2 E2) : ∃ (pk : Nat) (lo1 hi1 : Option Byt) (pq P3 : List Nat) (ek : List Ent), kids[i]? = some ((pk : Nat) : Int) ∧ R lo1 hi1 pk pq ek ∧ P2 = pq ++ P3 ∧
    ((i + 1 = kids.length ∧ P3 = []) ∨ ∃ lo' keys' E3, Chain R lo' hi keys' (kids.drop (i + 1)) P3 E3) := by
  have hd : ∀ {x : Int} {r : List Int}, kids.drop i = x :: r → kids[i]? = some x ∧ kids.drop (i + 1) = r ∧ i < kids.length := fun {x r} e => by
    have h1 : (kids.drop i)[0]? = some x := by rw [e]; rfl
    rw [List.getElem?_drop] at h1
    refine ⟨by simpa using h1, ?_, ?_⟩
    · rw [← List.drop_drop, e]; rfl
    · have := (List.getElem?_eq_some_iff.1 h1).1; omega
  generalize hk : kids.drop i = kd at hc
  cases hc with
  | one h =>
    obtain ⟨h1, h2, h3⟩ := hd hk
    refine ⟨_, _, _, _, [], _, h1, h, (List.append_nil _).symm, .inl ⟨?_, rfl⟩⟩
    have := congrArg List.length h2
    simp at this
    omega
  | cons h hc =>
    obtain ⟨h1, h2, h3⟩ := hd hk
    exact ⟨_, _, _, _, _, _, h1, h, rfl, .inr ⟨_, _, _, by rw [h2]; exact hc⟩⟩
/-- Where collect stands among the kids. -/
structure CAt (w : World) (F : Nat → Prop) (tb pb : Nat) (root : Int) (st : List Int) (img : Nat → Byt) (k mb h : Nat) (hi : Option Byt) (n : Nd) (qs ps' : List Nat) (bk i : Nat) (iv : Value) (wr : World) : Prop where
  it : ∃ P1 P2, ps' = P1 ++ P2 ∧ ((i = n.kids.length ∧ P2 = []) ∨ ∃ lo keys E2, Chain (Rep img h false) lo hi keys (n.kids.drop i) P2 E2) ∧
    TM w F tb pb root k (4 + 4 * P1.length) mb (fun w' F' st' img' => Same st img w' F' st' img' ∧ IMap w' mb ((qs ++ P1).map pr) ∧ ¬ F' mb ∧ IS w' (fun b => ¬ F' b ∧ b ≠ mb) iv n.kids) wr
set_option maxRecDepth 20000 in
set_option maxHeartbeats 4000000 in
theorem collect_node (ht : TrOK w F tb pb root st img k) (hn : OnPage img p n) (hp : st[p]? = some 2) (hm : IMap w mb (qs.map pr)) (hF : ¬ F mb) (hqs : p ∉ qs) (deep : Int) (hd0 : 0 ≤ deep) (hd : deep ≤ 20) {ps' : List Nat} (hk : k + 4 + 4 * ps'.length < 1099511627700) (hnd : (qs ++ (p :: ps')).Nodup)
    (hch : (n.kids = [] ∧ ps' = []) ∨ ∃ lo E2, Chain (Rep img h false) lo hi n.keys n.kids ps' E2)
    (hkid : ∀ (X : World) (F1 : Nat → Prop) (k1 pk : Nat) (lo hi : Option Byt) (pq qs1 : List Nat) (ek : List Ent), TrOK X F1 tb pb root st img k1 → Rep img h false lo hi pk pq ek → (∀ q ∈ pq, q ∈ ps') → (qs1 ++ pq).Nodup → IMap X mb (qs1.map pr) → ¬ F1 mb → k1 + 4 * pq.length < 1099511627700 →
      Calls Tryz.prog 87 #[.pointer (some ⟨tb, 0, none⟩), .int .i64 pk, .int .i64 (deep + 1), .map (some mb)] X fun e w' => e = .returned (.int .i64 0) ∧ TM X F1 tb pb root k1 (4 * pq.length) mb (fun w' F' st' img' => Same st img w' F' st' img' ∧ IMap w' mb ((qs1 ++ pq).map pr) ∧ ¬ F' mb) w') :
    Calls Tryz.prog 87 #[.pointer (some ⟨tb, 0, none⟩), .int .i64 p, .int .i64 deep, .map (some mb)] w fun e w' => e = .returned (.int .i64 0) ∧ TM w F tb pb root k (4 + 4 * ps'.length) mb (fun w' F' st' img' => Same st img w' F' st' img' ∧ IMap w' mb ((qs ++ (p :: ps')).map pr) ∧ ¬ F' mb) w' := by
  have hrd := read_any ht p (.inr hp) hn deep hd (by omega)
  have HRD := Lib.hid hrd
  have HT := Lib.hid ht
  have HM := Lib.hid hm
  have HN := Lib.hid hn
  have HKID := Lib.hid hkid
  have HCH := Lib.hid hch
  have HND := Lib.hid hnd
  have HQS := Lib.hid hqs
  have hcn := Nd.count_lt hn.sh (by have := hn.size; omega)
  have hpn : ((p : Int) == -1) = false := by simp
  have hq1 : IntKind.i64.wrap (deep + 1) = deep + 1 := IntWalk.i64_in _ (by omega)
  have hkl : n.kids.length ≤ 1001 := by
    have := (Nd.few_of hn.sh (by have := hn.size; omega)).kids
    omega
  clear hrd ht hm hn hp hkid hch hnd hqs
  go_enter Tryz.func87, Tryz.ntmps87
  go_upto_region 6 with (go_at_call 55; refine HRD.out.mono ?_; rintro e w2 ⟨kv, vv, iv, rfl, ht⟩; obtain ⟨⟨F2, st2, img2, k2, ht2, hk2, hkp2, hg2, ⟨rfl, rfl⟩, hnd⟩⟩ := ht; obtain ⟨ko, kc, vo, vc, io, ic, rfl, rfl, rfl⟩ := hnd.forms; have HT2 := Lib.hid ht2; have HKP2 := Lib.hid hkp2; have HG2 := Lib.hid hg2; have HNO := Lib.hid hnd; clear ht2 hkp2 hg2 hnd)
  have hr2 := Row.new w2 144 [.bool n.leaf, .slice ko n.keys.length kc, .slice vo n.vals.length vc, .slice io n.kids.length ic]
  have kx2 := (Keep.refl No w2).alloc (.cells #[.bool n.leaf, .slice ko n.keys.length kc, .slice vo n.vals.length vc, .slice io n.kids.length ic] 144)
  generalize w2.alloc (.cells #[.bool n.leaf, .slice ko n.keys.length kc, .slice vo n.vals.length vc, .slice io n.kids.length ic] 144) = X at *
  have hmX := (HM.out.keep HKP2.out hF).keep kx2 (fun h => h)
  have hlk := hmX.lookup1 (P := Tryz.prog) Tryz.underlying178 Tryz.underlying3 zero_bool (p : Int)
  rw [imGet_new HQS.out] at hlk
  simp only [Option.getD_none] at hlk
  obtain ⟨w3, hup, hm3, hk3⟩ := hmX.update (P := Tryz.prog) Tryz.underlying178 Tryz.underlying3 (p : Int) (.bool true)
  rw [imPut_new HQS.out] at hm3
  have hw2 : w.heap.size ≤ w2.heap.size := HKP2.out.size
  have hmb : mb < w.heap.size := HM.out.lt
  have hw2X : w2.heap.size < X.heap.size := hr2.lt
  have hF2 : ¬ F2 mb := fun f => by
    rcases HG2.out _ f with e | e
    · exact hF e
    · omega
  have hr3 := hr2.keep hk3 (fun e => by unfold Just at e; omega)
  have hmt : mb ≠ tb := fun e => by subst e; exact HM.out.ne_row HT.out.row rfl
  have hT3 : TrOK w3 F2 tb pb root st2 img2 k2 := by
    have h1 := HT2.out.step kx2
    exact ⟨h1.pages.keep hk3 (fun b hb e => by unfold Just at e; subst e; exact hF2 hb), h1.row.keep hk3 (fun e => by unfold Just at e; exact hmt e.symm), h1.out⟩
  have hIS3 : IS w3 (fun b => ¬ F2 b ∧ b ≠ mb) (.slice io n.kids.length ic) n.kids := by
    have h1 : IS X (fun b => w.heap.size ≤ b ∧ ¬ F2 b) (.slice io n.kids.length ic) n.kids := HNO.out.r.kids.keep kx2 (fun _ _ _ h => h)
    exact (h1.keep hk3 (fun b _ e f => by unfold Just at f; omega)).more (fun b _ e => ⟨e.2, by omega⟩)
  have c3 := hr3.cell 3
  simp only [List.getElem?_cons_zero, List.getElem?_cons_succ] at c3
  have HUP := hup
  have H0 : Hid (CAt w F tb pb root st2 img2 k mb h hi n (qs ++ [p]) ps' 0 0 (.slice io n.kids.length ic) w3) := by
    refine ⟨[], ps', rfl, ?_, ?_⟩
    · rcases HCH.out with ⟨h1, h2⟩ | ⟨lo, E2, h1⟩
      · exact .inl ⟨by rw [h1]; rfl, h2⟩
      · exact .inr ⟨lo, _, E2, h1⟩
    · refine ⟨F2, st2, img2, k2, hT3, by simp; omega, ((HKP2.out.next kx2 (fun _ e => e.elim)).mono (fun b _ e => .inl e)).trans (hk3.mono (fun b _ e => .inr e)) (fun _ _ h => h), HG2.out, ⟨rfl, rfl⟩, by simpa using hm3, hF2, hIS3⟩
  clear hr2 kx2 hmX hm3 hk3 hr3 hT3 hIS3 hup
  go_upto_region 10 with fail
  clear hlk HUP c3
  go_loopw [34] (fun u34 wr => ∃ i : Nat, u34 = .int .i64 i ∧ i ≤ n.kids.length ∧ Hid (CAt w F tb pb root st2 img2 k mb h hi n (qs ++ [p]) ps' 0 i (.slice io n.kids.length ic) wr)) (fun u34 _ => n.kids.length - (intOf u34).toNat)
  case atStart => exact ⟨0, rfl, Nat.zero_le _, H0.out⟩
  case round =>
    obtain ⟨i, rfl, hil, HA⟩ := hrel
    obtain ⟨P1, P2, hps, hrest, htm⟩ := HA.out.it
    obtain ⟨⟨F1, st1, img1, k1, ht1, hk1, hkp1, hg1, ⟨rfl, rfl⟩, hm1, hFm, his⟩⟩ := htm
    have HT1 := Lib.hid ht1
    have HKP1 := Lib.hid hkp1
    have HG1 := Lib.hid hg1
    have HM1 := Lib.hid hm1
    by_cases hlt : i < n.kids.length
    · rcases hrest with ⟨e, _⟩ | ⟨lo', keys', E2, hc⟩
      · omega
      obtain ⟨pk, lo1, hi1, pq, P3, ek, hpk, hR, hP2, hr3⟩ := chain_next hc
      obtain ⟨io2, ic2, ei, _, HIS⟩ := IS.form (l := n.kids) his
      simp only [Value.slice.injEq, true_and] at ei
      obtain ⟨rfl, rfl⟩ := ei
      obtain ⟨g, o, rfl, _, _, hci⟩ := HIS.out i hlt
      have hpe : n.kids[i] = (pk : Int) := by rw [List.getElem?_eq_getElem hlt] at hpk; exact Option.some.inj hpk
      rw [hpe] at hci
      have hsub : ps' = P1 ++ (pq ++ P3) := by rw [hps, hP2]
      have hlen : ps'.length = P1.length + (pq.length + P3.length) := by rw [hsub]; simp
      have hnd1 : ((qs ++ [p] ++ P1) ++ pq).Nodup := by
        have h1 := HND.out
        rw [hsub] at h1
        have h2 : (((qs ++ [p] ++ P1) ++ pq) ++ P3).Nodup := by simpa using h1
        exact (List.nodup_append.1 h2).1
      have HC := Lib.hid (HKID.out wr F1 k1 pk lo1 hi1 pq (qs ++ [p] ++ P1) ek ht1 hR (fun q hq => by rw [hsub]; simp [hq]) hnd1 hm1 hFm (by omega))
      have HIS2 := Lib.hid his
      have HSUB := Lib.hid hsub
      have HR3 := Lib.hid hr3
      have hiI : (i : Int) < (n.kids.length : Int) := by omega
      clear ht1 hkp1 hg1 hm1 his HA hc hpk hR hP2 hr3 HIS hpe hsub hnd1 hps
      go_wp2_with (go_at_call 87; refine HC.out.mono ?_; rintro e w5 ⟨rfl, ht⟩; have HT5 := Lib.hid ht; clear ht)
      go_roundw
      case rel =>
        refine ⟨i + 1, by go_num, by omega, P1 ++ pq, P3, by rw [HSUB.out]; simp, HR3.out, ?_⟩
        obtain ⟨⟨F5, st5, img5, k5, ht5, hk5, hkp5, hg5, ⟨rfl, rfl⟩, hm5, hF5⟩⟩ := HT5.out
        have t2 : TM wr F1 tb pb root k1 (4 * pq.length) mb (fun w' F' st' img' => Same st5 img5 w' F' st' img' ∧ IMap w' mb ((qs ++ [p] ++ (P1 ++ pq)).map pr) ∧ ¬ F' mb ∧ IS w' (fun b => ¬ F' b ∧ b ≠ mb) (.slice (some ⟨g, o, none⟩) n.kids.length ic) n.kids) w5 :=
          ⟨F5, st5, img5, k5, ht5, hk5, hkp5, hg5, ⟨rfl, rfl⟩, by simpa using hm5, hF5, (((RS.more HIS2.out (D' := fun b => (¬ F1 b ∧ b ≠ mb) ∧ b < wr.heap.size) (fun b hb e => ⟨e, hb⟩)).keep hkp5 (fun b _ e f => by
            rcases f with f | f
            · exact e.1.1 f
            · exact e.1.2 f)).more (fun b _ e => ⟨fun f => by
              rcases hg5 b f with e2 | e2
              · exact e.1.1 e2
              · omega, e.1.2⟩))⟩
        have t3 := TM.trans HKP1.out HG1.out hk1 t2
        obtain ⟨⟨F6, st6, img6, k6, a1, a2, a3, a4, a5⟩⟩ := t3
        exact ⟨F6, st6, img6, k6, a1, by rw [List.length_append]; omega, a3, a4, a5⟩
      case measure => simp [intOf]; omega
    · have hP2 : P2 = [] := by
        rcases hrest with ⟨_, e⟩ | ⟨lo', keys', E2, hc⟩
        · exact e
        · obtain ⟨pk, lo1, hi1, pq, P3, ek, hpk, _⟩ := chain_next hc
          rw [List.getElem?_eq_none (by omega)] at hpk
          cases hpk
      have hge : ¬ ((i : Int) < (n.kids.length : Int)) := by omega
      have HPS : Hid (ps' = P1) := by show _ = _; rw [hps, hP2]; simp
      clear ht1 hkp1 hg1 hm1 his HA hrest hP2 hps
      go_wp2_with fail
      go_ret
      refine ⟨rfl, ⟨F1, st1, img1, k1, HT1.out, by rw [HPS.out]; exact hk1, HKP1.out, HG1.out, ⟨rfl, rfl⟩, by rw [HPS.out]; simpa using HM1.out, hFm⟩⟩
theorem collect_any : ∀ (h : Nat) (w : World) (F : Nat → Prop) (k : Nat) (lo hi : Option Byt) (p : Nat) (ps qs : List Nat) (es : List Ent) (deep : Int), TrOK w F tb pb root st img k → Rep img h false lo hi p ps es → (∀ q ∈ ps, st[q]? = some 2) → (qs ++ ps).Nodup → IMap w mb (qs.map pr) → ¬ F mb → 0 ≤ deep → deep + h ≤ 20 → k + 4 * ps.length < 1099511627700 →
    Calls Tryz.prog 87 #[.pointer (some ⟨tb, 0, none⟩), .int .i64 p, .int .i64 deep, .map (some mb)] w fun e w' => e = .returned (.int .i64 0) ∧ TM w F tb pb root k (4 * ps.length) mb (fun w' F' st' img' => Same st img w' F' st' img' ∧ IMap w' mb ((qs ++ ps).map pr) ∧ ¬ F' mb) w'
  | 0, w, F, k, lo, hi, p, ps, qs, es, deep, ht, hr, hu, hnd, hm, hF, hd0, hd, hk => by
    obtain ⟨n, ps', hn, hnr, rfl⟩ := hr.open
    obtain ⟨hl, _, hps', _, _⟩ := hnr
    subst hps'
    have hk' : k + 4 + 4 * ([] : List Nat).length < 1099511627700 := by simp at hk ⊢; omega
    have := collect_node (h := 0) (hi := hi) ht hn (hu p (by simp)) hm hF (fun e => by have := (List.nodup_append.1 hnd).2.2 p e p (by simp); exact this rfl) deep hd0 (by omega) hk' hnd (.inl ⟨(hn.sh.lf hl).2.1, rfl⟩) (fun X F1 k1 pk lo hi pq qs1 ek _ hR hq _ _ _ _ => by
      have := hR.head
      exact absurd (hq _ this) (by simp))
    simpa using this
  | h + 1, w, F, k, lo, hi, p, ps, qs, es, deep, ht, hr, hu, hnd, hm, hF, hd0, hd, hk => by
    obtain ⟨n, ps', hn, hnr, rfl⟩ := hr.open
    have hk' : k + 4 + 4 * ps'.length < 1099511627700 := by simp at hk; omega
    have := collect_node (h := h) (hi := hi) ht hn (hu p (by simp)) hm hF (fun e => by have := (List.nodup_append.1 hnd).2.2 p e p (by simp); exact this rfl) deep hd0 (by omega) hk' hnd (.inr ⟨lo, es, hnr.2.2.2⟩) (fun X F1 k1 pk lo1 hi1 pq qs1 ek ht1 hR hq hnd1 hm1 hF1 hk1 =>
      collect_any h X F1 k1 lo1 hi1 pk pq qs1 ek (deep + 1) ht1 hR (fun q hq' => hu q (by simp [hq q hq'])) hnd1 hm1 hF1 (by omega) (by omega) hk1)
    refine this.mono fun e w' ⟨h1, h2⟩ => ⟨h1, ?_⟩
    obtain ⟨⟨F6, st6, img6, k6, a1, a2, a3, a4, a5⟩⟩ := h2
    exact ⟨F6, st6, img6, k6, a1, by simp; omega, a3, a4, a5⟩
end
end Go.Proofs.YtfhapbggngdckaaGreat
