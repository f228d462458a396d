/- A node that is about to be laid: one page, or two. -/
import Derived.Test.YtfhapbggngdckaaGreatIns
namespace Go.Proofs.YtfhapbggngdckaaGreat
/-- A node as the root of a subtree, wherever it may come to lie. -/
def NRep (img : Nat → Byt) : Nat → Option Byt → Option Byt → Nd → List Nat → List Ent → Prop
  | 0, lo, hi, m, ps, es => m.leaf = true ∧ m.keys ≠ [] ∧ ps = [] ∧ es = m.keys.zip m.vals ∧ ∀ k ∈ m.keys, loOK lo k ∧ hiOK hi k
  | h + 1, lo, hi, m, ps, es => m.leaf = false ∧ m.keys ≠ [] ∧ (∀ k ∈ m.keys, loS lo k ∧ hiOK hi k) ∧ Chain (Rep img h false) lo hi m.keys m.kids ps es
section
variable {img img' : Nat → Byt} {h : Nat} {lo hi : Option Byt} {m n : Nd} {p : Nat} {ps : List Nat} {es : List Ent}
theorem Rep.open (hr : Rep img h false lo hi p ps es) : ∃ n ps', OnPage img p n ∧ NRep img h lo hi n ps' es ∧ ps = p :: ps' := by
  cases h with
  | zero => obtain ⟨n, h1, h2, h3, h4, h5, h6⟩ := hr; exact ⟨n, [], h1, ⟨h2, h3, rfl, h5, h6⟩, h4⟩
  | succ h => obtain ⟨n, ps', h1, h2, h3, h4, h5, h6⟩ := hr; exact ⟨n, ps', h1, ⟨h2, by simpa using h3, h4, h6⟩, h5⟩
theorem NRep.rep (hn : NRep img h lo hi m ps es) (hp : OnPage img p m) : Rep img h false lo hi p (p :: ps) es := by
  cases h with
  | zero => obtain ⟨h2, h3, h4, h5, h6⟩ := hn; subst h4; exact ⟨m, hp, h2, h3, rfl, h5, h6⟩
  | succ h => obtain ⟨h2, h3, h4, h6⟩ := hn; exact ⟨m, ps, hp, h2, .inr h3, h4, rfl, h6⟩
theorem NRep.congr (hn : NRep img h lo hi m ps es) (hq : ∀ q ∈ ps, img' q = img q) : NRep img' h lo hi m ps es := by
  cases h with
  | zero => exact hn
  | succ h => obtain ⟨h2, h3, h4, h6⟩ := hn; exact ⟨h2, h3, h4, h6.congr hq⟩
theorem drop_getD {l : List Byt} {k : Nat} (hk : k < l.length) : l.drop k = l.getD k [] :: l.drop (k + 1) := by
  rw [List.drop_eq_getElem_cons hk, List.getD_eq_getElem?_getD, List.getElem?_eq_getElem hk]; rfl
theorem getD_mem {l : List Byt} {k : Nat} (hk : k < l.length) : l.getD k [] ∈ l := by
  rw [List.getD_eq_getElem?_getD, List.getElem?_eq_getElem hk]; exact List.getElem_mem hk
/-- Both halves of a node, and the key between. -/
structure Halved (img : Nat → Byt) (h : Nat) (lo hi : Option Byt) (m : Nd) (kk : Nat) (ps : List Nat) (es : List Ent) (ps1 ps2 : List Nat) (es1 es2 : List Ent) : Prop where
  fst : NRep img h lo (some (m.keys.getD kk [])) (m.fst kk) ps1 es1
  snd : NRep img h (some (m.keys.getD kk [])) hi (m.snd kk) ps2 es2
  ps : ps = ps1 ++ ps2
  es : es = es1 ++ es2
  lo : loS lo (m.keys.getD kk [])
  hi : hiOK hi (m.keys.getD kk [])
  l1 : 1 ≤ (m.keys.getD kk []).length
  l2 : (m.keys.getD kk []).length ≤ 240
theorem halved (hn : NRep img h lo hi m ps es) (hs : m.Sh) {kk : Nat} (h1 : 1 ≤ kk) (h2 : kk ≤ m.last) : ∃ ps1 ps2 es1 es2, Halved img h lo hi m kk ps es ps1 ps2 es1 es2 := by
  cases h with
  | zero =>
    obtain ⟨hl, hk, rfl, rfl, hb⟩ := hn
    have hlast : m.last = m.keys.length - 1 := by unfold Nd.last; simp [hl]
    have hlt : kk < m.keys.length := by have : 0 < m.keys.length := List.length_pos_iff.2 hk; omega
    have hmem := getD_mem hlt
    have hkl := hs.kl _ hmem
    have hd := drop_getD hlt
    have hpr := List.pairwise_append.1 (by rw [List.take_append_drop]; exact hs.pair : (m.keys.take kk ++ m.keys.drop kk).Pairwise lt)
    have hf : m.fst kk = ⟨true, m.keys.take kk, m.vals.take kk, []⟩ := by unfold Nd.fst; simp [hl]
    have hsn : m.snd kk = ⟨true, m.keys.drop kk, m.vals.drop kk, []⟩ := by unfold Nd.snd; simp [hl]
    have h0 : m.keys[0]'(by omega) ∈ m.keys.take kk := List.mem_take_iff_getElem.2 ⟨0, by omega, rfl⟩
    refine ⟨[], [], (m.keys.take kk).zip (m.vals.take kk), (m.keys.drop kk).zip (m.vals.drop kk), ⟨?_, ?_, rfl, zip_split (hs.lf hl).1 (by omega), ?_, (hb _ hmem).2, hkl.1, hkl.2⟩⟩
    · rw [hf]
      refine ⟨rfl, fun e => ?_, rfl, rfl, fun k hk => ⟨(hb k (List.mem_of_mem_take hk)).1, fun b hb' => ?_⟩⟩
      · simp only at e; rw [e] at h0; simp at h0
      · cases hb'; exact hpr.2.2 k hk _ (by rw [hd]; simp)
    · rw [hsn]
      refine ⟨rfl, fun e => ?_, rfl, rfl, fun k hk => ⟨fun a ha => ?_, (hb k (List.mem_of_mem_drop hk)).2⟩⟩
      · simp only at e; rw [hd] at e; simp at e
      · cases ha
        have h3 := hpr.2.1
        simp only at hk
        rw [hd] at h3 hk
        rcases List.mem_cons.1 hk with e | e
        · rw [e]; exact lt_irrefl _
        · exact lt_asymm ((List.pairwise_cons.1 h3).1 k e)
    · intro a ha
      have h4 := (hb _ (List.getElem_mem (show 0 < m.keys.length by omega))).1 a ha
      exact lt_of_not_of_lt h4 (hpr.2.2 _ h0 _ (by rw [hd]; simp))
  | succ h =>
    obtain ⟨hl, hk, hb, hc⟩ := hn
    have hlast : m.last = m.keys.length - 2 := by unfold Nd.last; simp [hl]
    have hlt : kk + 1 < m.keys.length := by omega
    have hmem := getD_mem (show kk < m.keys.length by omega)
    have hkl := hs.kl _ hmem
    have hd := drop_getD (show kk < m.keys.length by omega)
    have hpr := List.pairwise_append.1 (by rw [List.take_append_drop]; exact hs.pair : (m.keys.take kk ++ m.keys.drop kk).Pairwise lt)
    have hf : m.fst kk = ⟨false, m.keys.take kk, [], m.kids.take (kk + 1)⟩ := by unfold Nd.fst; simp [hl, (hs.inn hl).1]
    have hsn : m.snd kk = ⟨false, m.keys.drop (kk + 1), [], m.kids.drop (kk + 1)⟩ := by unfold Nd.snd; simp [hl]
    obtain ⟨a, b, pk, K1, K2, C1, C2, P1, pq, P2, E1, ek, E2, hcut⟩ := hc.split kk (by omega)
    have hK1 : m.keys.take kk = K1 := by rw [hcut.keys, ← hcut.kl, List.take_left]
    have hK2 : m.keys.drop kk = K2 := by rw [hcut.keys, ← hcut.kl, List.drop_left]
    have hC1 : m.kids.take (kk + 1) = C1 ++ [(pk : Int)] := by
      rw [hcut.kids, ← hcut.cl, show C1 ++ (pk : Int) :: C2 = (C1 ++ [(pk : Int)]) ++ C2 by simp]
      exact List.take_left' (by simp)
    have hC2 : m.kids.drop (kk + 1) = C2 := by
      rw [hcut.kids, ← hcut.cl, show C1 ++ (pk : Int) :: C2 = (C1 ++ [(pk : Int)]) ++ C2 by simp]
      exact List.drop_left' (by simp)
    have hsuf := hcut.suf
    rw [← hK2, hd] at hsuf
    have hd3 := hpr.2.1
    rw [hd] at hd3
    have hd4 := List.pairwise_cons.1 hd3
    cases hsuf with
    | cons hch =>
      refine ⟨P1 ++ pq, P2, E1 ++ ek, E2, ⟨?_, ?_, by rw [hcut.ps, List.append_assoc], by rw [hcut.es, List.append_assoc], (hb _ hmem).1, (hb _ hmem).2, hkl.1, hkl.2⟩⟩
      · rw [hf]
        refine ⟨rfl, fun e => ?_, fun k hk => ⟨(hb k (List.mem_of_mem_take hk)).1, fun b hb' => ?_⟩, ?_⟩
        · have h5 : (m.keys.take kk).length = 0 := by simp only at e; rw [e]; rfl
          rw [List.length_take] at h5
          omega
        · cases hb'; exact hpr.2.2 k hk _ (by rw [hd]; simp)
        · simp only
          rw [hK1, hC1]
          have := hcut.pre.glue (Chain.one hcut.it)
          simpa using this
      · rw [hsn]
        refine ⟨rfl, fun e => ?_, fun k hk => ⟨fun a ha => ?_, (hb k (List.mem_of_mem_drop hk)).2⟩, ?_⟩
        · have h5 : (m.keys.drop (kk + 1)).length = 0 := by simp only at e; rw [e]; rfl
          rw [List.length_drop] at h5
          omega
        · cases ha; exact hd4.1 k hk
        · simp only
          rw [hC2]
          exact hch
end
end Go.Proofs.YtfhapbggngdckaaGreat
