/- Trees: put, at any height. -/
import Derived.Test.YtfhapbggngdckaaGreatLayA
namespace Go.Proofs.YtfhapbggngdckaaGreat
open Go.RowKit
/-! ### Order, at kid i -/
section
variable {img img' : Nat → Byt} {h : Nat} {lo hi a b : Option Byt} {n : Nd} {keys K1 K2 : List Byt} {kids C1 C2 : List Int} {ps P1 P2 : List Nat} {es E1 E2 : List Ent} {key : Byt} {R : RT}
theorem Pre.low (hR : ∀ {lo hi p ps es}, R lo hi p ps es → ∀ e ∈ es, loOK lo e.1 ∧ hiOK hi e.1) (hp : Pre R lo a K1 C1 P1 E1) : ∀ e ∈ E1, ∃ x ∈ K1, lt e.1 x := by
  induction hp with
  | nil => intro e he; simp at he
  | cons h1 _ ih =>
    intro e he
    rcases List.mem_append.1 he with he | he
    · exact ⟨_, by simp, (hR h1 e he).2 _ rfl⟩
    · obtain ⟨x, hx, hl⟩ := ih e he
      exact ⟨x, by simp [hx], hl⟩
theorem Chain.high (hR : ∀ {lo hi p ps es}, R lo hi p ps es → ∀ e ∈ es, loOK lo e.1 ∧ hiOK hi e.1) (hc : Chain R lo hi keys kids ps es) : ∀ e ∈ es, loOK lo e.1 ∨ ∃ x ∈ keys, ¬ lt e.1 x := by
  induction hc with
  | one h => intro e he; exact .inl (hR h e he).1
  | cons h1 _ ih =>
    intro e he
    rcases List.mem_append.1 he with he | he
    · exact .inl (hR h1 e he).1
    · rcases ih e he with h2 | ⟨x, hx, hl⟩
      · exact .inr ⟨_, by simp, h2 _ rfl⟩
      · exact .inr ⟨x, by simp [hx], hl⟩
theorem Suf.high (hR : ∀ {lo hi p ps es}, R lo hi p ps es → ∀ e ∈ es, loOK lo e.1 ∧ hiOK hi e.1) (hs : Suf R b hi K2 C2 P2 E2) : ∀ e ∈ E2, ∃ x ∈ K2, ¬ lt e.1 x := by
  cases hs with
  | nil => intro e he; simp at he
  | cons hc =>
    intro e he
    rcases hc.high hR e he with h2 | ⟨x, hx, hl⟩
    · exact ⟨_, by simp, h2 _ rfl⟩
    · exact ⟨x, by simp [hx], hl⟩
/-- Where key lies, at the kid that is to hold it. -/
structure Lies (key : Byt) (a b : Option Byt) (E1 E2 : List Ent) : Prop where
  lo : loOK a key
  hi : hiOK b key
  low : ∀ e ∈ E1, lt e.1 key
  high : ∀ e ∈ E2, lt key e.1
theorem KPlc.at {i p : Nat} {pk P1 P2 : List Nat} {ek : List Ent} {R : RT} (hR : ∀ {lo hi p ps es}, R lo hi p ps es → ∀ e ∈ es, loOK lo e.1 ∧ hiOK hi e.1) (hk : KPlc n key i) (hlo : loOK lo key) (hhi : hiOK hi key) (hc : ChainAt R lo hi n.keys kids ps es i a b p K1 K2 C1 C2 P1 pk P2 E1 ek E2) : Lies key a b E1 E2 := by
  have h1 : ∀ x ∈ K1, ¬ lt key x := fun x hx => by
    obtain ⟨j, hj, rfl⟩ := List.getElem_of_mem hx
    have h2 : j < n.keys.length := by rw [hc.keys]; simp; omega
    have h3 := hk.low j h2 (by rw [← hc.kl]; exact hj)
    have h4 : n.keys[j] = K1[j] := by
      have : n.keys[j]? = K1[j]? := by rw [hc.keys, List.getElem?_append_left hj]
      rw [List.getElem?_eq_getElem h2, List.getElem?_eq_getElem hj] at this
      exact Option.some.inj this
    rwa [h4] at h3
  have h2 : ∀ x ∈ K2, lt key x := fun x hx => by
    obtain ⟨j, hj, rfl⟩ := List.getElem_of_mem hx
    have h2 : i + j < n.keys.length := by rw [hc.keys, List.length_append, hc.kl]; omega
    have h3 := hk.high (i + j) h2 (by omega)
    have h4 : n.keys[i + j] = K2[j] := by
      have : n.keys[i + j]? = K2[j]? := by rw [hc.keys, List.getElem?_append_right (by rw [hc.kl]; omega), hc.kl]; congr 1; omega
      rw [List.getElem?_eq_getElem h2, List.getElem?_eq_getElem hj] at this
      exact Option.some.inj this
    rwa [h4] at h3
  refine ⟨?_, ?_, fun e he => ?_, fun e he => ?_⟩
  · rcases hc.pre.at with ⟨_, e, _⟩ | ⟨K, x, c, C, q, P, pq, E, eq, e1, e2, _⟩
    · rw [e]; exact hlo
    · rw [e2]; intro y hy; cases hy; exact h1 x (by rw [e1]; simp)
  · rcases hc.suf.at with ⟨_, e, _⟩ | ⟨x, K, c, C, q, pq, P, eq, E, e1, e2, _⟩
    · rw [e]; exact hhi
    · rw [e2]; intro y hy; cases hy; exact h2 x (by rw [e1]; simp)
  · obtain ⟨x, hx, hl⟩ := hc.pre.low hR e he
    exact lt_of_lt_of_not hl (h1 x hx)
  · obtain ⟨x, hx, hl⟩ := hc.suf.high hR e he
    exact lt_of_lt_of_not (h2 x hx) hl
/-- A key between the bounds of kid i lies between the keys about it. -/
theorem ChainAt.between {i p : Nat} {pk P1 P2 : List Nat} {ek : List Ent} {R : RT} {sep : Byt} (hp : n.keys.Pairwise lt) (hb : ∀ k ∈ n.keys, loS lo k ∧ hiOK hi k) (hc : ChainAt R lo hi n.keys kids ps es i a b p K1 K2 C1 C2 P1 pk P2 E1 ek E2) (h1 : loS a sep) (h2 : hiOK b sep) :
    (∀ k ∈ K1, lt k sep) ∧ (∀ k ∈ K2, lt sep k) ∧ loS lo sep ∧ hiOK hi sep := by
  rw [hc.keys] at hp
  have hp' := List.pairwise_append.1 hp
  have g1 : (∀ k ∈ K1, lt k sep) ∧ loS lo sep := by
    rcases hc.pre.at with ⟨e0, e, _⟩ | ⟨K, x, c, C, q, P, pq, E, eq, e1, e2, _⟩
    · rw [e] at h1; exact ⟨fun k hk => by rw [e0] at hk; simp at hk, h1⟩
    · rw [e2] at h1
      have hx := h1 x rfl
      have hxl := (hb x (by rw [hc.keys, e1]; simp)).1
      refine ⟨fun k hk => ?_, fun y hy => lt_trans (hxl y hy) hx⟩
      rw [e1] at hk
      rcases List.mem_append.1 hk with hk | hk
      · have h3 := hp'.1
        rw [e1] at h3
        exact lt_trans ((List.pairwise_append.1 h3).2.2 k hk x (by simp)) hx
      · simp at hk; subst hk; exact hx
  have g2 : (∀ k ∈ K2, lt sep k) ∧ hiOK hi sep := by
    rcases hc.suf.at with ⟨e0, e, _⟩ | ⟨x, K, c, C, q, pq, P, eq, E, e1, e2, _⟩
    · rw [e] at h2; exact ⟨fun k hk => by rw [e0] at hk; simp at hk, h2⟩
    · rw [e2] at h2
      have hx := h2 x rfl
      have hxl := (hb x (by rw [hc.keys, e1]; simp)).2
      refine ⟨fun k hk => ?_, fun y hy => lt_trans hx (hxl y hy)⟩
      rw [e1] at hk
      rcases List.mem_cons.1 hk with hk | hk
      · subst hk; exact hx
      · have h3 := hp'.2.1
        rw [e1] at h3
        exact lt_trans hx ((List.pairwise_cons.1 h3).1 k hk)
  exact ⟨g1.1, g2.1, g1.2, g2.2⟩
end
end Go.Proofs.YtfhapbggngdckaaGreat
