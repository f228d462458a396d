/- The tree in its pages, told plainly: bounds, chains of kids, what a page bears. No program in sight. -/
import Derived.Test.YtfhapbggngdckaaGreatFind
namespace Go.Proofs.YtfhapbggngdckaaGreat

abbrev Byt := List UInt8
abbrev Ent := Byt × Byt
def loOK (lo : Option Byt) (k : Byt) : Prop := ∀ a, lo = some a → ¬ lt k a
def loS (lo : Option Byt) (k : Byt) : Prop := ∀ a, lo = some a → lt a k
def hiOK (hi : Option Byt) (k : Byt) : Prop := ∀ b, hi = some b → lt k b
def loLe (lo' lo : Option Byt) : Prop := ∀ a, lo' = some a → ∃ b, lo = some b ∧ ¬ lt b a
def hiLe (hi hi' : Option Byt) : Prop := ∀ b, hi' = some b → ∃ a, hi = some a ∧ ¬ lt b a
theorem loLe.refl (lo : Option Byt) : loLe lo lo := fun a h => ⟨a, h, lt_irrefl a⟩
theorem hiLe.refl (hi : Option Byt) : hiLe hi hi := fun a h => ⟨a, h, lt_irrefl a⟩
theorem loOK.wide {lo' lo : Option Byt} {k : Byt} (h : loOK lo k) (hl : loLe lo' lo) : loOK lo' k := fun a ha => by
  obtain ⟨b, hb, hn⟩ := hl a ha
  exact not_lt_trans hn (h b hb)
theorem loS.wide {lo' lo : Option Byt} {k : Byt} (h : loS lo k) (hl : loLe lo' lo) : loS lo' k := fun a ha => by
  obtain ⟨b, hb, hn⟩ := hl a ha
  exact lt_of_not_of_lt hn (h b hb)
theorem hiOK.wide {hi' hi : Option Byt} {k : Byt} (h : hiOK hi k) (hl : hiLe hi hi') : hiOK hi' k := fun b hb => by
  obtain ⟨a, ha, hn⟩ := hl b hb
  exact lt_of_lt_of_not (h a ha) hn
theorem loS.ok {lo : Option Byt} {k : Byt} (h : loS lo k) : loOK lo k := fun a ha => lt_asymm (h a ha)
theorem loS.le {lo : Option Byt} {k : Byt} (h : loS lo k) : loLe lo (some k) := fun a ha => ⟨k, rfl, lt_asymm (h a ha)⟩
theorem hiOK.le {hi : Option Byt} {k : Byt} (h : hiOK hi k) : hiLe (some k) hi := fun a ha => ⟨k, rfl, lt_asymm (h a ha)⟩

abbrev RT := Option Byt → Option Byt → Nat → List Nat → List Ent → Prop
inductive Chain (R : RT) : Option Byt → Option Byt → List Byt → List Int → List Nat → List Ent → Prop
  | one {lo hi p ps es} : R lo hi p ps es → Chain R lo hi [] [(p : Int)] ps es
  | cons {lo hi k keys p kids ps es ps' es'} : R lo (some k) p ps es → Chain R (some k) hi keys kids ps' es' → Chain R lo hi (k :: keys) ((p : Int) :: kids) (ps ++ ps') (es ++ es')
inductive Pre (R : RT) : Option Byt → Option Byt → List Byt → List Int → List Nat → List Ent → Prop
  | nil (lo) : Pre R lo lo [] [] [] []
  | cons {lo m k keys p kids ps es ps' es'} : R lo (some k) p ps es → Pre R (some k) m keys kids ps' es' → Pre R lo m (k :: keys) ((p : Int) :: kids) (ps ++ ps') (es ++ es')
inductive Suf (R : RT) : Option Byt → Option Byt → List Byt → List Int → List Nat → List Ent → Prop
  | nil (hi) : Suf R hi hi [] [] [] []
  | cons {hi k keys kids ps es} : Chain R (some k) hi keys kids ps es → Suf R (some k) hi (k :: keys) kids ps es
section
variable {R R' : RT} {lo hi m a b : Option Byt} {K1 K2 keys : List Byt} {C1 C2 kids : List Int} {P1 P2 ps pk : List Nat} {E1 E2 es ek : List Ent} {p : Nat}
theorem Pre.glue (h : Pre R lo m K1 C1 P1 E1) (h2 : Chain R m hi K2 C2 P2 E2) : Chain R lo hi (K1 ++ K2) (C1 ++ C2) (P1 ++ P2) (E1 ++ E2) := by
  induction h with
  | nil => simpa using h2
  | cons h1 _ ih =>
    simp only [List.cons_append, List.append_assoc]
    exact .cons h1 (ih h2)
theorem Suf.put (h2 : Suf R b hi K2 C2 P2 E2) (h : R a b p pk ek) : Chain R a hi K2 ((p : Int) :: C2) (pk ++ P2) (ek ++ E2) := by
  cases h2 with
  | nil => simpa using Chain.one h
  | cons h2 => exact .cons h h2
theorem Chain.len (h : Chain R lo hi keys kids ps es) : kids.length = keys.length + 1 := by
  induction h with
  | one => rfl
  | cons _ _ ih => simp [ih]
theorem Pre.len (h : Pre R lo m keys kids ps es) : kids.length = keys.length := by
  induction h with
  | nil => rfl
  | cons _ _ ih => simp [ih]
theorem Suf.len (h : Suf R b hi K2 C2 P2 E2) : C2.length = K2.length := by
  cases h with
  | nil => rfl
  | cons h => simp [h.len]
theorem Chain.mono (h : Chain R lo hi keys kids ps es) (hm : ∀ lo hi p ps' es', (∀ q ∈ ps', q ∈ ps) → R lo hi p ps' es' → R' lo hi p ps' es') : Chain R' lo hi keys kids ps es := by
  induction h with
  | one h => exact .one (hm _ _ _ _ _ (fun _ h => h) h)
  | cons h1 _ ih => exact .cons (hm _ _ _ _ _ (fun _ h => by simp [h]) h1) (ih fun lo hi p ps' es' hs hr => hm lo hi p ps' es' (fun q hq => by simp [hs q hq]) hr)
theorem Pre.mono (h : Pre R lo hi keys kids ps es) (hm : ∀ lo hi p ps' es', (∀ q ∈ ps', q ∈ ps) → R lo hi p ps' es' → R' lo hi p ps' es') : Pre R' lo hi keys kids ps es := by
  induction h with
  | nil => exact .nil _
  | cons h1 _ ih => exact .cons (hm _ _ _ _ _ (fun _ h => by simp [h]) h1) (ih fun lo hi p ps' es' hs hr => hm lo hi p ps' es' (fun q hq => by simp [hs q hq]) hr)
theorem Suf.mono (h : Suf R lo hi keys kids ps es) (hm : ∀ lo hi p ps' es', (∀ q ∈ ps', q ∈ ps) → R lo hi p ps' es' → R' lo hi p ps' es') : Suf R' lo hi keys kids ps es := by
  cases h with
  | nil => exact .nil _
  | cons h => exact .cons (h.mono hm)
/-- A chain, taken apart at kid k. -/
structure ChainAt (R : RT) (lo hi : Option Byt) (keys : List Byt) (kids : List Int) (ps : List Nat) (es : List Ent) (k : Nat) (a b : Option Byt) (p : Nat) (K1 K2 : List Byt) (C1 C2 : List Int) (P1 pk P2 : List Nat) (E1 ek E2 : List Ent) : Prop where
  keys : keys = K1 ++ K2
  kids : kids = C1 ++ (p : Int) :: C2
  ps : ps = P1 ++ (pk ++ P2)
  es : es = E1 ++ (ek ++ E2)
  kl : K1.length = k
  cl : C1.length = k
  pre : Pre R lo a K1 C1 P1 E1
  it : R a b p pk ek
  suf : Suf R b hi K2 C2 P2 E2
theorem Chain.split (h : Chain R lo hi keys kids ps es) : ∀ k, k ≤ keys.length → ∃ a b p K1 K2 C1 C2 P1 pk P2 E1 ek E2, ChainAt R lo hi keys kids ps es k a b p K1 K2 C1 C2 P1 pk P2 E1 ek E2 := by
  induction h with
  | one h =>
    intro k hk
    obtain rfl : k = 0 := by simpa using hk
    exact ⟨_, _, _, [], [], [], [], [], _, [], [], _, [], ⟨rfl, rfl, by simp, by simp, rfl, rfl, .nil _, h, .nil _⟩⟩
  | cons h1 h2 ih =>
    intro k hk
    rcases k with _ | k
    · exact ⟨_, _, _, [], _, [], _, [], _, _, [], _, _, ⟨rfl, rfl, rfl, rfl, rfl, rfl, .nil _, h1, .cons h2⟩⟩
    · obtain ⟨a, b, p, K1, K2, C1, C2, P1, pk, P2, E1, ek, E2, hc⟩ := ih k (by simpa using hk)
      refine ⟨a, b, p, _ :: K1, K2, _ :: C1, C2, _ ++ P1, pk, P2, _ ++ E1, ek, E2, ⟨by rw [hc.keys]; rfl, by rw [hc.kids]; rfl, by rw [hc.ps]; simp, by rw [hc.es]; simp, by simp [hc.kl], by simp [hc.cl], .cons h1 hc.pre, hc.it, hc.suf⟩⟩
theorem Pre.at (h : Pre R lo a K1 C1 P1 E1) : (K1 = [] ∧ a = lo ∧ C1 = [] ∧ P1 = [] ∧ E1 = []) ∨ ∃ K x c C, ∃ q : Nat, ∃ P pq E eq, K1 = K ++ [x] ∧ a = some x ∧ C1 = C ++ [(q : Int)] ∧ P1 = P ++ pq ∧ E1 = E ++ eq ∧ Pre R lo c K C P E ∧ R c (some x) q pq eq := by
  induction h with
  | nil => exact .inl ⟨rfl, rfl, rfl, rfl, rfl⟩
  | cons h1 h2 ih =>
    right
    rcases ih with ⟨rfl, rfl, rfl, rfl, rfl⟩ | ⟨K, x, c, C, q, P, pq, E, eq, rfl, rfl, rfl, rfl, rfl, hp, hr⟩
    · exact ⟨[], _, _, [], _, [], _, [], _, rfl, rfl, rfl, List.append_nil _, List.append_nil _, .nil _, h1⟩
    · exact ⟨_ :: K, x, c, _ :: C, q, _ ++ P, pq, _ ++ E, eq, rfl, rfl, rfl, by simp, by simp, .cons h1 hp, hr⟩
theorem Suf.at (h : Suf R b hi K2 C2 P2 E2) : (K2 = [] ∧ b = hi ∧ C2 = [] ∧ P2 = [] ∧ E2 = []) ∨ ∃ x K c C, ∃ q : Nat, ∃ pq P eq E, K2 = x :: K ∧ b = some x ∧ C2 = (q : Int) :: C ∧ P2 = pq ++ P ∧ E2 = eq ++ E ∧ R (some x) c q pq eq ∧ Suf R c hi K C P E := by
  cases h with
  | nil => exact .inl ⟨rfl, rfl, rfl, rfl, rfl⟩
  | cons h =>
    right
    cases h with
    | one h => exact ⟨_, [], _, [], _, _, [], _, [], rfl, rfl, rfl, (List.append_nil _).symm, (List.append_nil _).symm, h, .nil _⟩
    | cons h1 h2 => exact ⟨_, _, _, _, _, _, _, _, _, rfl, rfl, rfl, rfl, rfl, h1, .cons h2⟩
/-- The pre's end is the bound ahead of kid k. -/
theorem Pre.snoc (h : Pre R lo a K1 C1 P1 E1) {x : Byt} (hr : R a (some x) p pk ek) : Pre R lo (some x) (K1 ++ [x]) (C1 ++ [(p : Int)]) (P1 ++ pk) (E1 ++ ek) := by
  induction h with
  | nil => simpa using Pre.cons hr (Pre.nil _)
  | cons h1 _ ih =>
    simp only [List.cons_append, List.append_assoc]
    exact .cons h1 (ih hr)
end
/-- A node, whole in its page. -/
structure OnPage (img : Nat → Byt) (p : Nat) (n : Nd) : Prop where
  page : img p = n.page
  sh : n.Sh
  size : n.size ≤ 1024
/-- Page p is the root of a subtree of height h with keys from lo on, below hi; its pages, its entries; a thin one may have but one kid. -/
def Rep (img : Nat → Byt) : Nat → Bool → RT
  | 0, _, lo, hi, p, ps, es => ∃ n : Nd, OnPage img p n ∧ n.leaf = true ∧ n.keys ≠ [] ∧ ps = [p] ∧ es = n.keys.zip n.vals ∧ ∀ k ∈ n.keys, loOK lo k ∧ hiOK hi k
  | h + 1, t, lo, hi, p, ps, es => ∃ (n : Nd) (ps' : List Nat), OnPage img p n ∧ n.leaf = false ∧ (t = true ∨ n.keys ≠ []) ∧ (∀ k ∈ n.keys, loS lo k ∧ hiOK hi k) ∧ ps = p :: ps' ∧ Chain (Rep img h false) lo hi n.keys n.kids ps' es
section
variable {img img' : Nat → Byt} {t : Bool} {lo hi lo' hi' : Option Byt} {p : Nat} {ps : List Nat} {es : List Ent} {keys : List Byt} {kids : List Int}
theorem Rep.congr : ∀ {h : Nat} {t : Bool} {lo hi : Option Byt} {p : Nat} {ps : List Nat} {es : List Ent}, Rep img h t lo hi p ps es → (∀ q ∈ ps, img' q = img q) → Rep img' h t lo hi p ps es
  | 0, _, _, _, _, _, _, ⟨n, h1, h2, h3, h4, h5, h6⟩, hq => ⟨n, ⟨by rw [hq _ (by rw [h4]; simp), h1.page], h1.sh, h1.size⟩, h2, h3, h4, h5, h6⟩
  | _ + 1, _, _, _, _, _, _, ⟨n, ps', h1, h2, h3, h4, h5, h6⟩, hq => ⟨n, ps', ⟨by rw [hq _ (by rw [h5]; simp), h1.page], h1.sh, h1.size⟩, h2, h3, h4, h5, h6.mono fun _ _ _ _ _ hs hr => hr.congr fun q hm => hq q (by rw [h5]; simp [hs q hm])⟩
theorem Chain.congr {h : Nat} (hc : Chain (Rep img h t) lo hi keys kids ps es) (hq : ∀ q ∈ ps, img' q = img q) : Chain (Rep img' h t) lo hi keys kids ps es :=
  hc.mono fun _ _ _ _ _ hs hr => hr.congr fun q hm => hq q (hs q hm)
theorem Pre.congr {h : Nat} (hc : Pre (Rep img h t) lo hi keys kids ps es) (hq : ∀ q ∈ ps, img' q = img q) : Pre (Rep img' h t) lo hi keys kids ps es :=
  hc.mono fun _ _ _ _ _ hs hr => hr.congr fun q hm => hq q (hs q hm)
theorem Suf.congr {h : Nat} (hc : Suf (Rep img h t) lo hi keys kids ps es) (hq : ∀ q ∈ ps, img' q = img q) : Suf (Rep img' h t) lo hi keys kids ps es :=
  hc.mono fun _ _ _ _ _ hs hr => hr.congr fun q hm => hq q (hs q hm)
theorem Rep.head {h : Nat} (hr : Rep img h t lo hi p ps es) : p ∈ ps := by
  cases h with
  | zero => obtain ⟨n, h1, h2, h3, h4, h5, h6⟩ := hr; rw [h4]; simp
  | succ h => obtain ⟨n, ps', h1, h2, h3, h4, h5, h6⟩ := hr; rw [h5]; simp
theorem Chain.wide {R : RT} (hw : ∀ {lo hi lo' hi' p ps es}, R lo hi p ps es → loLe lo' lo → hiLe hi hi' → R lo' hi' p ps es) (hc : Chain R lo hi keys kids ps es) : ∀ {lo' hi' : Option Byt}, loLe lo' lo → hiLe hi hi' → Chain R lo' hi' keys kids ps es := by
  induction hc with
  | one h => exact fun h1 h2 => .one (hw h h1 h2)
  | cons h _ ih => exact fun h1 h2 => .cons (hw h h1 (hiLe.refl _)) (ih (loLe.refl _) h2)
theorem Rep.wide : ∀ {h : Nat} {t : Bool} {lo hi lo' hi' : Option Byt} {p : Nat} {ps : List Nat} {es : List Ent}, Rep img h t lo hi p ps es → loLe lo' lo → hiLe hi hi' → Rep img h t lo' hi' p ps es
  | 0, _, _, _, _, _, _, _, _, ⟨n, h1, h2, h3, h4, h5, h6⟩, hl, hh => ⟨n, h1, h2, h3, h4, h5, fun k hk => ⟨(h6 k hk).1.wide hl, (h6 k hk).2.wide hh⟩⟩
  | _ + 1, _, _, _, _, _, _, _, _, ⟨n, ps', h1, h2, h3, h4, h5, h6⟩, hl, hh => ⟨n, ps', h1, h2, h3, fun k hk => ⟨(h4 k hk).1.wide hl, (h4 k hk).2.wide hh⟩, h5, Chain.wide (R := Rep img _ false) (fun h a b => Rep.wide h a b) h6 hl hh⟩
theorem Rep.thin {h : Nat} (hr : Rep img h false lo hi p ps es) (t : Bool) : Rep img h t lo hi p ps es := by
  cases h with
  | zero => exact hr
  | succ h => obtain ⟨n, ps', h1, h2, h3, h4, h5, h6⟩ := hr; exact ⟨n, ps', h1, h2, .inr (by simpa using h3), h4, h5, h6⟩
theorem Rise.pair {keys : List Byt} (h : Rise keys) : keys.Pairwise lt := by
  rw [List.pairwise_iff_getElem]
  intro i j hi hj hij
  have := h.far (j - i - 1) i (by omega)
  have e : i + (j - i - 1) + 1 = j := by omega
  simpa only [e] using this
theorem rise_of {keys : List Byt} (h : keys.Pairwise lt) : Rise keys := fun i hi => (List.pairwise_iff_getElem.1 h) i (i + 1) (by omega) hi (by omega)
theorem Nd.Sh.pair {n : Nd} (h : n.Sh) : n.keys.Pairwise lt := Rise.pair h.rise
/-- All entries of a chain lie between its bounds. -/
theorem Chain.inn {R : RT} (hw : ∀ {lo hi p ps es}, R lo hi p ps es → ∀ e ∈ es, loOK lo e.1 ∧ hiOK hi e.1) (hc : Chain R lo hi keys kids ps es) : keys.Pairwise lt → (∀ k ∈ keys, loS lo k ∧ hiOK hi k) → ∀ e ∈ es, loOK lo e.1 ∧ hiOK hi e.1 := by
  induction hc with
  | one h => exact fun _ _ => hw h
  | cons h _ ih =>
    intro hp hk e he
    rcases List.mem_append.1 he with he | he
    · exact ⟨(hw h e he).1, (hw h e he).2.wide (hk _ (by simp)).2.le⟩
    · have hp := List.pairwise_cons.1 hp
      have := ih hp.2 (fun k hm => ⟨fun a ha => by cases ha; exact hp.1 k hm, (hk k (by simp [hm])).2⟩) e he
      exact ⟨this.1.wide (hk _ (by simp)).1.le, this.2⟩
theorem Rep.inn : ∀ {h : Nat} {t : Bool} {lo hi : Option Byt} {p : Nat} {ps : List Nat} {es : List Ent}, Rep img h t lo hi p ps es → ∀ e ∈ es, loOK lo e.1 ∧ hiOK hi e.1
  | 0, _, _, _, _, _, _, ⟨n, h1, h2, h3, h4, h5, h6⟩ => fun e he => h6 e.1 (by rw [h5] at he; exact (List.of_mem_zip he).1)
  | _ + 1, _, _, _, _, _, _, ⟨n, ps', h1, h2, h3, h4, h5, h6⟩ => h6.inn Rep.inn h1.sh.pair h4
def Srt (es : List Ent) : Prop := es.Pairwise fun x y => lt x.1 y.1
theorem Srt.app {A B : List Ent} (ha : Srt A) (hb : Srt B) (k : Byt) (h1 : ∀ e ∈ A, lt e.1 k) (h2 : ∀ e ∈ B, ¬ lt e.1 k) : Srt (A ++ B) :=
  List.pairwise_append.2 ⟨ha, hb, fun x hx y hy => lt_of_lt_of_not (h1 x hx) (h2 y hy)⟩
theorem Chain.srt {R : RT} (hw : ∀ {lo hi p ps es}, R lo hi p ps es → ∀ e ∈ es, loOK lo e.1 ∧ hiOK hi e.1) (hs : ∀ {lo hi p ps es}, R lo hi p ps es → Srt es) (hc : Chain R lo hi keys kids ps es) : keys.Pairwise lt → (∀ k ∈ keys, hiOK hi k) → Srt es := by
  induction hc with
  | one h => exact fun _ _ => hs h
  | cons h hc ih =>
    intro hp hk
    have hp := List.pairwise_cons.1 hp
    refine Srt.app (hs h) (ih hp.2 (fun k hm => hk k (by simp [hm]))) _ (fun e he => (hw h e he).2 _ rfl) (fun e he => ?_)
    exact (hc.inn hw hp.2 (fun k hm => ⟨fun a ha => by cases ha; exact hp.1 k hm, hk k (by simp [hm])⟩) e he).1 _ rfl
theorem zip_srt : ∀ {keys : List Byt} (vals : List Byt), keys.Pairwise lt → Srt (keys.zip vals)
  | [], _, _ => by simp [Srt]
  | _ :: _, [], _ => by simp [Srt]
  | k :: keys, v :: vals, h => by
    have h := List.pairwise_cons.1 h
    rw [List.zip_cons_cons]
    exact List.pairwise_cons.2 ⟨fun e he => h.1 e.1 (List.of_mem_zip he).1, zip_srt vals h.2⟩
theorem Rep.srt : ∀ {h : Nat} {t : Bool} {lo hi : Option Byt} {p : Nat} {ps : List Nat} {es : List Ent}, Rep img h t lo hi p ps es → Srt es
  | 0, _, _, _, _, _, _, ⟨n, h1, h2, h3, h4, h5, h6⟩ => by rw [h5]; exact zip_srt _ h1.sh.pair
  | _ + 1, _, _, _, _, _, _, ⟨n, ps', h1, h2, h3, h4, h5, h6⟩ => h6.srt Rep.inn Rep.srt h1.sh.pair (fun k hk => (h4 k hk).2)
theorem Chain.count {R : RT} (hw : ∀ {lo hi p ps es}, R lo hi p ps es → ps.length + 1 ≤ 2 * es.length) (hc : Chain R lo hi keys kids ps es) : ps.length + kids.length ≤ 2 * es.length := by
  induction hc with
  | one h => have := hw h; simpa using this
  | cons h _ ih => have := hw h; simp; omega
theorem Rep.count : ∀ {h : Nat} {lo hi : Option Byt} {p : Nat} {ps : List Nat} {es : List Ent}, Rep img h false lo hi p ps es → ps.length + 1 ≤ 2 * es.length
  | 0, _, _, _, _, _, ⟨n, h1, h2, h3, h4, h5, h6⟩ => by
    have := (h1.sh.lf h2).1
    have : 0 < n.keys.length := List.length_pos_iff.2 h3
    rw [h4, h5]; simp; omega
  | _ + 1, _, _, _, _, _, ⟨n, ps', h1, h2, h3, h4, h5, h6⟩ => by
    have := h6.count Rep.count
    have := h6.len
    have : 0 < n.keys.length := List.length_pos_iff.2 (by simpa using h3)
    rw [h5]; simp; omega
theorem Chain.tall {R : RT} {c : Nat} (hw : ∀ {lo hi p ps es}, R lo hi p ps es → c ≤ es.length) (hc : Chain R lo hi keys kids ps es) : kids.length * c ≤ es.length := by
  induction hc with
  | one h => have := hw h; simpa using this
  | cons h _ ih =>
    have := hw h
    simp only [List.length_cons, List.length_append, Nat.add_mul, Nat.one_mul]; omega
theorem Rep.tall : ∀ {h : Nat} {lo hi : Option Byt} {p : Nat} {ps : List Nat} {es : List Ent}, Rep img h false lo hi p ps es → 2 ^ h ≤ es.length
  | 0, _, _, _, _, _, ⟨n, h1, h2, h3, h4, h5, h6⟩ => by
    have := (h1.sh.lf h2).1
    have : 0 < n.keys.length := List.length_pos_iff.2 h3
    rw [h5]; simp; omega
  | h + 1, _, _, _, _, _, ⟨n, ps', h1, h2, h3, h4, h5, h6⟩ => by
    have h7 := h6.tall (c := 2 ^ h) Rep.tall
    have := h6.len
    have : 0 < n.keys.length := List.length_pos_iff.2 (by simpa using h3)
    have : 2 * 2 ^ h ≤ n.kids.length * 2 ^ h := Nat.mul_le_mul_right _ (by omega)
    rw [Nat.pow_succ]; omega
end
end Go.Proofs.YtfhapbggngdckaaGreat
