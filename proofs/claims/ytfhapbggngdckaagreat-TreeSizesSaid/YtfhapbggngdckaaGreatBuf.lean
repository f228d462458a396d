/- A page that is being filled: append16, append32. -/
import Derived.Test.YtfhapbggngdckaaGreatNodeS
namespace Go.Proofs.YtfhapbggngdckaaGreat
open Go.RowKit
def enc16 (x : Nat) : List UInt8 := [UInt8.ofNat (x / 256), UInt8.ofNat x]
def enc32 (x : Nat) : List UInt8 := [UInt8.ofNat (x / 16777216), UInt8.ofNat (x / 65536), UInt8.ofNat (x / 256), UInt8.ofNat x]
def pad (b : List UInt8) : List UInt8 := b ++ List.replicate (1024 - b.length) 0
structure Buf (w : World) (g : Nat) (b : List UInt8) : Prop where
  row : Row w g 5 ((pad b).map u8)
  fit : b.length ≤ 1024
theorem Buf.keep {w w' : World} {F : Nat → Prop} {g : Nat} {b : List UInt8} (h : Buf w g b) (k : Keep F w w') (hn : ¬ F g) : Buf w' g b := ⟨h.row.keep k hn, h.fit⟩
theorem Buf.drewN {w : World} {g : Nat} {b : List UInt8} (h : Buf w g b) (n : Nat) : Buf (w.drewN n) g b := ⟨h.row, h.fit⟩
theorem Buf.append {w : World} {g : Nat} {b more : List UInt8} {D : Nat → Prop} {u : Value} (h : Buf w g b) (hr : BS w D u more) (hfit : b.length + more.length ≤ 1024) :
    ∃ w', (∀ ty, (Builtin.append_ #[23, 23] ty #[.slice (some ⟨g, 0, none⟩) b.length 1024, u]).run Tryz.prog w = .ok (.slice (some ⟨g, 0, none⟩) (b.length + more.length) 1024) w') ∧ Buf w' g (b ++ more) ∧ Keep (Just g) w w' := by
  have hrow : Row w g 5 (b.map u8 ++ (List.replicate (1024 - b.length) (0 : UInt8)).map u8) := by
    have := h.row
    unfold pad at this
    rwa [List.map_append] at this
  have hl := h.fit
  have := fun ty => run_append_row etB ty hrow hr (cells1_u8 _) (by simp; omega)
  simp only [List.length_map, List.length_replicate] at this
  rw [show b.length + (1024 - b.length) = 1024 by omega] at this
  refine ⟨_, fun ty => by rw [this], ⟨?_, by simp; omega⟩, (Keep.refl (Just g) w).setRow (fun _ => rfl) _⟩
  have h2 := h.row.setRow (b.map u8 ++ (more.map u8 ++ ((List.replicate (1024 - b.length) (0 : UInt8)).map u8).drop more.length))
  have : (pad (b ++ more)).map u8 = b.map u8 ++ (more.map u8 ++ ((List.replicate (1024 - b.length) (0 : UInt8)).map u8).drop more.length) := by
    unfold pad
    rw [← List.map_drop, List.drop_replicate, List.length_append]
    simp only [List.map_append, List.append_assoc]
    rw [show 1024 - (b.length + more.length) = 1024 - b.length - more.length by omega]
  rw [this]
  exact h2
theorem length_pad {b : List UInt8} (h : b.length ≤ 1024) : (pad b).length = 1024 := by unfold pad; simp; omega
theorem Buf.own {w : World} {g base : Nat} {b : List UInt8} (h : Buf w g b) (hg : base ≤ g) : Own w (From base) 5 (.slice (some ⟨g, 0, none⟩) 1024 1024) ((pad b).map u8) :=
  .inr ⟨g, [], by simp [length_pad h.fit], hg, by simpa using h.row, by simp [length_pad h.fit]⟩
section
variable {P : Program} {w : World} {v u : Value}
theorem step_append_eq {ops : Array Oper} {o : Oper} {a : Act} {K : Act → World → Prop} {Q : Exit → Act → World → Prop} {E' : Prop} (hgd : o.guard = none) (s x : Operand) {t t' : TypeId}
    (ho : o.op = .call { callee := .builtin .append, args := #[s, x], argTypes := #[t, t'] }) (hs : a.eval s = v) (hx : a.eval x = u) {v' : Value} {w' : World}
    (hrun : (Builtin.append_ #[t, t'] o.type #[v, u]).run P w = .ok v' w') (h : K (a.put o.dst v') w') : if Region.wanted o (yielded ops a.tmps) = true then Oper.wp P o a w K Q else E' := by
  have hw : Region.wanted o (yielded ops a.tmps) = true := by simp [Region.wanted, hgd]
  rw [if_pos hw]
  exact wp_append_eq s x ho hs hx hrun h
end
theorem step_buf {w : World} {u : Value} {ops : Array Oper} {o : Oper} {a : Act} {K : Act → World → Prop} {Q : Exit → Act → World → Prop} {E' : Prop} {g n : Nat} {b more : List UInt8} {D : Nat → Prop} (hgd : o.guard = none) (s x : Operand)
    (ho : o.op = .call { callee := .builtin .append, args := #[s, x], argTypes := #[23, 23] }) (hs : a.eval s = .slice (some ⟨g, 0, none⟩) n 1024) (hx : a.eval x = u)
    (h : Buf w g b) (hn : n = b.length) (hr : BS w D u more) (hfit : n + more.length ≤ 1024)
    (hK : ∀ w', Buf w' g (b ++ more) → Keep (Just g) w w' → K (a.put o.dst (.slice (some ⟨g, 0, none⟩) (n + more.length) 1024)) w') : if Region.wanted o (yielded ops a.tmps) = true then Oper.wp Tryz.prog o a w K Q else E' := by
  subst hn
  obtain ⟨w', h1, h2, h3⟩ := h.append hr hfit
  exact step_append_eq hgd s x ho hs hx (h1 _) (hK w' h2 h3)
theorem bs_row {w : World} {b : Nat} {l : List UInt8} (h : Row w b 5 (l.map u8)) (n : Nat) (hn : l.length = n) (hl : n ≤ 9223372036854775807) : BS w (Just b) (.slice (some ⟨b, 0, none⟩) n n) l := h.rs n (by simpa using hn) hl
theorem u8of (x : Nat) : u8 (UInt8.ofNat x) = .int .u8 ((x : Int) % 256) := by
  unfold u8
  rw [UInt8.toNat_ofNat']
  simp
theorem buf_lits {w : World} {g : Nat} {b : List UInt8} (h : Buf w g b) (more : List UInt8) (vs : List Value) (hv : more.map u8 = vs) (hfit : b.length + more.length ≤ 1024) :
    ∃ w', (∀ ty, (Builtin.append_ #[23, 23] ty #[.slice (some ⟨g, 0, none⟩) b.length 1024, .slice (some ⟨w.heap.size, 0, none⟩) more.length more.length]).run Tryz.prog (w.alloc (.cells vs.toArray 5)) = .ok (.slice (some ⟨g, 0, none⟩) (b.length + more.length) 1024) w') ∧ Buf w' g (b ++ more) ∧ Keep (Just g) w w' := by
  have hk : Keep No w (w.alloc (.cells vs.toArray 5)) := (Keep.refl No w).alloc _
  have hr := Row.new w 5 vs
  rw [← hv] at hr hk ⊢
  obtain ⟨w', h1, h2, h3⟩ := (h.keep hk (fun h => h)).append (bs_row hr more.length rfl (by omega)) hfit
  exact ⟨w', h1, h2, (hk.any _).trans h3 (fun _ _ h => h)⟩
set_option maxRecDepth 20000 in
set_option maxHeartbeats 800000 in
theorem append16_any {w : World} {g : Nat} {b : List UInt8} (h : Buf w g b) (x : Nat) (hx : x < 65536) (hfit : b.length + 2 ≤ 1024) :
    Calls Tryz.prog 111 #[.slice (some ⟨g, 0, none⟩) b.length 1024, .int .u16 x] w fun e w' => e = .returned (.slice (some ⟨g, 0, none⟩) (b.length + 2) 1024) ∧ Buf w' g (b ++ enc16 x) ∧ Keep (Just g) w w' := by
  obtain ⟨w2, hrun, h2, h3⟩ := buf_lits h (enc16 x) [.int .u8 ((x : Int) / 256), .int .u8 ((x : Int) % 256)] (by
    simp only [enc16, List.map_cons, List.map_nil, u8of]
    congr 2
    omega) hfit
  have HR := Lib.hid hrun
  have H2 := Lib.hid h2
  have H3 := Lib.hid h3
  clear h hrun h2 h3
  go_enter Tryz.func111, Tryz.ntmps111
  go_wp2_with (at_builtin; refine wpList_append_eq rfl _ _ rfl rfl rfl (HR.out _) ?_)
  go_ret
  exact ⟨rfl, H2.out, H3.out⟩
set_option maxRecDepth 20000 in
set_option maxHeartbeats 800000 in
theorem append32_any {w : World} {g : Nat} {b : List UInt8} (h : Buf w g b) (x : Nat) (hx : x < 4294967296) (hfit : b.length + 4 ≤ 1024) :
    Calls Tryz.prog 112 #[.slice (some ⟨g, 0, none⟩) b.length 1024, .int .u32 x] w fun e w' => e = .returned (.slice (some ⟨g, 0, none⟩) (b.length + 4) 1024) ∧ Buf w' g (b ++ enc32 x) ∧ Keep (Just g) w w' := by
  obtain ⟨w2, hrun, h2, h3⟩ := buf_lits h (enc32 x) [.int .u8 ((x : Int) / 16777216), .int .u8 ((x : Int) / 65536 % 256), .int .u8 ((x : Int) / 256 % 256), .int .u8 ((x : Int) % 256)] (by
    simp only [enc32, List.map_cons, List.map_nil, u8of]
    congr 2
    omega) hfit
  have HR := Lib.hid hrun
  have H2 := Lib.hid h2
  have H3 := Lib.hid h3
  clear h hrun h2 h3
  go_enter Tryz.func112, Tryz.ntmps112
  go_wp2_with (at_builtin; refine wpList_append_eq rfl _ _ rfl rfl rfl (HR.out _) ?_)
  go_ret
  exact ⟨rfl, H2.out, H3.out⟩
end Go.Proofs.YtfhapbggngdckaaGreat
