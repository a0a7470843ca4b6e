/-
  LruKeeps' closure: it notes the key that it is asked for, and tells whether the key's bit is set.
-/
import Derived.Test.YthecpiigabfboaaAl
import Derived.Test.YthecpiigabfboaaLBK
import Derived.ProofKit
import Derived.OpenShut
namespace Go.Proofs.Ythecpiigabfboaa
open Go.ChangeShapes Go.WideShapes Go.ChangeAt Go.RowKit Go.Maps
open LB
set_option linter.unusedVariables false
set_option linter.unusedSimpArgs false

theorem infoU : (Try.prog.info? 5).map (fun i => (i.zero, i.size, i.bytes)) = some (some (.int .u8 0), 1, 1) := by kernel_rfl

/-- Is a key's bit set? -/
def kpU (bits k : Int) : Bool := (bits / 2 ^ min k.toNat 16).tmod 2 == 1

/-- What the closure holds: its notes (block g, a row of the call's own), and the bits (block h). O: what it may write. -/
def KJ (base g h : Nat) (bits : Int) (O : Nat → Prop) (pre : List Int) (W : World) : Prop :=
  ∃ v, Blk W g 22 #[v] ∧ W.ownsRow base 5 1 v pre.length (pre.map (Value.int .u8)) ∧ (∀ k, O k ↔ k = g ∨ v.ownBlock = some k) ∧ Blk W h 37 #[.int .u16 bits] ∧ g ≠ h

set_option maxHeartbeats 1000000 in
theorem note_any (base g h : Nat) (bits : Int) (O : Nat → Prop) (pre : List Int) (k : Int) (W : World) (hj : KJ base g h bits O pre W) (hb : base ≤ W.heap.size) (hn : pre.length ≤ 100) (hk : ok k) (hbits : (Lit.int .u16 bits).wf = true) :
    Calls Try.prog 19 #[.int .u8 k, .pointer (some ⟨g, 0, none⟩), .pointer (some ⟨h, 0, none⟩)] W fun e W' => e = .returned (.bool (kpU bits k)) ∧ ∃ O', KJ base g h bits O' (pre ++ [k]) W' ∧ (∀ x, O' x → O x ∨ W.heap.size ≤ x) ∧ Chg O W W' := by
  obtain ⟨i0, hi0, hz0, hz1, hz2⟩ := info_parts infoU
  obtain ⟨v, h1, h2, h3, h4, h5⟩ := hj
  have b0 := bounds_u8 hk
  have b1 : 0 ≤ bits ∧ bits ≤ 65535 := by simpa [Lit.wf, IntKind.min, IntKind.max, IntKind.bits, IntKind.signed] using hbits
  have c1 : W.cell? ⟨g, 0, none⟩ = some v := by rw [h1.cell]; rfl
  have c2 : W.cell? ⟨h, 0, none⟩ = some (.int .u16 bits) := by rw [h4.cell]; rfl
  have f1 := h1.frozen 0
  have H1 := hid h1
  have H2 := hid h2
  have H3 := hid h3
  have H4 := hid h4
  clear h1 h2 h3 h4 hk hbits
  go_enter Try.func19, Try.ntmps19
  go_wp2_with (first
          | (at_builtin
             refine wpList_append_own_at _ rfl (.tmp 5) (.tmp 7) 22 rfl base 5 i0 (.int .u8 0) 1 1 Try.underlying22 hi0 hz0 hz1 hz2 rfl (by decide) v pre.length (pre.map (Value.int .u8)) rfl (own_chg H2.out ((Chg.refl (fun _ => False) _).alloc _) (fun _ _ h => h)) ⟨W.heap.size, 0, none⟩ 1 1 [.int .u8 k] rfl rfl (news1 _ _ _ _ rfl) (by simp [Value.oneCell']) (by unfold maxLen; omega) (by omega) (by simp; omega) ?_
             intro v' w2 hown1 hgrow hnil hat
             obtain ⟨g', cap', rfl⟩ := ownsRow_succ hown1
             have hg1 : Chg (fun k => v.ownBlock = some k) W w2 := ((Chg.refl _ _).alloc _).trans ((chg_of_grown hgrow).weaken (fun k _ e => e.symm))
             have hb1 := hg1.blk H1.out (fun e => own_ne_b H2.out H1.out (by decide) _ e rfl)
             have hb2 := hg1.blk H4.out (fun e => own_ne_b H2.out H4.out (by decide) _ e rfl)
             have f2 := hb1.frozen 0
             have c3 : (w2.setCell ⟨g, 0, none⟩ (.slice (some ⟨g', 0, none⟩) (pre.length + 1) cap')).cell? ⟨h, 0, none⟩ = some (.int .u16 bits) := by
               rw [(hb2.far (p := ⟨g, 0, none⟩) (fun e => h5 e.symm) _).cell]; rfl
             have c4 : w2.cell? ⟨g, 0, none⟩ = some v := by rw [hb1.cell]; rfl
             have HG1 := hid hg1
             have HB1 := hid hb1
             have HB2 := hid hb2
             have HO1 := hid hown1
             have HAT := hid hat
             clear hg1 hb1 hb2 hown1 hgrow hnil hat))
  go_ret
  have hst : Chg (fun k => k = g) w2 (w2.setCell ⟨g, 0, none⟩ (.slice (some ⟨g', 0, none⟩) (pre.length + 1) cap')) := (Chg.refl (fun k => k = g) w2).setCell (p := ⟨g, 0, none⟩) rfl _
  have hgb := own_ne_b HO1.out HB1.out (by decide) g' rfl
  refine ⟨rfl, (fun k => k = g ∨ k = g'), ⟨_, HB1.out.set_ 0 _, ?_, fun k => ?_, HB2.out.far (p := ⟨g, 0, none⟩) (fun e => h5 e.symm) _, h5⟩, ?_, ?_⟩
  · rw [List.length_append, List.map_append]
    exact own_chg HO1.out hst (fun x hx => by simp [Value.ownBlock] at hx; subst hx; exact hgb)
  · simp [Value.ownBlock, eq_comm]
  · intro x hx
    rcases hx with rfl | rfl
    · exact Or.inl ((H3.out _).2 (Or.inl rfl))
    · rcases HAT.out with h | h
      · exact Or.inl ((H3.out _).2 (Or.inr (by rw [← h]; rfl)))
      · simp [Value.ownBlock] at h
        exact Or.inr (by omega)
  · exact (HG1.out.weaken (fun k _ e => (H3.out k).2 (Or.inr e))).trans (hst.weaken (fun k _ e => (H3.out k).2 (Or.inl e)))
end Go.Proofs.Ythecpiigabfboaa
