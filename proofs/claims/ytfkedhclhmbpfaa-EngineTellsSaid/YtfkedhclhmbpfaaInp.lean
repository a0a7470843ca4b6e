/-
  The document's Input.
-/
import Derived.Test.YtfkedhclhmbpfaaTel
import Derived.Test.YtfkedhclhmbpfaaFar
namespace Go.Proofs.Ytfkedhclhmbpfaa
open Go.RowKit Go.Maps
set_option linter.unusedVariables false
set_option linter.unusedSimpArgs false

theorem inputM_snoc (l : List (Int × Int)) (x : Int × Int) (k : Int) : inputM (l ++ [x]) k = if x.1 = k then some x.2 else inputM l k := by
  unfold inputM
  rw [List.reverse_append]
  show (([x] ++ l.reverse).find? _).map _ = _
  rw [List.singleton_append]
  by_cases h : x.1 = k
  · rw [List.find?_cons_of_pos (by simpa using h), if_pos h]
    rfl
  · rw [List.find?_cons_of_neg (by simpa using h), if_neg h]

/-- A list of inputs as it lies in memory. -/
def InRow (w : World) (A : Option Addr) (ins : List (Int × Int)) : Prop :=
  ∀ (i : Nat) (x : Int × Int), ins[i]? = some x → ∃ b off, A = some ⟨b, off, none⟩ ∧ w.cell? ⟨b, off + i * 2, none⟩ = some (.int .i64 x.1) ∧ w.cell? ⟨b, off + i * 2 + 1, none⟩ = some (.int .u8 x.2)
theorem InRow.chg {S : Nat → Prop} {w w' : World} {A : Option Addr} {ins : List (Int × Int)} (h : InRow w A ins) (hc : Chg S w w') (hs : ∀ b off, A = some ⟨b, off, none⟩ → ¬ S b) : InRow w' A ins := by
  intro i x hi
  obtain ⟨b, off, hA, e1, e2⟩ := h i x hi
  exact ⟨b, off, hA, hc.cell e1 (hs b off hA), hc.cell e2 (hs b off hA)⟩

set_option maxRecDepth 100000 in
set_option maxHeartbeats 4000000 in
theorem input_any (w : World) (A : Option Addr) (ins : List (Int × Int)) (cap : Nat) (k : Int) (h : InRow w A ins) (hl : ins.length ≤ 1000) (hb : ∀ x ∈ ins, 0 ≤ x.2 ∧ x.2 ≤ 255) :
    Calls Try.prog 26 #[.slice A ins.length cap, enc k] w fun e w' => e = .returned (.tuple #[.int .i64 ((inputM ins k).getD 0), .bool (inputM ins k).isSome]) ∧ w = w' := by
  have HH := hid h
  have HB := hid hb
  clear h hb
  go_enter Try.func26, Try.ntmps26
  go_wp2_with fail
  go_loop [6] (fun i => ∃ j : Nat, j ≤ ins.length ∧ i = .int .i64 ((j : Int) - 1) ∧ inputM ins k = inputM (ins.take j) k) (fun i => (intOf i + 1).toNat)
  case atStart => exact ⟨ins.length, Nat.le_refl _, rfl, by rw [List.take_length]⟩
  case round =>
    obtain ⟨j, hj, rfl, ht⟩ := hrel
    have HT := hid ht
    clear ht
    by_cases h0 : 1 ≤ j
    · obtain ⟨m, rfl⟩ : ∃ m : Nat, j = m + 1 := ⟨j - 1, by omega⟩
      have hlt : m < ins.length := by omega
      obtain ⟨b, off, hA, e1, e2⟩ := HH.out m ins[m] (List.getElem?_eq_getElem hlt)
      subst hA
      have hx := HB.out _ (List.getElem_mem hlt)
      have ht2 : inputM ins k = if ins[m].1 = k then some ins[m].2 else inputM (ins.take m) k := by
        rw [HT.out, List.take_succ_eq_append_getElem hlt, inputM_snoc]
      have HT2 := hid ht2
      obtain ⟨x, hxe⟩ : ∃ x, x = ins[m] := ⟨_, rfl⟩
      rw [← hxe] at e1 e2 hx HT2
      rw [show (((m + 1 : Nat) : Int) - 1) = (m : Int) by omega]
      clear ht2 hxe HT
      obtain ⟨a, n⟩ := x
      dsimp only at e1 e2 hx
      by_cases hk : a = k
      · have HR := hid (HT2.out.trans (if_pos hk))
        clear HT2
        subst hk
        go_wp2_with fail
        go_ret2
        exact ⟨by rw [HR.out]; rfl, rfl⟩
      · have HR := hid (HT2.out.trans (if_neg hk))
        clear HT2
        go_wp2_with fail
        go_round
        case rel => exact ⟨m, by omega, by go_num, HR.out⟩
        case measure => simp [intOf]
    · have hj0 : j = 0 := by omega
      subst hj0
      have HR := hid (HT.out.trans (show inputM (ins.take 0) k = none from rfl))
      clear HT
      rw [show (((0 : Nat) : Int) - 1) = -1 by omega]
      go_wp2_with fail
      go_ret2
      exact ⟨by rw [HR.out]; rfl, rfl⟩
end Go.Proofs.Ytfkedhclhmbpfaa
