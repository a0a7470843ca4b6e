/-
  The laws' far.
-/
import Derived.Test.YtfkedhclhmbpfaaRig
import Derived.LoopTactic
namespace Go.Proofs.Ytfkedhclhmbpfaa
open Go.RowKit Go.Maps
set_option linter.unusedVariables false
set_option linter.unusedSimpArgs false

/-- A rules' list as it came in. -/
def RuleRow (w : World) (A : Option Addr) (rs : List Rule) : Prop :=
  ∀ (i : Nat) (r : Rule), rs[i]? = some r → ∃ b off A' cap', A = some ⟨b, off, none⟩ ∧ w.cell? ⟨b, off + i * 2, none⟩ = some (.int .i64 r.kind) ∧ w.cell? ⟨b, off + i * 2 + 1, none⟩ = some (.slice A' r.l.length cap') ∧
    ∀ (j : Nat) (d : Int), r.l[j]? = some d → ∃ b' off', A' = some ⟨b', off', none⟩ ∧ ∀ (j : Nat) (d : Int), r.l[j]? = some d → w.cell? ⟨b', off' + j, none⟩ = some (.int .i64 d)
def farR (r : Rule) : Bool := decide (4 < r.l.length) || decide (r.kind < 0) || decide (2 < r.kind)
def farM (rs : List Rule) (m : Nat) : Bool := decide (8 < rs.length) || decide (60 < m) || rs.any farR

set_option maxRecDepth 100000 in
set_option maxHeartbeats 4000000 in
theorem far_any (A A2 : Option Addr) (rs : List Rule) (cap n2 cap2 : Nat) (w : World) (h : RuleRow w A rs) (hl : rs.length ≤ 9223372036854775807) (hl2 : n2 ≤ 9223372036854775807) (hll : ∀ r ∈ rs, r.l.length ≤ 9223372036854775807) (hok : ∀ r ∈ rs, ok r.kind) :
    Calls Try.prog 10 #[.slice A rs.length cap, .slice A2 n2 cap2] w fun e w' => e = .returned (.bool (farM rs n2)) ∧ w = w' := by
  have HH := hid h
  have HLL := hid hll
  have HOK := hid hok
  clear h hll hok
  by_cases h8 : 8 < rs.length
  · go_enter Try.func10, Try.ntmps10
    go_wp2_with fail
    go_ret
    exact ⟨by unfold farM; rw [decide_eq_true h8]; rfl, rfl⟩
  · by_cases h60 : 60 < n2
    · go_enter Try.func10, Try.ntmps10
      go_wp2_with fail
      go_ret
      exact ⟨by unfold farM; rw [decide_eq_true h60]; simp, rfl⟩
    · have hf : farM rs n2 = rs.any farR := by unfold farM; rw [decide_eq_false h8, decide_eq_false h60]; rfl
      rw [hf]
      go_enter Try.func10, Try.ntmps10
      go_wp2_with fail
      go_loop [5] (fun i => ∃ j : Nat, j ≤ rs.length ∧ i = .int .i64 j ∧ (rs.take j).any farR = false) (fun i => rs.length - (intOf i).toNat)
      case atStart => exact ⟨0, by omega, rfl, by simp⟩
      case round =>
        obtain ⟨j, hj, rfl, ht⟩ := hrel
        have HT := hid ht
        clear ht hf
        by_cases hlt : j < rs.length
        · obtain ⟨b, off, A', cap', hA, e1, e2, -⟩ := HH.out j rs[j] (List.getElem?_eq_getElem hlt)
          subst hA
          have hkk := HOK.out _ (List.getElem_mem hlt)
          have hln := HLL.out _ (List.getElem_mem hlt)
          have b0 := bounds_i64 hkk
          have hT2 : (rs.take (j + 1)).any farR = farR rs[j] := by
            rw [List.take_succ_eq_append_getElem hlt, List.any_append, HT.out]
            simp
          have hany : farR rs[j] = true → rs.any farR = true := fun h => List.any_eq_true.2 ⟨_, List.getElem_mem hlt, h⟩
          have HT2 := hid hT2
          have HANY := hid hany
          obtain ⟨r, hr⟩ : ∃ r, r = rs[j] := ⟨_, rfl⟩
          rw [← hr] at e1 e2 HT2 HANY b0 hln
          clear hkk hT2 hany hr HT
          obtain ⟨kd, l⟩ := r
          dsimp only at e1 e2 b0 hln
          by_cases c1 : 4 < l.length
          · go_wp2_with fail
            go_ret
            exact ⟨by rw [HANY.out (by unfold farR; rw [decide_eq_true c1]; rfl)]; rfl, rfl⟩
          · by_cases c2 : kd < 0
            · go_wp2_with fail
              go_ret
              exact ⟨by rw [HANY.out (by unfold farR; rw [decide_eq_true c2]; simp)]; rfl, rfl⟩
            · by_cases c3 : 2 < kd
              · go_wp2_with fail
                go_ret
                exact ⟨by rw [HANY.out (by unfold farR; rw [decide_eq_true c3]; simp)]; rfl, rfl⟩
              · have hT3 := hid (HT2.out.trans (by unfold farR; rw [decide_eq_false c1, decide_eq_false c2, decide_eq_false c3]))
                go_wp2_with fail
                go_round
                case rel => exact ⟨j + 1, by omega, by go_num, hT3.out⟩
                case measure => simp [intOf]; omega
        · have hje : j = rs.length := by omega
          rw [hje, List.take_length] at HT
          go_wp2_with fail
          go_ret
          exact ⟨by rw [HT.out]; rfl, rfl⟩
end Go.Proofs.Ytfkedhclhmbpfaa
