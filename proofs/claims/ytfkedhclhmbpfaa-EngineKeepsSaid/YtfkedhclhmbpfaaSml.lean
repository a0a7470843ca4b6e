/-
  The engine's small helpers: cost, slices.Contains.
-/
import Derived.Test.YtfkedhclhmbpfaaEng
import Derived.LoopTactic
import Derived.ProofKit
import Derived.OpenShut
namespace Go.Proofs.Ytfkedhclhmbpfaa
open Go.RowKit Go.Maps
set_option linter.unusedVariables false
set_option linter.unusedSimpArgs false

theorem cost_any (w : World) (s : ByteArray) (h : s.size ≤ 1000000) : Calls Try.prog 32 #[.string s] w fun e w' => e = .returned (.int .i64 (cost s)) ∧ w = w' := by
  go_enter Try.func32, Try.ntmps32
  go_wp2
  go_ret
  exact ⟨rfl, rfl⟩

/-- A slice of numbers. -/
def IsL (w : World) (v : Value) (zs : List Int) : Prop := ∃ A cap, v = .slice A zs.length cap ∧ Row w A (zs.map (Value.int .i64))
theorem IsL.chg {S : Nat → Prop} {w w' : World} {v : Value} {zs : List Int} (h : IsL w v zs) (hc : Chg S w w') (hs : ∀ b off l c, v = .slice (some ⟨b, off, none⟩) l c → ¬ S b) : IsL w' v zs := by
  obtain ⟨A, cap, rfl, hr⟩ := h
  refine ⟨A, cap, rfl, fun i u hi => ?_⟩
  obtain ⟨b, off, hA, hb, hcs⟩ := hr i u hi
  exact ⟨b, off, hA, Nat.lt_of_lt_of_le hb hc.size, fun j x hx => hc.cell (hcs j x hx) (hs b off _ _ (by rw [hA]))⟩
theorem own_isL {base : Nat} {w : World} {v : Value} {zs : List Int} (h : w.ownsRow base 3 1 v zs.length (zs.map (Value.int .i64))) : IsL w v zs := by
  obtain ⟨A, cap, rfl⟩ : ∃ A cap, v = .slice A zs.length cap := by
    rcases h.2 with ⟨rfl, h0⟩ | ⟨g, cap', cur, rfl, _⟩
    · exact ⟨none, 0, by rw [h0]⟩
    · exact ⟨_, _, rfl⟩
  exact ⟨A, cap, rfl, own_row1 h⟩

def IndexR (w : World) (zs : List Int) (k : Int) (e : Ending) (w' : World) : Prop := ∃ n : Int, e = .returned (.int .i64 n) ∧ (0 ≤ n ↔ k ∈ zs) ∧ w = w'
set_option maxHeartbeats 1000000 in
theorem index_any (w : World) (v : Value) (zs : List Int) (k : Int) (h : IsL w v zs) (hn : zs.length ≤ 1000) : Calls Try.prog 51 #[v, .int .i64 k] w (IndexR w zs k) := by
  obtain ⟨A, cap, rfl, hr⟩ := h
  have HR := hid hr
  clear hr
  go_enter Try.func51, Try.ntmps51
  go_wp2_with fail
  go_loop [5, 8] (fun u i => ∃ (j : Nat), j ≤ zs.length ∧ i = .int .i64 j ∧ k ∉ zs.take j) (fun _ i => zs.length - (intOf i).toNat)
  case atStart => exact ⟨0, by omega, rfl, by simp⟩
  case round =>
    obtain ⟨j, hj, rfl, hm⟩ := hrel
    have HM := hid hm
    clear hm
    by_cases hlt : j < zs.length
    · obtain ⟨b1, off, rfl, hb1, hcs⟩ := HR.out.at_ (k := j) (by simpa using hlt)
      have e0 := hcs j (.int .i64 zs[j]) (by rw [List.getElem?_map, List.getElem?_eq_getElem hlt]; rfl)
      have hts : zs.take (j + 1) = zs.take j ++ [zs[j]] := List.take_succ_eq_append_getElem hlt
      have hmem : zs[j] ∈ zs := List.getElem_mem hlt
      obtain ⟨x, hx⟩ : ∃ x, x = zs[j] := ⟨_, rfl⟩
      rw [← hx] at e0 hts hmem
      have HT := hid hts
      have HMEM := hid hmem
      clear hx hcs hts hmem
      by_cases hk : k = x
      · subst hk
        go_wp2_with fail
        go_ret
        exact ⟨j, rfl, ⟨fun _ => HMEM.out, fun _ => by omega⟩, rfl⟩
      · go_wp2_with fail
        go_round
        case rel => exact ⟨j + 1, by omega, by go_num, by rw [HT.out, List.mem_append]; rintro (h | h); exact HM.out h; exact hk (by simpa using h)⟩
        case measure => simp [intOf]; omega
    · have hje : j = zs.length := by omega
      rw [hje, List.take_length] at HM
      go_wp2_with fail
      go_ret
      exact ⟨-1, rfl, ⟨fun h => by omega, fun h => absurd h HM.out⟩, rfl⟩
theorem contains_any (w : World) (v : Value) (zs : List Int) (k : Int) (h : IsL w v zs) (hn : zs.length ≤ 1000) : Calls Try.prog 46 #[v, .int .i64 k] w fun e w' => e = .returned (.bool (decide (k ∈ zs))) ∧ w = w' := by
  go_enter Try.func46, Try.ntmps46
  go_wp2_with fail
  refine (index_any _ v zs k h hn).mono ?_
  rintro e w1 ⟨n, rfl, hn', rfl⟩
  have HN := hid hn'
  clear hn'
  go_wp2_with fail
  go_ret
  refine ⟨?_, rfl⟩
  show Ending.returned (.bool (decide (0 ≤ n))) = _
  rw [decide_eq_decide.2 HN.out]
end Go.Proofs.Ytfkedhclhmbpfaa
