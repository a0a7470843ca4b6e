/-
  The document's Find: where a text stands on a list.
-/
import Derived.Test.YtppcpemenebamaaDed
import Derived.ProofKit
namespace Go.Proofs.Ytppcpemenebamaa
open Go.ChangeShapes Go.WideShapes Go.ChangeAt Go.RowKit
set_option linter.unusedVariables false
set_option linter.unusedSimpArgs false

def findN (l : List ByteArray) (s : ByteArray) : Int := match pos l s with | some i => (i : Int) + 1 | none => 0

set_option maxHeartbeats 1000000 in
theorem find_any (A : Option Addr) (cap : Nat) (l : List ByteArray) (s : ByteArray) (w : World) (hr : Row w A (l.map Value.string)) (hn : l.length ≤ 100000) :
    Calls Try.prog 14 #[.slice A l.length cap, .string s] w fun e w' => e = .returned (.int .i64 (findN l s)) ∧ w = w' := by
  have HR := hid hr
  clear hr
  go_enter Try.func14, Try.ntmps14
  go_wp2_with fail
  go_loop [5] (fun i => ∃ k : Nat, k ≤ l.length ∧ i = .int .i64 k ∧ pos l s = (pos (l.drop k) s).map (· + k)) (fun i => l.length - (intOf i).toNat)
  case atStart => exact ⟨0, by omega, rfl, by simp⟩
  case round =>
    obtain ⟨k, hk, rfl, hp⟩ := hrel
    by_cases hlt : k < l.length
    · obtain ⟨b, off, rfl, _, hcs⟩ := HR.out.at_ (k := k) (by simpa using hlt)
      have e0 := hcs k (.string l[k]) (by rw [List.getElem?_map, List.getElem?_eq_getElem hlt]; rfl)
      have hd : l.drop k = l[k] :: l.drop (k + 1) := List.drop_eq_getElem_cons hlt
      rw [hd] at hp
      obtain ⟨x, hx⟩ : ∃ x, x = l[k] := ⟨_, rfl⟩
      rw [← hx] at e0 hp
      clear hx hcs hd
      by_cases hxs : x = s
      · subst hxs
        have hf : findN l x = (k : Int) + 1 := by unfold findN; rw [hp]; simp [pos]
        have HF := hid hf
        clear hp hf
        go_wp2_with fail
        go_ret
        exact ⟨by rw [HF.out]; rfl, rfl⟩
      · have hne := ba_ne hxs
        have hp2 : pos l s = (pos (l.drop (k + 1)) s).map (· + (k + 1)) := by
          rw [hp, pos, if_neg (fun e => hxs e.symm), Option.map_map]
          congr 1
          funext i
          show i + 1 + k = i + (k + 1)
          omega
        have HP := hid hp2
        clear hp hp2
        go_wp2_with fail
        go_round
        case rel => exact ⟨k + 1, by omega, by go_num, HP.out⟩
        case measure => simp [intOf]; omega
    · have hf : findN l s = 0 := by
        unfold findN
        rw [hp, List.drop_of_length_le (by omega)]
        rfl
      have HF := hid hf
      clear hp hf
      go_wp2_with fail
      go_ret
      exact ⟨by rw [HF.out]; rfl, rfl⟩
end Go.Proofs.Ytppcpemenebamaa
