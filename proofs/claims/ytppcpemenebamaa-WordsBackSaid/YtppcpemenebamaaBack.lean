/-
  WordsBack's walk.
-/
import Derived.Test.YtppcpemenebamaaDed
import Derived.ProofKit
namespace Go.Proofs.Ytppcpemenebamaa
open Go.ChangeShapes Go.WideShapes Go.ChangeAt Go.RowKit
set_option linter.unusedVariables false
set_option linter.unusedSimpArgs false

set_option maxRecDepth 100000 in
set_option maxHeartbeats 2000000 in
theorem back_any (A : Option Addr) (cap : Nat) (xs : List ByteArray) (w : World) (hr : Row w A (xs.map Value.string)) (hs : ∀ x ∈ xs, okS x) (hn : xs.length ≤ 100) :
    Calls Try.prog 3 #[.slice A xs.length cap] w fun e w' => e = .returned (.bool true) ∧ Below w.heap.size w w' := by
  have HS := hid hs
  have HR := hid hr
  clear hs hr
  go_enter Try.func3, Try.ntmps3
  go_wp2_with fail
  refine (alive_any _).mono ?_
  rintro e w1 ⟨rfl, g1⟩
  have k1 := g1.size
  go_wp2_with fail
  refine (new_t1 _).mono ?_
  rintro e w2 ⟨rfl, t2, g2⟩
  have G2 : Chg (fun k => w1.heap.size ≤ k) w w2 := (g1.trans g2).weaken (fun _ _ h => h.elim)
  have k2 := g2.size
  clear g1 g2
  go_wp2_with fail
  go_loopw [4] (fun i wr => ∃ k : Nat, k ≤ xs.length ∧ i = .int .i64 k ∧ T1 w1.heap.size wr (w1.heap.size + 1) (ded (xs.take k)) ∧ Chg (fun k => w1.heap.size ≤ k) w wr) (fun i _ => xs.length - (intOf i).toNat)
  case atStart => exact ⟨0, by omega, rfl, t2, G2⟩
  case round =>
    obtain ⟨k, hk, rfl, ht, hG⟩ := hrel
    have hsz := ht.lt
    clear t2 G2
    by_cases hlt : k < xs.length
    · obtain ⟨b, off, rfl, hb, hcs⟩ := HR.out.at_ (k := k) (by simpa using hlt)
      have e0 := hG.cell (hcs k (.string xs[k]) (by rw [List.getElem?_map, List.getElem?_eq_getElem hlt]; rfl)) (by show ¬ w1.heap.size ≤ b; omega)
      have hok := HS.out xs[k] (List.getElem_mem hlt)
      have hst := ded_take hlt
      have hlen := ded_length (xs.take k)
      have hlen2 := List.length_take_le k xs
      obtain ⟨s, hs⟩ : ∃ s, s = xs[k] := ⟨_, rfl⟩
      rw [← hs] at e0 hok hst
      have HOK := hid hok
      have HST := hid hst
      have HT := hid ht
      clear hs hcs hok hst ht
      go_wp2_with fail
      refine (of_t1 w1.heap.size _ _ _ _ HT.out (by omega) HOK.out (by omega)).mono ?_
      rintro e w3 ⟨rfl, t3, g3⟩
      have HT3 := hid t3
      clear t3
      go_wp2_with fail
      go_roundw
      case rel => exact ⟨k + 1, by omega, by go_num, by rw [HST.out]; exact HT3.out, hG.trans g3⟩
      case measure => simp [intOf]; omega
    · have hkn : k = xs.length := by omega
      obtain ⟨m, hm⟩ : ∃ m, m = ded xs := ⟨_, rfl⟩
      rw [hkn, List.take_length, ← hm] at ht
      have hml : m.length ≤ 100 := by have := ded_length xs; rw [hm]; omega
      have HM := hid hm
      have HT := hid ht
      clear ht hkn hm
      go_wp2_with fail
      go_loopw [5, 6] (fun at_ n wr => ∃ i a : Nat, i ≤ m.length ∧ n = .int .i64 ((i : Int) + 1) ∧ at_ = .int .i64 a ∧ a ≤ xs.length ∧ (∀ j (hj : j < a) (hx : j < xs.length), ∃ p, p < i ∧ pos m xs[j] = some p) ∧ T1 w1.heap.size wr (w1.heap.size + 1) m ∧ Chg (fun k => w1.heap.size ≤ k) w wr) (fun _ n _ => m.length + 1 - (intOf n).toNat)
      case atStart => exact ⟨0, 0, by omega, rfl, rfl, by omega, fun j hj => by omega, HT.out, hG⟩
      case round =>
        obtain ⟨i, a, hi, rfl, rfl, ha, hinv, ht, hG⟩ := hrel
        have hsz := ht.lt
        have HINV := hid hinv
        have HT2 := hid ht
        clear ht hinv
        go_wp2_with fail
        refine (len_t1 w1.heap.size _ _ _ HT2.out (by omega)).mono ?_
        rintro e w3 ⟨rfl, g3⟩
        have HT3 := hid (HT2.out.chg g3)
        have hG3 := hG.into g3 (fun _ _ h => h.elim)
        have hsz3 := HT3.out.lt
        clear HT2 g3 hG
        by_cases him : i < m.length
        · obtain ⟨f, hfl, hfe, hfp⟩ : ∃ f, ∃ hf : f < xs.length, xs[f] = m[i] ∧ ∀ j (hj : j < f), ∃ p, p < i ∧ pos m (xs[j]'(by omega)) = some p := by
            have h := HM.out
            subst h
            exact ded_first xs i him
          have hpf : pos m xs[f] = some i := by
            rw [hfe]
            have h := HM.out
            subst h
            exact pos_of_get (ded_nodup xs) him
          have haf : a ≤ f := by
            rcases Nat.lt_or_ge f a with h | h
            · obtain ⟨p, hp, hpp⟩ := HINV.out f h hfl
              rw [hpf] at hpp
              simp at hpp
              omega
            · exact h
          have HFE := hid hfe
          have HFP := hid hfp
          have HPF := hid hpf
          obtain ⟨s, hse⟩ : ∃ s, s = m[i] := ⟨_, rfl⟩
          have HSE := hid hse
          clear hfe hfp hpf
          go_wp2_with fail
          refine (text_ok_t1 w1.heap.size _ _ _ i HT3.out him (by omega)).mono ?_
          rintro e w4 ⟨rfl, rfl⟩
          rw [← HSE.out]
          clear hse
          go_wp2_with fail
          obtain ⟨wo, hwo⟩ : ∃ wo : World, wo = w3 := ⟨_, rfl⟩
          subst hwo
          go_loopw [5] (fun at_ wr => ∃ a : Nat, at_ = .int .i64 a ∧ a ≤ f ∧ wo = wr) (fun at_ _ => f + 1 - (intOf at_).toNat)
          case atStart => exact ⟨a, rfl, haf, rfl⟩
          case round =>
            obtain ⟨a, rfl, haf, rfl⟩ := hrel
            have hax : a < xs.length := by omega
            obtain ⟨b, off, rfl, hb, hcs⟩ := HR.out.at_ (k := a) (by simpa using hax)
            have e0 := hG3.cell (hcs a (.string xs[a]) (by rw [List.getElem?_map, List.getElem?_eq_getElem hax]; rfl)) (by show ¬ w1.heap.size ≤ b; omega)
            obtain ⟨x, hx⟩ : ∃ x, x = xs[a] := ⟨_, rfl⟩
            rw [← hx] at e0
            have HX := hid hx
            have hokx : okS x := by rw [hx]; exact HS.out _ (List.getElem_mem hax)
            have HOKX := hid hokx
            clear hcs hx hokx
            by_cases hxs : x = s
            · subst hxs
              go_wp2_with fail
              go_roundw
              case rel => exact ⟨i + 1, a, by omega, by go_num, rfl, by omega, fun j hj hjx => by obtain ⟨p, h1, h2⟩ := HFP.out j (by omega); exact ⟨p, by omega, h2⟩, HT3.out, hG3⟩
              case measure => simp [intOf]; omega
            · have haf2 : a < f := by
                rcases Nat.lt_or_ge a f with h | h
                · exact h
                · exfalso
                  obtain rfl : a = f := by omega
                  exact hxs (by rw [HX.out, HSE.out, HFE.out])
              obtain ⟨p, hpi, hpp⟩ := HFP.out a haf2
              rw [← HX.out] at hpp
              have HPP := hid hpp
              clear hpp
              have hne := ba_ne hxs
              go_wp2_with fail
              refine (known_t1 w1.heap.size _ _ _ _ HT3.out HOKX.out).mono ?_
              rw [HPP.out]
              rintro e w5 ⟨rfl, rfl⟩
              go_wp2_with fail
              go_roundw
              case rel => exact ⟨a + 1, by go_num, by omega, trivial⟩
              case measure => simp [intOf]; omega
        · go_wp2_with fail
          refine (text_no_t1 w1.heap.size _ _ _ 0 HT3.out (by omega) (by omega)).mono ?_
          rintro e w4 ⟨rfl, rfl⟩
          go_wp2_with fail
          refine (len_t1 w1.heap.size _ _ _ HT3.out (by omega)).mono ?_
          rintro e w4 ⟨rfl, g4⟩
          have HT4 := hid (HT3.out.chg g4)
          have hG4 := hG3.into g4 (fun _ _ h => h.elim)
          go_wp2_with fail
          refine (text_no_t1 w1.heap.size _ _ _ _ HT4.out (by omega) (by omega)).mono ?_
          rintro e w5 ⟨rfl, rfl⟩
          go_wp2_with fail
          refine (text_no_t1 w1.heap.size _ _ _ _ HT4.out (by omega) (by omega)).mono ?_
          rintro e w5 ⟨rfl, rfl⟩
          go_wp2_with fail
          go_ret
          exact ⟨rfl, hG4.below (Nat.le_refl _) (fun k hk h => by omega)⟩
end Go.Proofs.Ytppcpemenebamaa
