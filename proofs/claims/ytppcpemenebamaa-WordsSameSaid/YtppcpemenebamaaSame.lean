/-
  WordsSame's walk.
-/
import Derived.Test.YtppcpemenebamaaDed
import Derived.ProofKit
namespace Go.Proofs.Ytppcpemenebamaa
open Go.ChangeShapes Go.WideShapes Go.ChangeAt Go.RowKit
set_option linter.unusedVariables false
set_option linter.unusedSimpArgs false

/-- What stands behind the two first questions. -/
structure AB (m : List ByteArray) (a b : ByteArray) (q : Nat) : Prop where
  a : pos m a = some 0
  b : pos m b = some q

set_option maxRecDepth 100000 in
set_option maxHeartbeats 2000000 in
theorem same_any (A : Option Addr) (cap : Nat) (xs : List ByteArray) (a b : ByteArray) (w : World) (hr : Row w A (xs.map Value.string)) (hs : ∀ x ∈ xs, okS x) (hn : xs.length ≤ 100) (ha : okS a) (hb : okS b)
    (q : Nat) (m0 : List ByteArray) (hm0 : m0 = addT [a] b) (hq : numT [a] b = (q : Int) + 1) (hq1 : q ≤ 1) (hab : (a = b ∧ q = 0) ∨ (¬ a = b ∧ q = 1)) :
    Calls Try.prog 5 #[.string a, .string b, .slice A xs.length cap] w fun e w' => e = .returned (.bool true) ∧ Below w.heap.size w w' := by
  have HS := hid hs
  have HR := hid hr
  have HA := hid ha
  have HB := hid hb
  have HQ := hid hq
  have HM0 := hid hm0
  have HAB := hid hab
  have HI : Hid (AB m0 a b q) := by
    refine ⟨?_, ?_⟩
    · rw [hm0]
      exact pos_grow (by simp [pos])
    · rw [hm0]
      obtain ⟨i, h1, h2⟩ := pos_addT [a] b
      rw [hq] at h2
      rw [h1]
      congr 1
      omega
  have hml : m0.length ≤ 2 := by rw [hm0]; exact addT_length [a] b
  clear hs hr ha hb hq hm0 hab
  go_enter Try.func5, Try.ntmps5
  go_wp2_with fail
  refine (alive_any _).mono ?_
  rintro e w1 ⟨rfl, g1⟩
  have k1 := g1.size
  go_wp2_with fail
  refine (new_t1 _).mono ?_
  rintro e w2 ⟨rfl, t2, g2⟩
  have G2 : Chg (fun k => w1.heap.size ≤ k) w w2 := (g1.trans g2).weaken (fun _ _ h => h.elim)
  have k2 := t2.lt
  have HT2 := hid t2
  clear g1 g2 t2
  go_wp2_with fail
  refine (of_t1 w1.heap.size _ _ _ _ HT2.out (by omega) HA.out (by simp)).mono ?_
  rintro e w3 ⟨rfl, t3, g3⟩
  have G3 := G2.trans g3
  have k3 := t3.lt
  rw [show addT [] a = [a] from rfl] at t3
  rw [show numT [] a = 1 from rfl]
  have HT3 := hid t3
  clear t3 HT2 G2 g3
  go_wp2_with fail
  refine (of_t1 w1.heap.size _ _ _ _ HT3.out (by omega) HB.out (by simp)).mono ?_
  rintro e w4 ⟨rfl, t4, g4⟩
  have G4 := G3.trans g4
  have k4 := t4.lt
  rw [← HM0.out] at t4
  rw [HQ.out]
  have HT4 := hid t4
  clear t4 HT3 G3 g4
  go_wp2_with fail
  go_loopw [10] (fun i wr => ∃ (k : Nat) (m : List ByteArray), k ≤ xs.length ∧ i = .int .i64 k ∧ T1 w1.heap.size wr (w1.heap.size + 1) m ∧ AB m a b q ∧ m.length ≤ 2 + k ∧ Chg (fun k => w1.heap.size ≤ k) w wr) (fun i _ => xs.length - (intOf i).toNat)
  case atStart => exact ⟨0, m0, by omega, rfl, HT4.out, HI.out, by omega, G4⟩
  case round =>
    obtain ⟨k, m, hk, rfl, ht, hab, hml2, hG⟩ := hrel
    have hsz := ht.lt
    have HT := hid ht
    have HI2 := hid hab
    clear ht hab HT4 HI G4
    by_cases hlt : k < xs.length
    · obtain ⟨b1, off, rfl, hb1, hcs⟩ := HR.out.at_ (k := k) (by simpa using hlt)
      have e0 := hG.cell (hcs k (.string xs[k]) (by rw [List.getElem?_map, List.getElem?_eq_getElem hlt]; rfl)) (by show ¬ w1.heap.size ≤ b1; omega)
      have hok := HS.out xs[k] (List.getElem_mem hlt)
      obtain ⟨s, hs⟩ : ∃ s, s = xs[k] := ⟨_, rfl⟩
      rw [← hs] at e0 hok
      have HOK := hid hok
      clear hs hcs hok
      go_wp2_with fail
      refine (of_t1 w1.heap.size _ _ _ _ HT.out (by omega) HOK.out (by omega)).mono ?_
      rintro e w5 ⟨rfl, t5, g5⟩
      have HT5 := hid t5
      have hl5 := addT_length m s
      clear t5
      go_wp2_with fail
      go_roundw
      case rel => exact ⟨k + 1, addT m s, by omega, by go_num, HT5.out, ⟨pos_grow HI2.out.a, pos_grow HI2.out.b⟩, by omega, hG.trans g5⟩
      case measure => simp [intOf]; omega
    · have h0 := pos_lt HI2.out.a
      have hqm := pos_lt HI2.out.b
      have ea := pos_get HI2.out.a
      have eb := pos_get HI2.out.b
      have EA := hid ea
      have EB := hid eb
      have hna : numT m a = 1 := by unfold numT; rw [HI2.out.a]; rfl
      have hsame : addT m a = m := addT_some HI2.out.a
      have HNA := hid hna
      have HSM := hid hsame
      clear ea eb hna hsame
      go_wp2_with fail
      refine (text_ok_t1 w1.heap.size _ _ _ 0 HT.out h0 (by omega)).mono ?_
      rintro e w5 ⟨rfl, rfl⟩
      rw [EA.out]
      go_wp2_with fail
      refine (text_ok_t1 w1.heap.size _ _ _ q HT.out hqm (by omega)).mono ?_
      rintro e w5 ⟨rfl, rfl⟩
      rw [EB.out]
      go_wp2_with fail
      refine (text_nil _ _).mono ?_
      rintro e w5 ⟨rfl, rfl⟩
      go_wp2_with fail
      refine (known_nil _ _).mono ?_
      rintro e w5 ⟨rfl, rfl⟩
      rcases HAB.out with ⟨rfl, rfl⟩ | ⟨hab, rfl⟩
      · go_wp2_with fail
        refine (of_t1 w1.heap.size _ _ _ _ HT.out (by omega) HA.out (by omega)).mono ?_
        rintro e w5 ⟨rfl, t5, g5⟩
        rw [HNA.out]
        clear t5
        go_wp2_with fail
        refine (of_nil _ _).mono ?_
        rintro e w6 ⟨rfl, rfl⟩
        go_wp2_with fail
        refine (len_nil _).mono ?_
        rintro e w6 ⟨rfl, g6⟩
        go_wp2_with fail
        refine (bytes_nil _).mono ?_
        rintro e w7 ⟨rfl, g7⟩
        go_wp2_with fail
        go_ret
        exact ⟨rfl, (((hG.trans g5).into g6 (fun _ _ h => h.elim)).into g7 (fun _ _ h => h.elim)).below (Nat.le_refl _) (fun k hk h => by omega)⟩
      · have hne := ba_ne hab
        go_wp2_with fail
        refine (of_t1 w1.heap.size _ _ _ _ HT.out (by omega) HA.out (by omega)).mono ?_
        rintro e w5 ⟨rfl, t5, g5⟩
        rw [HNA.out]
        clear t5
        go_wp2_with fail
        refine (of_nil _ _).mono ?_
        rintro e w6 ⟨rfl, rfl⟩
        go_wp2_with fail
        refine (len_nil _).mono ?_
        rintro e w6 ⟨rfl, g6⟩
        go_wp2_with fail
        refine (bytes_nil _).mono ?_
        rintro e w7 ⟨rfl, g7⟩
        go_wp2_with fail
        go_ret
        exact ⟨rfl, (((hG.trans g5).into g6 (fun _ _ h => h.elim)).into g7 (fun _ _ h => h.elim)).below (Nat.le_refl _) (fun k hk h => by omega)⟩
end Go.Proofs.Ytppcpemenebamaa
