/-
  LedgerPlays answers true for every input, and leaves its arguments as they were.
  Conditions: none beyond the given row's.
-/
import Derived.Test.YtmhclhbiemifdaaRows
import Derived.Test.YtmhclhbiemifdaaPlays
import Derived.WalkKit
import Derived.ProofKit
import Derived.OpenShut
import Derived.ShutString
namespace Go.Proofs.Ytmhclhbiemifdaa.ledgerPlays
open Go.ChangeShapes Go.WideShapes Go.ChangeAt Go.RowKit
open Go.ChangeMaps (open_string shut_string)
set_option linter.unusedVariables false

theorem own : ownKnob Try.prog.godebug = none := by kernel_rfl
theorem laidOut : laidOutB Try.prog = true := by kernel_rfl

theorem big (A : Option Addr) (n cap : Nat) (B0 q : Int) (w : World) (hn : 100 < n) :
    Calls Try.prog 5 #[.int .i64 B0, .slice A n cap, .int .i64 q] w fun e w' => e = .returned (.bool true) ∧ Below w.heap.size w w' := by
  go_enter Try.func5, Try.ntmps5
  go_wp2_with fail
  refine (alive_any _).mono ?_
  rintro e w1 ⟨rfl, g1⟩
  go_wp2_with fail
  go_ret
  exact ⟨rfl, g1.below (Nat.le_refl _) (fun _ _ h => h)⟩
theorem bad (A : Option Addr) (n cap : Nat) (B0 q : Int) (w : World) (hn : n ≤ 100) (hB : B0 < 0 ∨ 1099511627776 < B0) :
    Calls Try.prog 5 #[.int .i64 B0, .slice A n cap, .int .i64 q] w fun e w' => e = .returned (.bool true) ∧ Below w.heap.size w w' := by
  have HBB := hid hB
  clear hB
  go_enter Try.func5, Try.ntmps5
  go_wp2_with fail
  refine (alive_any _).mono ?_
  rintro e w1 ⟨rfl, g1⟩
  go_wp2_with fail
  refine (new_no B0 _ HBB.out).mono ?_
  rintro e w2 ⟨rfl, g2⟩
  have hF : Below w.heap.size w w2 := (g1.trans g2).below (Nat.le_refl _) (fun _ _ h => h)
  rcases HBB.out with hB | hB
  · clear HBB
    go_wp2_with fail
    go_ret
    exact ⟨rfl, hF⟩
  · clear HBB
    have hB' : ¬ B0 < 0 := by omega
    go_wp2_with fail
    go_ret
    exact ⟨rfl, hF⟩
theorem walk (A : Option Addr) (len cap : Nat) (xs : List (Int × Int)) (B0 q : Int) (w : World) (h : IsActs w A len xs) (hB : (Lit.int .i64 B0).wf = true) (hq : (Lit.int .i64 q).wf = true) :
    Calls Try.prog 5 #[.int .i64 B0, .slice A len cap, .int .i64 q] w fun e w' => e = .returned (.bool true) ∧ Below w.heap.size w w' := by
  obtain ⟨rfl, h2, h3⟩ := h
  have hq' := bounds_i64 hq
  by_cases hn : 100 < xs.length
  · exact big A _ cap B0 q w hn
  · by_cases hb : B0 < 0 ∨ 1099511627776 < B0
    · exact bad A _ cap B0 q w (by omega) hb
    · exact plays_any A cap xs B0 q w h2 (by omega) (by omega) (by omega) (fun x hx => by have h4 := bounds_i64 (h3 x hx).1; have h5 := bounds_i64 (h3 x hx).2; omega) (by omega) (by omega)

set_option maxRecDepth 100000 in
theorem lifted (os : Os) (started : os.Started) (H : Type) (enc : TypeId × Value → H) :
    ReturnsInHanded {} Try.checked os 5 .any (Rows.ledgerPlaysSpec.pre6 enc Try.prog Try.f5 Rows.ledgerPlaysRow.domain false) (Rows.ledgerPlaysSpec.post enc Try.prog Try.f5 false true false false) := by
  refine returnsInHanded_of_change (C := Try.checked) own started (by kernel_rfl) Try.func5
    (ChangeSpec.witness6 (enc := enc) (C := Try.checked) false ⟨#[], #[.int .i64 0, .slice none 0 0, .int .i64 0], []⟩ 8 (by kernel_rfl) (by kernel_rfl) (by kernel_rfl) (by kernel_rfl)) ?_
  intro W base args ds gs before hval0 hW hcnd hsz
  have hval : ∀ (j : Nat) t v, Try.f5.params[j]? = some t → args[j]? = some v → Value.okWide Try.prog W .any base t v := hval0
  have hW' := hW
  obtain ⟨p, q, hA0, hV, rfl, hfz, hnd⟩ := hW
  have hA : DataW.TrodAll enc Try.prog W 0 (fun _ => true) true Try.f5.params.toList args.toList ds p := hA0
  rw [Try.params5] at hA hval
  obtain ⟨v0, vs0, d0, ds0, p0, q0, hargs, rfl, rfl, h0, r0⟩ := trodAll_cons hA
  obtain ⟨v1, vs1, d1, ds1, p1, q1, rfl, rfl, rfl, h1, r1⟩ := trodAll_cons r0
  obtain ⟨v2, vs2, d2, ds2, p2, q2, rfl, rfl, rfl, h2, r2⟩ := trodAll_cons r1
  obtain ⟨rfl, rfl, rfl⟩ := trodAll_nil r2
  obtain rfl : args = #[v0, v1, v2] := by cases args; simp_all
  obtain ⟨rfl, rfl⟩ := trodVars_none hV
  have k0 := h0
  have lt0 : ∀ x ∈ p0, x.block < W.heap.size := by obtain ⟨m, hm⟩ := k0; exact DataW.trod_lt m _ _ _ hm
  have k1 := h1
  have lt1 : ∀ x ∈ p1, x.block < W.heap.size := by obtain ⟨m, hm⟩ := k1; exact DataW.trod_lt m _ _ _ hm
  have k2 := h2
  have lt2 : ∀ x ∈ p2, x.block < W.heap.size := by obtain ⟨m, hm⟩ := k2; exact DataW.trod_lt m _ _ _ hm
  obtain ⟨B, rfl, rfl, rfl, w0⟩ := open_int Try.underlying3 (hval 0 3 v0 rfl rfl) h0
  obtain ⟨a1, len1, cap1, rfl⟩ := okWide_slice Try.underlying36 (hval 1 36 v1 rfl rfl)
  obtain ⟨xs1, w1⟩ : ∃ xs, IsActs W a1 len1 xs := by
    obtain ⟨fuel, hf⟩ := h1
    exact acts_open hf
  obtain ⟨q, rfl, rfl, rfl, w2⟩ := open_int Try.underlying3 (hval 2 3 v2 rfl rfl) h2
  clear hA0 hval0
  refine (walk a1 len1 cap1 xs1 B q W w1 w0 w2).mono fun e W' ⟨he, bel⟩ => ?_
  subst he
  exact ⟨_, rfl, _, _, _, [], _, [], hW', trodAll_mk1 (shut_bool Try.underlying4 _), (trodAll_cons_mk (Below.trod laidOut (by kernel_rfl) (of_decide_eq_true (by kernel_rfl)) k0 bel lt0) (trodAll_cons_mk (Below.trod laidOut (by kernel_rfl) (of_decide_eq_true (by kernel_rfl)) k1 bel lt1) (trodAll_cons_mk (Below.trod laidOut (by kernel_rfl) (of_decide_eq_true (by kernel_rfl)) k2 bel lt2) trodAll_mk0))), rfl, bel.frame _, fun h => by cases h⟩

theorem over : Rows.ledgerPlaysRow.holds Try.pinned (OpenSpec.ofChange Rows.ledgerPlaysSpec) :=
  OpenClaim.holds_of_wide 5 Try.f5 rfl rfl rfl rfl rfl rfl rfl ⟨rfl, rfl, rfl, rfl, rfl⟩ rfl rfl rfl rfl rfl (by kernel_rfl) Try.func5 (by kernel_rfl)
    (of_decide_eq_true (by kernel_rfl)) (by unfold Func.isWrapper; first | (rw [if_pos (by decide +kernel)]; kernel_rfl) | (rw [if_neg (by decide +kernel)]; exact ⟨rfl, rfl⟩))
    (fun os started H enc _ => lifted os started H enc)

end Go.Proofs.Ytmhclhbiemifdaa.ledgerPlays
namespace Go.Proofs.Ytmhclhbiemifdaa
theorem ledgerPlays_holds : Rows.LedgerPlaysSaid := ledgerPlays.over
#print axioms ledgerPlays_holds
end Go.Proofs.Ytmhclhbiemifdaa

