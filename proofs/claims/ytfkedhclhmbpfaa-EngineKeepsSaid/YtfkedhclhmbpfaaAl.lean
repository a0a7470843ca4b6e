/-
  alive: the chapter's example.
-/
import Derived.Test.YtfkedhclhmbpfaaLiv
namespace Go.Proofs.Ytfkedhclhmbpfaa
open Go.RowKit Go.Maps
set_option linter.unusedVariables false
set_option linter.unusedSimpArgs false

abbrev seven : ByteArray := ⟨#[55]⟩
def rs1 : List Rule := [⟨0, [1]⟩, ⟨0, []⟩]
def sceneB : Bool := match setM (newM 0) 1 seven with
  | none => false
  | some s1 => match askTop rs1 3 s1 0 with
    | none => false
    | some (s2, a, e) => match askTop rs1 3 s2 0 with
      | none => false
      | some (s3, b, f) => decide (a = seven) && decide (e = 0) && decide (b = seven) && decide (f = 0) && decide (s3.steps = 2) && decide (s3.used = [])
theorem scene : ∃ s1 s2 s3, setM (newM 0) 1 seven = some s1 ∧ askTop rs1 3 s1 0 = some (s2, seven, 0) ∧ askTop rs1 3 s2 0 = some (s3, seven, 0) ∧ s3.steps = 2 ∧ s3.used = [] := by
  have h : sceneB = true := by decide +kernel
  unfold sceneB at h
  split at h
  · cases h
  · rename_i s1 h1
    split at h
    · cases h
    · rename_i s2 a e h2
      split at h
      · cases h
      · rename_i s3 b f h3
        simp only [Bool.and_eq_true, decide_eq_true_eq] at h
        obtain ⟨⟨⟨⟨⟨rfl, rfl⟩, rfl⟩, rfl⟩, h4⟩, h5⟩ := h
        exact ⟨s1, s2, s3, h1, h2, h3, h4, h5⟩

set_option maxRecDepth 100000 in
set_option maxHeartbeats 4000000 in
theorem alive_any (w : World) : Calls Try.prog 9 #[] w fun e w' => e = .returned (.bool true) ∧ Chg (fun _ => False) w w' := by
  obtain ⟨s1, s2, s3, m1, m2, m3, m4, m5⟩ := scene
  have M1 := hid m1
  have M2 := hid m2
  have M3 := hid m3
  have M4 := hid m4
  have M5 := hid m5
  clear m1 m2 m3 m4 m5
  go_enter Try.func9, Try.ntmps9
  go_wp2_with fail
  obtain ⟨w0, hw0⟩ : ∃ w0, (w.alloc (Obj.cells #[Value.int IntKind.i64 1] 3)).alloc (Obj.cells #[Value.int IntKind.i64 0, Value.slice (some { block := w.heap.size, off := 0 }) 1 1, Value.int IntKind.i64 0, Value.slice none 0 0] 43) = w0 := ⟨_, rfl⟩
  have g0 : Chg (fun _ => False) w w0 := by rw [← hw0]; exact ((Chg.refl _ _).alloc _).alloc _
  have hz0 : w0.heap.size = w.heap.size + 2 := by rw [← hw0]; simp
  have b0 : Blk w0 w.heap.size 3 #[Value.int IntKind.i64 1] := by rw [← hw0]; exact (Blk.new w 3 _).alloc _
  have b1 : Blk w0 (w.heap.size + 1) 43 #[Value.int IntKind.i64 0, Value.slice (some { block := w.heap.size, off := 0 }) 1 1, Value.int IntKind.i64 0, Value.slice none 0 0] := by
    rw [← hw0]
    have := Blk.new (w.alloc (Obj.cells #[Value.int IntKind.i64 1] 3)) 43 #[Value.int IntKind.i64 0, Value.slice (some { block := w.heap.size, off := 0 }) 1 1, Value.int IntKind.i64 0, Value.slice none 0 0]
    rwa [World.size_alloc] at this
  rw [hw0]
  have hR : RulesAt w0 (fun k => w0.heap.size ≤ k) (some ⟨w.heap.size + 1, 0, none⟩) rs1 := by
    refine ⟨by decide, by decide, by decide, fun i r hi => ?_⟩
    match i, hi with
    | 0, hi =>
      obtain rfl := Option.some.inj hi
      refine ⟨w.heap.size + 1, 0, some ⟨w.heap.size, 0, none⟩, 1, rfl, by omega, by rw [b1.cell]; rfl, by rw [b1.cell]; rfl, fun j d hj => ⟨w.heap.size, 0, rfl, by omega, fun j d hj => ?_⟩⟩
      match j, hj with
      | 0, hj => obtain rfl := Option.some.inj hj; rw [b0.cell]; rfl
    | 1, hi =>
      obtain rfl := Option.some.inj hi
      exact ⟨w.heap.size + 1, 0, none, 0, rfl, by omega, by rw [b1.cell]; rfl, by rw [b1.cell]; rfl, fun j d hj => by cases hj⟩
  have HR0 := hid hR
  have HG0 := hid g0
  clear hw0 g0 hz0 b0 b1 hR
  refine (liv_new (cap := 2) (B := w0.heap.size) (P := fun _ => False) HR0.out (Nat.le_refl _) (fun _ h => h.elim) (n := 0) (by omega) (by omega)).mono ?_
  rintro e w1 ⟨L, rfl, h1, g1⟩
  have H1 := hid h1
  have z1 := g1.size
  have HG1 := hid (HG0.out.trans g1)
  have HC1 := hid (show Chg (fun k => w0.heap.size ≤ k ∧ ¬ False) w0 w1 from g1.weaken (fun _ _ h => h.elim))
  clear h1 g1 HR0
  go_wp2_with fail
  refine (liv_set H1.out z1 (fun _ h => h.elim) (k := 1) (by decide) (by decide) M1.out).mono ?_
  rintro e w2 ⟨rfl, h2, g2⟩
  have H2 := hid h2
  have HC2 := hid (HC1.out.trans g2)
  have z2 := HC2.out.size
  clear h2 g2 H1
  go_wp2_with fail
  refine (liv_ask H2.out z2 (fun _ h => h.elim) (k := 0) (by decide) M2.out).mono ?_
  rintro e w3 ⟨rfl, -, h3, g3⟩
  have H3 := hid h3
  have HC3 := hid (HC2.out.trans g3)
  have z3 := HC3.out.size
  clear h3 g3 H2
  go_wp2_with fail
  refine (liv_ask H3.out z3 (fun _ h => h.elim) (k := 0) (by decide) M3.out).mono ?_
  rintro e w4 ⟨rfl, -, h4, g4⟩
  have H4 := hid h4
  have HC4 := hid (HC3.out.trans g4)
  clear h4 g4 H3
  go_wp2_with fail
  refine (liv_nums H4.out).mono ?_
  rintro e w5 ⟨rfl, h5, g5⟩
  have HC5 := hid (HC4.out.trans (g5.weaken (fun _ _ h => h.elim)))
  have hn : numsV s3 = .agg #[.int .i64 s3.rev, .int .i64 2, .int .i64 (wrap64 s3.checks), .int .i64 (wrap64 s3.hits), .int .i64 s3.nc, .int .i64 0, .int .i64 s3.budget, .int .i64 s3.charged, .int .i64 s3.high] := by
    unfold numsV
    rw [M4.out, M5.out, show wrap64 2 = 2 by unfold wrap64; omega]
    rfl
  rw [hn]
  clear h5 g5 H4 hn
  go_wp2_with fail
  obtain ⟨w6, hw6⟩ : ∃ w6, w5.alloc (Obj.cells #[Value.int IntKind.i64 s3.rev, Value.int IntKind.i64 2, Value.int IntKind.i64 (wrap64 s3.checks), Value.int IntKind.i64 (wrap64 s3.hits), Value.int IntKind.i64 s3.nc, Value.int IntKind.i64 0, Value.int IntKind.i64 s3.budget, Value.int IntKind.i64 s3.charged, Value.int IntKind.i64 s3.high] 39) = w6 := ⟨_, rfl⟩
  have b6 : Blk w6 w5.heap.size 39 #[Value.int IntKind.i64 s3.rev, Value.int IntKind.i64 2, Value.int IntKind.i64 (wrap64 s3.checks), Value.int IntKind.i64 (wrap64 s3.hits), Value.int IntKind.i64 s3.nc, Value.int IntKind.i64 0, Value.int IntKind.i64 s3.budget, Value.int IntKind.i64 s3.charged, Value.int IntKind.i64 s3.high] := by rw [← hw6]; exact Blk.new w5 39 _
  have n1 : w6.cell? ⟨w5.heap.size, 1, none⟩ = some (.int .i64 2) := by rw [b6.cell]; rfl
  have n5 : w6.cell? ⟨w5.heap.size, 5, none⟩ = some (.int .i64 0) := by rw [b6.cell]; rfl
  have HC6 := hid (show Chg (fun k => w0.heap.size ≤ k ∧ ¬ False) w0 w6 by rw [← hw6]; exact HC5.out.alloc _)
  rw [hw6]
  clear hw6 b6
  refine (New_nil w6 0).mono ?_
  rintro e w7 ⟨rfl, rfl⟩
  go_wp2_with fail
  go_ret
  refine ⟨rfl, HG0.out.trans (HC6.out.weaken (fun k hk h => by omega))⟩
end Go.Proofs.Ytfkedhclhmbpfaa
