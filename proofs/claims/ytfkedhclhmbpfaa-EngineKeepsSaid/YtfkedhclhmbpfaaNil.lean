/-
  EngineNil's walk.
-/
import Derived.Test.YtfkedhclhmbpfaaAl
import Derived.Test.YtfkedhclhmbpfaaFar
namespace Go.Proofs.Ytfkedhclhmbpfaa
open Go.RowKit Go.Maps
set_option linter.unusedVariables false
set_option linter.unusedSimpArgs false

def ulOf (rs : List Rule) (ks : List Int) : List Int := ks ++ rs.flatMap (fun r => r.l)
theorem ulOf_keys (rs : List Rule) (ks : List Int) : Keys rs (ulOf rs ks) := fun r hr d hd => List.mem_append_right _ (List.mem_flatMap.2 ⟨r, hr, hd⟩)
theorem ulOf_mem {rs : List Rule} {ks : List Int} {k : Int} (h : k ∈ ks) : k ∈ ulOf rs ks := List.mem_append_left _ h
theorem near_of {rs : List Rule} {m : Nat} (h : farM rs m = false) : rs.length ≤ 8 ∧ m ≤ 60 ∧ ∀ r ∈ rs, r.l.length ≤ 4 ∧ 0 ≤ r.kind ∧ r.kind ≤ 2 := by
  unfold farM at h
  simp only [Bool.or_eq_false_iff, decide_eq_false_iff_not, List.any_eq_false] at h
  refine ⟨by omega, by omega, fun r hr => ?_⟩
  have := h.2 r hr
  unfold farR at this
  simp only [Bool.or_eq_true, decide_eq_true_eq] at this
  omega
theorem ulOf_few {rs : List Rule} {ks : List Int} {m : Nat} (h : farM rs m = false) (hk : ks.length ≤ 1000) : (ulOf rs ks).length ≤ 90000 := by
  obtain ⟨h1, _, h2⟩ := near_of h
  have key : ∀ l : List Rule, (∀ r ∈ l, r.l.length ≤ 4) → (l.flatMap (fun r => r.l)).length ≤ 4 * l.length := by
    intro l
    induction l with
    | nil => intro _; exact Nat.le_refl _
    | cons x r ih =>
      intro hl
      have h1 := ih (fun y hy => hl y (List.mem_cons_of_mem _ hy))
      have h2 := hl x List.mem_cons_self
      rw [List.flatMap_cons, List.length_append, List.length_cons]
      omega
  have := key rs (fun r hr => (h2 r hr).1)
  unfold ulOf
  rw [List.length_append]
  omega
/-- What came in is a rules' list. -/
theorem RuleRow.rules {w : World} {A : Option Addr} {rs : List Rule} {m : Nat} (h : RuleRow w A rs) (hf : farM rs m = false) (hok : ∀ r ∈ rs, ok r.kind ∧ ∀ d ∈ r.l, ok d) : RulesAt w (fun k => w.heap.size ≤ k) A rs := by
  obtain ⟨h1, _, h2⟩ := near_of hf
  refine ⟨by omega, fun r hr => by have := (h2 r hr).1; omega, hok, fun i r hi => ?_⟩
  obtain ⟨b, off, A', cap', rfl, e1, e2, h3⟩ := h i r hi
  have l1 := lt_of_cell e1
  refine ⟨b, off, A', cap', rfl, by dsimp only at l1; omega, e1, e2, fun j d hj => ?_⟩
  obtain ⟨b', off', rfl, h4⟩ := h3 j d hj
  have l2 := lt_of_cell (h4 j d hj)
  exact ⟨b', off', rfl, by dsimp only at l2; omega, h4⟩
theorem RuleRow.chg {S : Nat → Prop} {w w' : World} {A : Option Addr} {rs : List Rule} (h : RuleRow w A rs) (hc : Chg S w w') (hs : ∀ k, k < w.heap.size → ¬ S k) : RuleRow w' A rs := by
  intro i r hi
  obtain ⟨b, off, A', cap', rfl, e1, e2, h3⟩ := h i r hi
  refine ⟨b, off, A', cap', rfl, hc.cell e1 (hs _ (lt_of_cell e1)), hc.cell e2 (hs _ (lt_of_cell e2)), fun j d hj => ?_⟩
  obtain ⟨b', off', rfl, h4⟩ := h3 j d hj
  exact ⟨b', off', rfl, fun j d hj => hc.cell (h4 j d hj) (hs _ (lt_of_cell (h4 j d hj)))⟩

theorem nil_scene {rs : List Rule} {m : Nat} (hf : farM rs m = false) (k : Int) (v : ByteArray) : ∃ s1 t e s2 s3, askTop rs (rs.length + 1) (newM 100) k = some (s1, t, e) ∧ setM s1 k v = some s2 ∧ askTop rs (rs.length + 1) s2 k = some (s3, v, 0) ∧ s3.rev = 1 ∧ setM s3 k v = some s3 := by
  have hU := ulOf_keys rs [k]
  have hk : k ∈ ulOf rs [k] := ulOf_mem List.mem_cons_self
  obtain ⟨s1, t, e, h1, h2, h3, h4, h5⟩ := top_ask hU (new_fine (rs := rs) (ulOf_few hf (by simp)) (n := 100) (by omega)) hk (Nat.lt_succ_self _)
  have r1 : s1.rev = 0 := h3.rev
  obtain ⟨s2, g1, g2, g3, g4, g5, g6, g7⟩ := top_set h2 k v (by omega)
  have hi : s1.inp k = none := by
    have := h3.inputs
    unfold St.inp
    rw [this]
    rfl
  rcases g7 with ⟨g7, _⟩ | ⟨_, g8, g9, _⟩
  · rw [hi] at g7; cases g7
  · obtain ⟨s3, t3, e3, f1, f2, f3, f4, f5⟩ := top_ask hU g2 hk (Nat.lt_succ_self _)
    have hi2 : s2.inp k = some v := by
      unfold St.inp
      rw [g9]
      unfold setF
      simp
    have hv := val_in (rs := rs) hi2
    rcases f5 with ⟨rfl, f6, _⟩ | ⟨_, _, f6⟩
    · rw [hv] at f6
      obtain rfl := Option.some.inj f6
      refine ⟨s1, t, e, s2, s3, h1, g1, f1, ?_, ?_⟩
      · have : s3.rev = s2.rev := f3.rev
        omega
      · unfold setM
        have hi3 : s3.inputs = s2.inputs := f3.inputs
        rw [hi3]; exact if_pos hi2
    · rw [hv] at f6; cases f6

set_option maxRecDepth 100000 in
set_option maxHeartbeats 8000000 in
theorem nil_any (A : Option Addr) (rs : List Rule) (cap : Nat) (k n : Int) (w : World) (h : RuleRow w A rs) (hl : rs.length ≤ 9223372036854775807) (hll : ∀ r ∈ rs, r.l.length ≤ 9223372036854775807) (hok : ∀ r ∈ rs, ok r.kind ∧ ∀ d ∈ r.l, ok d) (hk : ok k) (hn : (Lit.int .u8 n).wf = true) :
    Calls Try.prog 7 #[.slice A rs.length cap, enc k, .int .u8 n] w fun e w' => e = .returned (.bool true) ∧ Below w.heap.size w w' := by
  have HH := hid h
  have HOK := hid hok
  have bn := bounds_u8 hn
  have hq1 : ∀ W : World, (binOp .neq 39 (.agg #[.int .i64 0, .int .i64 0, .int .i64 0, .int .i64 0, .int .i64 0, .int .i64 0, .int .i64 0, .int .i64 0, .int .i64 0]) (.agg #[.int .i64 0, .int .i64 0, .int .i64 0, .int .i64 0, .int .i64 0, .int .i64 0, .int .i64 0, .int .i64 0, .int .i64 0])).run Try.prog W = .ok (.bool false) W := fun W => by kernel_rfl
  have HLL := hid hll
  clear h hok hn hll
  go_enter Try.func7, Try.ntmps7
  go_wp2_with fail
  refine (alive_any _).mono ?_
  rintro e w1 ⟨rfl, g1⟩
  have HG1 := hid g1
  clear g1
  go_wp2_with fail
  refine (far_any A none rs cap 0 0 w1 (HH.out.chg HG1.out (fun _ _ h => h)) hl (by omega) HLL.out (fun r hr => (HOK.out r hr).1)).mono ?_
  rintro e w2 ⟨rfl, rfl⟩
  cases hf : farM rs 0 with
  | true =>
    go_wp2_with fail
    go_ret
    exact ⟨rfl, HG1.out.below (Nat.le_refl _) (fun _ _ h => h)⟩
  | false =>
    have HR := hid ((HH.out.chg HG1.out (fun _ _ h => h)).rules hf HOK.out)
    obtain ⟨s1, t, er, s2, s3, m1, m2, m3, m4, m5⟩ := nil_scene hf k (valueM n)
    have M1 := hid m1
    have M2 := hid m2
    have M3 := hid m3
    have M4 := hid m4
    have M5 := hid m5
    clear m1 m2 m3 m4 m5 HH HOK HLL hf
    go_wp2_with fail
    refine (Set_nil w1 1 _).mono ?_
    rintro e w2 ⟨rfl, rfl⟩
    go_wp2_with fail
    refine (Forget_nil w1).mono ?_
    rintro e w2 ⟨rfl, rfl⟩
    go_wp2_with fail
    refine (Ask_nil w1 1).mono ?_
    rintro e w2 ⟨rfl, rfl⟩
    go_wp2_with fail
    refine (Budget_nil w1 1).mono ?_
    rintro e w2 ⟨rfl, rfl⟩
    go_wp2_with fail
    refine (Numbers_nil w1).mono ?_
    rintro e w2 ⟨rfl, g2⟩
    have HR2 := hid (HR.out.chg (F' := fun k => w2.heap.size ≤ k) (g2.weaken (fun _ _ h => h.elim)) (fun k hk => .inr (by have := g2.size; omega)))
    have HG2 := hid (HG1.out.trans g2)
    have z2 := HG2.out.size
    clear g2 HR HG1
    go_wp2_with fail
    refine (liv_new (cap := cap) (B := w2.heap.size) (P := fun _ => False) HR2.out (Nat.le_refl _) (fun _ h => h.elim) (n := 100) (by omega) (by omega)).mono ?_
    rintro e w3 ⟨L, rfl, h3, g3⟩
    have H3 := hid h3
    have HC3 := hid (show Chg (fun k => w2.heap.size ≤ k) w2 w3 from g3.weaken (fun _ _ h => h.elim))
    have z3 := g3.size
    clear h3 g3
    go_wp2_with fail
    refine (liv_ask H3.out z3 (fun _ h => h.elim) hk M1.out).mono ?_
    rintro e w4 ⟨rfl, -, h4, g4⟩
    have H4 := hid h4
    have HC4 := hid (HC3.out.trans (g4.weaken (fun _ _ h => h.1)))
    have z4 := HC4.out.size
    clear h4 g4 H3 HC3 z3
    go_wp2_with fail
    refine (value_is n w4 (by omega)).mono ?_
    rintro e w5 ⟨rfl, g5⟩
    have H5 := hid (H4.out.mono g5)
    have HC5 := hid (HC4.out.trans (g5.weaken (fun _ _ h => h.elim)))
    have z5 := HC5.out.size
    clear g5 H4 HC4 z4
    go_wp2_with fail
    refine (liv_set H5.out z5 (fun _ h => h.elim) hk (by have := valueM_size n; omega) M2.out).mono ?_
    rintro e w6 ⟨rfl, h6, g6⟩
    have H6 := hid h6
    have HC6 := hid (HC5.out.trans (g6.weaken (fun _ _ h => h.1)))
    have z6 := HC6.out.size
    clear h6 g6 H5 HC5 z5
    go_wp2_with fail
    refine (liv_ask H6.out z6 (fun _ h => h.elim) hk M3.out).mono ?_
    rintro e w7 ⟨rfl, -, h7, g7⟩
    have H7 := hid h7
    have HC7 := hid (HC6.out.trans (g7.weaken (fun _ _ h => h.1)))
    have z7 := HC7.out.size
    clear h7 g7 H6 HC6 z6
    go_wp2_with fail
    refine (liv_nums H7.out).mono ?_
    rintro e w8 ⟨rfl, h8, g8⟩
    have HC8 := hid (HC7.out.trans (g8.weaken (fun _ _ h => h.elim)))
    have z8 := HC8.out.size
    have H8 := hid h8
    have hn3 : numsV s3 = .agg #[.int .i64 1, .int .i64 (wrap64 s3.steps), .int .i64 (wrap64 s3.checks), .int .i64 (wrap64 s3.hits), .int .i64 s3.nc, .int .i64 s3.used.length, .int .i64 s3.budget, .int .i64 s3.charged, .int .i64 s3.high] := by
      unfold numsV
      rw [M4.out]
    rw [hn3]
    have HN3 := hid hn3
    clear h8 g8 H7 HC7 z7 hn3
    go_wp2_with fail
    obtain ⟨w9, hw9⟩ : ∃ w9, w8.alloc (Obj.cells #[Value.int IntKind.i64 1, Value.int IntKind.i64 (wrap64 s3.steps), Value.int IntKind.i64 (wrap64 s3.checks), Value.int IntKind.i64 (wrap64 s3.hits), Value.int IntKind.i64 s3.nc, Value.int IntKind.i64 s3.used.length, Value.int IntKind.i64 s3.budget, Value.int IntKind.i64 s3.charged, Value.int IntKind.i64 s3.high] 39) = w9 := ⟨_, rfl⟩
    obtain ⟨x, hx⟩ : ∃ x, x = w8.heap.size := ⟨_, rfl⟩
    have b9 : Blk w9 x 39 #[Value.int IntKind.i64 1, Value.int IntKind.i64 (wrap64 s3.steps), Value.int IntKind.i64 (wrap64 s3.checks), Value.int IntKind.i64 (wrap64 s3.hits), Value.int IntKind.i64 s3.nc, Value.int IntKind.i64 s3.used.length, Value.int IntKind.i64 s3.budget, Value.int IntKind.i64 s3.charged, Value.int IntKind.i64 s3.high] := by rw [← hw9, hx]; exact Blk.new w8 39 _
    have H9 := hid ((H8.out.more (P' := fun k => k = x) (fun k hk => .inr (by omega))).mono (w' := w9) (by rw [← hw9]; exact (Chg.refl _ _).alloc _))
    have HC9 := hid (show Chg (fun k => w2.heap.size ≤ k) w2 w9 by rw [← hw9]; exact HC8.out.alloc _)
    have HB9 := hid b9
    have z9 : w2.heap.size ≤ w9.heap.size := HC9.out.size
    rw [hw9, ← hx]
    clear hw9 hx b9 H8 HC8 z8
    refine (value_is n w9 (by omega)).mono ?_
    rintro e w10 ⟨rfl, g10⟩
    have H10 := hid (H9.out.mono g10)
    have HC10 := hid (HC9.out.trans (g10.weaken (fun _ _ h => h.elim)))
    have HB10 := hid (g10.blk HB9.out (fun h => h))
    have z10 := HC10.out.size
    clear g10 H9 HC9 z9 HB9
    go_wp2_with fail
    refine (liv_set H10.out z10 (fun k hk => by subst hk; exact HB10.out.lt) hk (by have := valueM_size n; omega) M5.out).mono ?_
    rintro e w11 ⟨rfl, h11, g11⟩
    have H11 := hid h11
    have HC11 := hid (HC10.out.trans (g11.weaken (fun _ _ h => h.1)))
    have HB11 := hid (g11.blk HB10.out (fun h => h.2 rfl))
    have z11 := HC11.out.size
    clear h11 g11 H10 HC10 z10 HB10
    go_wp2_with fail
    refine (liv_nums H11.out).mono ?_
    rintro e w12 ⟨rfl, h12, g12⟩
    have HC12 := hid (HC11.out.trans (g12.weaken (fun _ _ h => h.elim)))
    have HB12 := hid (g12.blk HB11.out (fun h => h))
    rw [HN3.out]
    clear h12 g12 H11 HC11 z11 HB11
    go_wp2_with fail
    obtain ⟨w13, hw13⟩ : ∃ w13, w12.alloc (Obj.cells #[Value.int IntKind.i64 1, Value.int IntKind.i64 (wrap64 s3.steps), Value.int IntKind.i64 (wrap64 s3.checks), Value.int IntKind.i64 (wrap64 s3.hits), Value.int IntKind.i64 s3.nc, Value.int IntKind.i64 s3.used.length, Value.int IntKind.i64 s3.budget, Value.int IntKind.i64 s3.charged, Value.int IntKind.i64 s3.high] 39) = w13 := ⟨_, rfl⟩
    obtain ⟨y, hy⟩ : ∃ y, y = w12.heap.size := ⟨_, rfl⟩
    have b13 : Blk w13 y 39 #[Value.int IntKind.i64 1, Value.int IntKind.i64 (wrap64 s3.steps), Value.int IntKind.i64 (wrap64 s3.checks), Value.int IntKind.i64 (wrap64 s3.hits), Value.int IntKind.i64 s3.nc, Value.int IntKind.i64 s3.used.length, Value.int IntKind.i64 s3.budget, Value.int IntKind.i64 s3.charged, Value.int IntKind.i64 s3.high] := by rw [← hw13, hy]; exact Blk.new w12 39 _
    have HB13 := hid (show Blk w13 x 39 #[Value.int IntKind.i64 1, Value.int IntKind.i64 (wrap64 s3.steps), Value.int IntKind.i64 (wrap64 s3.checks), Value.int IntKind.i64 (wrap64 s3.hits), Value.int IntKind.i64 s3.nc, Value.int IntKind.i64 s3.used.length, Value.int IntKind.i64 s3.budget, Value.int IntKind.i64 s3.charged, Value.int IntKind.i64 s3.high] by rw [← hw13]; exact HB12.out.alloc _)
    have HC13 := hid (show Chg (fun k => w2.heap.size ≤ k) w2 w13 by rw [← hw13]; exact HC12.out.alloc _)
    have HD13 := hid b13
    rw [hw13, ← hy]
    clear hw13 hy b13 HB12 HC12
    refine (New_bad A rs cap w13 (-1) (.inl (by omega))).mono ?_
    rintro e w14 ⟨rfl, g14⟩
    have hx0 : w14.cell? ⟨x, 0, none⟩ = some (.int .i64 1) := by rw [(g14.blk HB13.out (fun h => h)).cell]; rfl
    have hy0 : w14.cell? ⟨y, 0, none⟩ = some (.int .i64 1) := by rw [(g14.blk HD13.out (fun h => h)).cell]; rfl
    have HC14 := hid (HC13.out.trans (g14.weaken (fun _ _ h => h.elim)))
    have HX := hid hx0
    have HY := hid hy0
    clear hx0 hy0 g14 HC13 HB13 HD13
    go_wp2_with fail
    refine (value_is n w14 (by omega)).mono ?_
    rintro e w15 ⟨rfl, g15⟩
    have hx0 := g15.cell HX.out (fun h => h)
    have hy0 := g15.cell HY.out (fun h => h)
    have HC15 := hid (HC14.out.trans (g15.weaken (fun _ _ h => h.elim)))
    clear g15 HC14
    go_wp2_with fail
    go_ret
    have hb := HG2.out.size
    exact ⟨rfl, (HG2.out.trans (S := fun _ => False) (Chg.refl _ _)).below (Nat.le_refl _) (fun _ _ h => h) |>.trans (HC15.out.below hb (fun k hk h => by omega))⟩
end Go.Proofs.Ytfkedhclhmbpfaa
