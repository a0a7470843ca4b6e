/-
  Lists of keys that are a call's own.
-/
import Derived.Test.YtfkedhclhmbpfaaLII
namespace Go.Proofs.Ytfkedhclhmbpfaa.LI
open Go.RowKit Go.Maps Go.Shelf
set_option linter.unusedVariables false
set_option linter.unusedSimpArgs false

/-- The blocks from base on, but for those of P. -/
def Sx (base : Nat) (P : List Nat) : Nat → Prop := fun k => base ≤ k ∧ k ∉ P
/-- A list of the call's own. -/
def T1 (base : Nat) (P : List Nat) (w : World) (a : Nat) (la : List Int) : Prop := ∃ F, Lst w a F la ∧ ∀ k, F k → Sx base P k
/-- Two of them. -/
def T2 (base : Nat) (P : List Nat) (w : World) (a : Nat) (la : List Int) (b : Nat) (lb : List Int) : Prop :=
  ∃ F G, Lst w a F la ∧ Lst w b G lb ∧ (∀ k, F k → Sx base P k) ∧ (∀ k, G k → Sx base P k) ∧ ∀ k, F k → ¬ G k
section
variable {base : Nat} {P : List Nat} {w w' : World} {a b : Nat} {la lb : List Int}
theorem T1.nodup (h : T1 base P w a la) : la.Nodup := by obtain ⟨F, h, _⟩ := h; exact h.nodup
theorem T1.good (h : T1 base P w a la) : ∀ k ∈ la, ok k := by obtain ⟨F, h, _⟩ := h; exact h.good
theorem T1.lt (h : T1 base P w a la) : a < w.heap.size := by
  obtain ⟨F, ⟨⟨g, cap, mb, N, ky, nx, pv, fv, ps, fr, f, hm⟩, h1, h2, h3⟩, _⟩ := h
  exact h3 _ hm.fb
theorem T1.chg (h : T1 base P w a la) (hc : Chg (fun _ => False) w w') : T1 base P w' a la := by
  obtain ⟨F, h1, h2⟩ := h
  exact ⟨F, h1.chg hc (fun _ _ h => h), h2⟩
theorem T1.skip (h : T1 base P w a la) {g : Nat} (hg : w.heap.size ≤ g) (hc : Chg (fun _ => False) w w') : T1 base (g :: P) w' a la := by
  obtain ⟨F, h1, h2⟩ := h
  refine ⟨F, h1.chg hc (fun _ _ h => h), fun k hk => ⟨(h2 k hk).1, fun hm => ?_⟩⟩
  rcases List.mem_cons.1 hm with rfl | hm
  · have := h1.lt k hk
    omega
  · exact (h2 k hk).2 hm
theorem T2.left (h : T2 base P w a la b lb) : T1 base P w a la := by obtain ⟨F, G, h1, h2, h3, h4, h5⟩ := h; exact ⟨F, h1, h3⟩
theorem T2.right (h : T2 base P w a la b lb) : T1 base P w b lb := by obtain ⟨F, G, h1, h2, h3, h4, h5⟩ := h; exact ⟨G, h2, h4⟩
theorem T2.swap (h : T2 base P w a la b lb) : T2 base P w b lb a la := by obtain ⟨F, G, h1, h2, h3, h4, h5⟩ := h; exact ⟨G, F, h2, h1, h4, h3, fun k hg hf => h5 k hf hg⟩
theorem T2.chg (h : T2 base P w a la b lb) (hc : Chg (fun _ => False) w w') : T2 base P w' a la b lb := by
  obtain ⟨F, G, h1, h2, h3, h4, h5⟩ := h
  exact ⟨F, G, h1.chg hc (fun _ _ h => h), h2.chg hc (fun _ _ h => h), h3, h4, h5⟩
theorem T2.skip (h : T2 base P w a la b lb) {g : Nat} (hg : w.heap.size ≤ g) (hc : Chg (fun _ => False) w w') : T2 base (g :: P) w' a la b lb := by
  obtain ⟨F, G, h1, h2, h3, h4, h5⟩ := h
  refine ⟨F, G, h1.chg hc (fun _ _ h => h), h2.chg hc (fun _ _ h => h), fun k hk => ⟨(h3 k hk).1, fun hm => ?_⟩, fun k hk => ⟨(h4 k hk).1, fun hm => ?_⟩, h5⟩
  · rcases List.mem_cons.1 hm with rfl | hm
    · have := h1.lt k hk
      omega
    · exact (h3 k hk).2 hm
  · rcases List.mem_cons.1 hm with rfl | hm
    · have := h2.lt k hk
      omega
    · exact (h4 k hk).2 hm
end

/-- All of P lies. -/
def Lie (P : List Nat) (w : World) : Prop := ∀ p ∈ P, p < w.heap.size
theorem Lie.mono {P : List Nat} {w w' : World} (h : Lie P w) (hs : w.heap.size ≤ w'.heap.size) : Lie P w' := fun p hp => Nat.lt_of_lt_of_le (h p hp) hs
theorem Lie.sx {P : List Nat} {w : World} (h : Lie P w) {base : Nat} (hb : base ≤ w.heap.size) {k : Nat} (hk : w.heap.size ≤ k) : Sx base P k := ⟨by omega, fun hm => by have := h k hm; omega⟩
theorem Lie.nil (w : World) : Lie [] w := fun p hp => by cases hp

theorem new_t1 (base : Nat) (P : List Nat) (w : World) (hb : base ≤ w.heap.size) (hP : Lie P w) :
    Calls Try.prog 21 #[] w fun e w' => e = .returned (.pointer (some ⟨w.heap.size + 2, 0, none⟩)) ∧ T1 base P w' (w.heap.size + 2) [] ∧ Chg (fun _ => False) w w' := by
  refine (new_any w).mono ?_
  rintro e w' ⟨he, hl, hc⟩
  exact ⟨he, ⟨_, hl, fun k hk => hP.sx hb hk.1⟩, hc⟩
theorem new_t2 (base : Nat) (P : List Nat) (w : World) (a : Nat) (la : List Int) (h : T1 base P w a la) (hb : base ≤ w.heap.size) (hP : Lie P w) :
    Calls Try.prog 21 #[] w fun e w' => e = .returned (.pointer (some ⟨w.heap.size + 2, 0, none⟩)) ∧ T2 base P w' a la (w.heap.size + 2) [] ∧ Chg (fun _ => False) w w' := by
  obtain ⟨F, h1, h2⟩ := h
  refine (new_any w).mono ?_
  rintro e w' ⟨he, hl, hc⟩
  exact ⟨he, ⟨F, _, h1.chg hc (fun _ _ h => h), hl, h2, fun k hk => hP.sx hb hk.1, fun k hk hk2 => by have := h1.lt k hk; omega⟩, hc⟩
theorem use_t1 (base : Nat) (P : List Nat) (w : World) (a : Nat) (la : List Int) (k : Int) (h : T1 base P w a la) (hb : base ≤ w.heap.size) (hP : Lie P w) (hok : ok k) (hn : la.length ≤ 99990) :
    Calls Try.prog 33 #[.pointer (some ⟨a, 0, none⟩), enc k] w fun e w' => e = .returned (.tuple #[]) ∧ T1 base P w' a (useL la k) ∧ Chg (Sx base P) w w' := by
  obtain ⟨F, h1, h2⟩ := h
  refine (use_any w a F la k h1 hok hn).mono ?_
  rintro e w' ⟨he, hl, hc⟩
  exact ⟨he, ⟨_, hl, fun k hk => by rcases hk with hk | hk; exact h2 k hk; exact hP.sx hb hk.1⟩, hc.weaken (fun k _ hk => h2 k hk)⟩
theorem use_t2 (base : Nat) (P : List Nat) (w : World) (a : Nat) (la : List Int) (b : Nat) (lb : List Int) (k : Int) (h : T2 base P w a la b lb) (hb : base ≤ w.heap.size) (hP : Lie P w) (hok : ok k) (hn : la.length ≤ 99990) :
    Calls Try.prog 33 #[.pointer (some ⟨a, 0, none⟩), enc k] w fun e w' => e = .returned (.tuple #[]) ∧ T2 base P w' a (useL la k) b lb ∧ Chg (Sx base P) w w' := by
  obtain ⟨F, G, h1, h2, h3, h4, h5⟩ := h
  refine (use_any w a F la k h1 hok hn).mono ?_
  rintro e w' ⟨he, hl, hc⟩
  refine ⟨he, ⟨_, G, hl, h2.chg hc (fun k hg hf => h5 k hf hg), fun k hk => by rcases hk with hk | hk; exact h3 k hk; exact hP.sx hb hk.1, h4, fun k hk hg => ?_⟩, hc.weaken (fun k _ hk => h3 k hk)⟩
  rcases hk with hk | hk
  · exact h5 k hk hg
  · have := h2.lt k hg
    omega
theorem drop_t1 (base : Nat) (P : List Nat) (w : World) (a : Nat) (la : List Int) (k : Int) (h : T1 base P w a la) (hb : base ≤ w.heap.size) (hP : Lie P w) (hok : ok k) :
    Calls Try.prog 30 #[.pointer (some ⟨a, 0, none⟩), enc k] w fun e w' => e = .returned (.bool (decide (k ∈ la))) ∧ T1 base P w' a (dropL la k) ∧ Chg (Sx base P) w w' := by
  obtain ⟨F, h1, h2⟩ := h
  by_cases hk : k ∈ la
  · refine (drop_some w a F la k h1 hk).mono ?_
    rintro e w' ⟨he, hl, hc⟩
    exact ⟨by rw [he, decide_eq_true hk], ⟨_, hl, fun k hk => by rcases hk with hk | hk; exact h2 k hk; exact hP.sx hb hk.1⟩, hc.weaken (fun k _ hk => h2 k hk)⟩
  · refine (drop_none w a F la k h1 hk hok).mono ?_
    rintro e w' ⟨he, rfl⟩
    refine ⟨by rw [he, decide_eq_false hk], ⟨F, ?_, h2⟩, Chg.refl _ _⟩
    rw [dropL_none hk]
    exact h1
/-- Keys, and the new row. -/
theorem keys_t1 (base : Nat) (P : List Nat) (w : World) (a : Nat) (la : List Int) (h : T1 base P w a la) : Calls Try.prog 29 #[.pointer (some ⟨a, 0, none⟩)] w (KeysAt w la) := by
  obtain ⟨F, h1, h2⟩ := h
  exact keys_any w a F la h1
theorem len_t1 (base : Nat) (P : List Nat) (w : World) (a : Nat) (la : List Int) (h : T1 base P w a la) : Calls Try.prog 25 #[.pointer (some ⟨a, 0, none⟩)] w fun e w' => e = .returned (.int .i64 la.length) ∧ w = w' := by
  obtain ⟨F, h1, h2⟩ := h
  exact len_any w a F la h1
--@need Last
theorem last_t1 (base : Nat) (P : List Nat) (w : World) (a : Nat) (la : List Int) (h : T1 base P w a la) : Calls Try.prog 28 #[.pointer (some ⟨a, 0, none⟩)] w fun e w' => e = .returned (lastV la.getLast?) ∧ Chg (fun _ => False) w w' := by
  obtain ⟨F, h1, h2⟩ := h
  exact last_any w a F la h1
--@end

/-- What comes of uses. -/
def usesL (l : List Int) : List Int := l.foldl useL []
theorem useL_len (l : List Int) (k : Int) : (useL l k).length ≤ l.length + 1 := by
  unfold useL dropL
  have := List.length_filter_le (fun x => decide (x ≠ k)) l
  simp only [List.length_cons]
  omega
theorem usesL_len (l : List Int) : (usesL l).length ≤ l.length := by
  have key : ∀ (l m : List Int), (l.foldl useL m).length ≤ m.length + l.length := by
    intro l
    induction l with
    | nil => intro m; simp
    | cons x r ih =>
      intro m
      have h1 := ih (useL m x)
      have h2 := useL_len m x
      simp only [List.foldl_cons, List.length_cons]
      omega
  simpa [usesL] using key l []
theorem usesL_take {l : List Int} {k : Nat} (h : k < l.length) : usesL (l.take (k + 1)) = useL (usesL (l.take k)) l[k] := by
  unfold usesL
  rw [List.take_succ_eq_append_getElem h, List.foldl_append]
  rfl
end Go.Proofs.Ytfkedhclhmbpfaa.LI
