/-
  The document's Tell, as a function; it tells what the rules tell.
-/
import Derived.Test.YtfkedhclhmbpfaaPi
namespace Go.Proofs.Ytfkedhclhmbpfaa
set_option linter.unusedVariables false
set_option linter.unusedSimpArgs false

def inputM (ins : List (Int × Int)) (k : Int) : Option Int := (ins.reverse.find? fun x => decide (x.1 = k)).map fun x => x.2
/-- A rule's number. -/
def tellGo (kind : Int) (ask : Int → Option Int) : List Int → Nat → Int → Option Int
  | [], i, sum => some (sum.tmod 1000)
  | d :: r, i, sum =>
    if kind = 1 ∧ (2 < i ∨ (0 < i ∧ (i : Int) ≠ 1 + sum.tmod 2)) then tellGo kind ask r (i + 1) sum
    else match ask d with
      | none => none
      | some n =>
        if kind = 1 ∧ i = 0 then tellGo kind ask r (i + 1) n
        else if kind = 2 then some (n.tmod 2)
        else if kind = 1 then some ((sum + n).tmod 1000)
        else tellGo kind ask r (i + 1) ((sum + n).tmod 1000)
def tellM (rs : List Rule) (ins : List (Int × Int)) : Nat → Int → List Int → Option Int
  | 0, _, _ => none
  | f + 1, k, under => match inputM ins k with
    | some n => some n
    | none =>
      if k ∈ under then none
      else if k < 0 then some 0
      else match rs[k.toNat]? with
        | none => some 0
        | some r => tellGo r.kind (fun d => tellM rs ins f d (under ++ [k])) r.l 0 k

def smallB : Bool := (List.range 1000).all fun i => decide (numberM (valueM (i : Int)) = (i : Int))
theorem number_value {n : Int} (h0 : 0 ≤ n) (h1 : n < 1000) : numberM (valueM n) = n := by
  have h : smallB = true := by decide +kernel
  unfold smallB at h
  have := List.all_eq_true.1 h n.toNat (List.mem_range.2 (by omega))
  simp only [decide_eq_true_eq] at this
  rwa [show ((n.toNat : Nat) : Int) = n by omega] at this

theorem tmod_pos {x : Int} (h : 0 ≤ x) : 0 ≤ x.tmod 1000 ∧ x.tmod 1000 < 1000 := ⟨Int.tmod_nonneg _ h, Int.tmod_lt_of_pos _ (by omega)⟩
theorem tmod2_pos {x : Int} (h : 0 ≤ x) : 0 ≤ x.tmod 2 ∧ x.tmod 2 < 1000 := ⟨Int.tmod_nonneg _ h, by have := Int.tmod_lt_of_pos x (b := 2) (by omega); omega⟩

/-- A rule's number is its text. -/
theorem tellGo_text {kind : Int} {ask : Int → Option Int} {f : Int → Option ByteArray} (hf : ∀ d n, ask d = some n → f d = some (valueM n) ∧ 0 ≤ n ∧ n < 1000) (l : List Int) : ∀ (i : Nat) (sum : Int) (n : Int), 0 ≤ sum → tellGo kind ask l i sum = some n →
    textGo kind (pureA f) l i sum () = some ((), valueM n) ∧ 0 ≤ n ∧ n < 1000 := by
  induction l with
  | nil =>
    intro i sum n h0 h
    unfold tellGo at h
    obtain rfl := Option.some.inj h
    exact ⟨by rw [textGo], tmod_pos h0⟩
  | cons d r ih =>
    intro i sum n h0 h
    unfold tellGo at h
    rw [textGo_cons]
    split at h
    · rename_i hc
      rw [if_pos hc]
      exact ih _ _ _ h0 h
    · rename_i hc
      rw [if_neg hc]
      cases ha : ask d with
      | none => rw [ha] at h; cases h
      | some m =>
        rw [ha] at h
        simp only at h
        obtain ⟨g1, g2, g3⟩ := hf d m ha
        rw [pureA_some g1]
        simp only
        rw [number_value g2 g3]
        split at h
        · rename_i h1
          rw [if_pos h1]
          exact ih _ _ _ g2 h
        · rename_i h1
          rw [if_neg h1]
          split at h
          · rename_i h2
            rw [if_pos h2]
            obtain rfl := Option.some.inj h
            exact ⟨rfl, tmod2_pos g2⟩
          · rename_i h2
            rw [if_neg h2]
            split at h
            · rename_i h3
              rw [if_pos h3]
              obtain rfl := Option.some.inj h
              exact ⟨rfl, tmod_pos (by omega)⟩
            · rename_i h3
              rw [if_neg h3]
              exact ih _ _ _ (tmod_pos (by omega)).1 h

/-- The inputs as texts. -/
def inpOf (ins : List (Int × Int)) : Inp := fun k => (inputM ins k).map valueM
theorem inputM_mem {ins : List (Int × Int)} {k n : Int} (h : inputM ins k = some n) : (k, n) ∈ ins := by
  unfold inputM at h
  simp only [Option.map_eq_some_iff] at h
  obtain ⟨⟨a, b⟩, h1, h2⟩ := h
  have h3 := List.find?_some h1
  simp only [decide_eq_true_eq] at h3 h2
  subst h3 h2
  exact List.mem_reverse.1 (List.mem_of_find?_eq_some h1)

theorem tell_eval {rs : List Rule} {ins : List (Int × Int)} (hi : ∀ x ∈ ins, 0 ≤ x.2 ∧ x.2 ≤ 255) : ∀ (f : Nat) (k : Int) (under : List Int) (n : Int), tellM rs ins f k under = some n → evalM rs f (inpOf ins) k = some (valueM n) ∧ 0 ≤ n ∧ n < 1000 := by
  intro f
  induction f with
  | zero => intro k under n h; cases h
  | succ f ih =>
    intro k under n h
    unfold tellM at h
    unfold evalM inpOf
    cases hin : inputM ins k with
    | some m =>
      rw [hin] at h
      obtain rfl := Option.some.inj h
      have := hi _ (inputM_mem hin)
      exact ⟨rfl, by dsimp only at this; omega, by dsimp only at this; omega⟩
    | none =>
      rw [hin] at h
      simp only [Option.map_none] at h ⊢
      split at h
      · cases h
      · unfold textM
        split at h
        · rename_i hk
          rw [if_pos hk]
          obtain rfl := Option.some.inj h
          exact ⟨rfl, by omega, by omega⟩
        · rename_i hk
          rw [if_neg hk]
          cases hr : rs[k.toNat]? with
          | none =>
            rw [hr] at h
            obtain rfl := Option.some.inj h
            exact ⟨rfl, by omega, by omega⟩
          | some r =>
            rw [hr] at h
            simp only at h ⊢
            obtain ⟨g1, g2⟩ := tellGo_text (f := evalM rs f (inpOf ins)) (fun d m hd => ih d _ m hd) r.l 0 k n (by omega) h
            have g1' : textGo r.kind (pureA (evalM rs f fun k => Option.map valueM (inputM ins k))) r.l 0 k () = some ((), valueM n) := g1
            rw [g1']
            exact ⟨rfl, g2⟩

theorem tellGo_some {kind : Int} {ask : Int → Option Int} {f : Int → Option ByteArray} (hf : ∀ d t, f d = some t → ∃ n, ask d = some n ∧ t = valueM n ∧ 0 ≤ n ∧ n < 1000) (l : List Int) : ∀ (i : Nat) (sum : Int), (textGo kind (pureA f) l i sum ()).isSome = true → (tellGo kind ask l i sum).isSome = true := by
  induction l with
  | nil => intro i sum _; rfl
  | cons d r ih =>
    intro i sum h
    rw [textGo_cons] at h
    unfold tellGo
    split at h
    · rename_i hc
      rw [if_pos hc]
      exact ih _ _ h
    · rename_i hc
      rw [if_neg hc]
      cases hd : f d with
      | none => rw [pureA_none hd] at h; cases h
      | some t =>
        obtain ⟨n, h1, rfl, h2, h3⟩ := hf d t hd
        rw [pureA_some hd] at h
        simp only [number_value h2 h3] at h
        rw [h1]
        simp only
        split at h
        · rename_i e1
          rw [if_pos e1]
          exact ih _ _ h
        · rename_i e1
          rw [if_neg e1]
          split at h
          · rename_i e2
            rw [if_pos e2]
            rfl
          · rename_i e2
            rw [if_neg e2]
            split at h
            · rename_i e3
              rw [if_pos e3]
              rfl
            · rename_i e3
              rw [if_neg e3]
              exact ih _ _ h

/-- The least depth. -/
theorem eval_least (rs : List Rule) (ip : Inp) (k : Int) : ∀ (n : Nat) (s : ByteArray), evalM rs n ip k = some s → ∃ m, m < n ∧ evalM rs (m + 1) ip k = some s ∧ evalM rs m ip k = none := by
  intro n
  induction n with
  | zero => intro s h; cases h
  | succ n ih =>
    intro s h
    cases hn : evalM rs n ip k with
    | none => exact ⟨n, Nat.lt_succ_self n, h, hn⟩
    | some t =>
      have := eval_det rs ip h hn
      subst this
      obtain ⟨m, h1, h2⟩ := ih s hn
      exact ⟨m, by omega, h2⟩

theorem few_in {rs : List Rule} {l : List Int} (hd : l.Nodup) (h : ∀ x ∈ l, inR rs x) : l.length ≤ rs.length := by
  have := sub_len l ((List.range rs.length).map fun (i : Nat) => (i : Int)) hd (fun x hx => by
    obtain ⟨h0, h1⟩ := h x hx
    exact List.mem_map.2 ⟨x.toNat, List.mem_range.2 (by omega), by omega⟩)
  simpa using this

theorem eval_tell {rs : List Rule} {ins : List (Int × Int)} (hi : ∀ x ∈ ins, 0 ≤ x.2 ∧ x.2 ≤ 255) : ∀ (n : Nat) (f : Nat) (k : Int) (under : List Int) (s : ByteArray), evalM rs (n + 1) (inpOf ins) k = some s → evalM rs n (inpOf ins) k = none → (∀ u ∈ under, evalM rs (n + 1) (inpOf ins) u = none) →
    under.Nodup → (∀ u ∈ under, inR rs u) → rs.length < f + under.length → (tellM rs ins f k under).isSome = true := by
  intro n
  induction n using Nat.strongRecOn with
  | _ n ih =>
    intro f k under s h h' hu hd hr hf
    cases f with
    | zero =>
      have := few_in hd hr
      omega
    | succ f =>
      unfold tellM
      unfold evalM at h
      cases hin : inputM ins k with
      | some m => rfl
      | none =>
        have hip : inpOf ins k = none := by unfold inpOf; rw [hin]; rfl
        rw [hip] at h
        simp only at h ⊢
        have hku : k ∉ under := fun hk => by
          have := hu k hk
          unfold evalM at this
          rw [hip] at this
          simp only at this
          rw [h] at this
          cases this
        rw [if_neg hku]
        by_cases hk : k < 0
        · rw [if_pos hk]; rfl
        · rw [if_neg hk]
          unfold textM at h
          rw [if_neg hk] at h
          cases hrk : rs[k.toNat]? with
          | none => rfl
          | some r =>
            rw [hrk] at h
            simp only at h ⊢
            have hlt := (List.getElem?_eq_some_iff.1 hrk).1
            refine tellGo_some (f := evalM rs n (inpOf ins)) (fun d t hdt => ?_) r.l 0 k (by
              simp only [Option.map_eq_some_iff] at h
              obtain ⟨y, hy, _⟩ := h
              rw [hy]; rfl)
            obtain ⟨m, hm, hm1, hm2⟩ := eval_least rs _ d n t hdt
            have hs := ih m hm f d (under ++ [k]) t hm1 hm2 (fun u hu' => by
              rcases List.mem_append.1 hu' with hu' | hu'
              · cases he : evalM rs (m + 1) (inpOf ins) u with
                | none => rfl
                | some y =>
                  have := eval_le rs (inpOf ins) (show m + 1 ≤ n + 1 by omega) u y he
                  rw [hu u hu'] at this
                  cases this
              · rw [List.mem_singleton.1 hu']
                cases he : evalM rs (m + 1) (inpOf ins) k with
                | none => rfl
                | some y =>
                  have := eval_le rs (inpOf ins) (show m + 1 ≤ n by omega) k y he
                  rw [h'] at this
                  cases this) (by
              rw [List.nodup_append]
              exact ⟨hd, by simp, by intro a ha b hb e; simp at hb; subst hb; subst e; exact hku ha⟩) (fun u hu' => by
              rcases List.mem_append.1 hu' with hu' | hu'
              · exact hr u hu'
              · rw [List.mem_singleton.1 hu']; exact ⟨by omega, by omega⟩) (by simp only [List.length_append, List.length_singleton]; omega)
            obtain ⟨z, hz⟩ := Option.isSome_iff_exists.1 hs
            obtain ⟨e1, e2, e3⟩ := tell_eval hi f d _ z hz
            exact ⟨z, hz, eval_det rs _ hdt e1, e2, e3⟩

/-- Tell tells what the rules tell. -/
theorem val_tell {rs : List Rule} {ins : List (Int × Int)} (hi : ∀ x ∈ ins, 0 ≤ x.2 ∧ x.2 ≤ 255) (k : Int) {f : Nat} (hf : rs.length < f) : val rs (inpOf ins) k = (tellM rs ins f k []).map valueM := by
  cases ht : tellM rs ins f k [] with
  | some n => exact val_some.2 ⟨f, (tell_eval hi f k [] n ht).1⟩
  | none =>
    refine val_none (fun n => ?_)
    cases hn : evalM rs n (inpOf ins) k with
    | none => rfl
    | some s =>
      obtain ⟨m, _, h1, h2⟩ := eval_least rs _ k n s hn
      have := eval_tell hi m f k [] s h1 h2 (fun u hu => by cases hu) List.nodup_nil (fun u hu => by cases hu) (by simpa using hf)
      rw [ht] at this
      cases this
end Go.Proofs.Ytfkedhclhmbpfaa
