/-
  A key's rule is written: all holds again.
-/
import Derived.Test.YtfkedhclhmbpfaaPd
namespace Go.Proofs.Ytfkedhclhmbpfaa
set_option linter.unusedVariables false
set_option linter.unusedSimpArgs false

theorem tot_same {f g : Int → Option Cell} {l : List Int} (h : ∀ k ∈ l, ((f k).getD zeroCell).s = ((g k).getD zeroCell).s) : tot f l = tot g l := by
  induction l with
  | nil => rfl
  | cons x r ih =>
    rw [tot_cons, tot_cons, h x List.mem_cons_self, ih (fun k hk => h k (List.mem_cons_of_mem _ hk))]

/-- The cell as it is written. -/
def newCell (st : St) (k : Int) (asked : List Int) (d : Int) : Cell :=
  { (st.cells k).getD zeroCell with digest := d, turned := if d = ((st.cells k).getD zeroCell).digest then ((st.cells k).getD zeroCell).turned else st.rev, asked := asked, at_ := st.rev }
/-- The state as it is written, ahead of keep. -/
def newSt (st : St) (k : Int) (asked : List Int) (d : Int) (ws : List ByteArray) : St :=
  { st with steps := st.steps + 1, cells := setF st.cells k (some (newCell st k asked d)), nc := if (st.cells k).isSome then st.nc else st.nc + 1, words := ws }
theorem setF_setF (f : Int → Option Cell) (k : Int) (a b : Option Cell) : setF (setF f k a) k b = setF f k b := by
  funext x
  unfold setF
  split <;> rfl

theorem wrote_eq {st : St} {k : Int} {asked : List Int} {s : ByteArray} {ws : List ByteArray} {d : Int} (h : wordM (freshM st k) s = some ({ freshM st k with words := ws }, d)) : wroteM st k asked s = keepM (newSt st k asked d ws) k s := by
  unfold wroteM
  rw [h]
  simp only
  have h1 : (freshM st k).cells k = some ((st.cells k).getD zeroCell) := by unfold freshM setF; simp
  rw [h1, Option.getD_some]
  congr 1
  unfold St.setCell newSt newCell freshM
  simp only [setF_setF]

theorem new_core_self (st : St) (k : Int) (asked : List Int) (d : Int) (ws : List ByteArray) : (newSt st k asked d ws).core k = some (coreOf (newCell st k asked d)) := by
  unfold St.core newSt setF
  simp
theorem new_core_other (st : St) {k x : Int} (asked : List Int) (d : Int) (ws : List ByteArray) (h : x ≠ k) : (newSt st k asked d ws).core x = st.core x := by
  unfold St.core newSt setF
  simp [h]

theorem wrote_good {rs : List Rule} {Ul : List Int} {st : St} {k : Int} {asked : List Int} {s : ByteArray} (hA : InvA Ul st) (hB : InvB rs st) (hk : k ∈ Ul) (hin : st.inputs k = none) (hs : s ∈ texts0)
    (ht : textM rs (repA (val rs st.inp)) [] k = some (asked, s)) (hd : ∀ d ∈ asked, Good rs st d) (B : Int → Prop) (hBk : ¬ B k) :
    ∃ st', wroteM st k asked s = some st' ∧ InvA Ul st' ∧ InvB rs st' ∧ Ext B st st' ∧ st'.cycle = st.cycle ∧ (∃ c', st'.core k = some c' ∧ c'.at_ = st.rev ∧ st'.text c' = some s) ∧ st'.steps = st.steps + 1 ∧ st'.checks = st.checks ∧ st'.hits = st.hits ∧ st'.budget = st.budget := by
  have hval : val rs st.inp k = some s := val_of_text (by unfold St.inp; rw [hin]; rfl) (textM_rep ht)
  obtain ⟨ws, d, hw, hd1, hat, hpre, hnd, hset⟩ := word_good (rs := rs) (Ul := Ul) (X := fun _ => False) (st := freshM st k) hB.wnd hA.wset hs
  have hpre : ∃ l, ws = st.words ++ l := hpre
  rw [wrote_eq hw]
  -- the state ahead of keep
  have hE : Ext B st (newSt st k asked d ws) := by
    refine ⟨rfl, rfl, rfl, hpre, id, fun x c hx => ?_, fun x hx hb => ?_, by show st.steps ≤ st.steps + 1; omega, Int.le_refl _⟩
    · by_cases e : x = k
      · subst e
        refine ⟨_, new_core_self st x asked d ws, ?_⟩
        obtain ⟨c0, hc0, rfl⟩ : ∃ c0, st.cells x = some c0 ∧ coreOf c0 = c := by
          unfold St.core at hx
          simpa [Option.map_eq_some_iff] using hx
        have hc := hB.cel x (coreOf c0) hx
        unfold newCell
        rw [hc0, Option.getD_some]
        by_cases hr : c0.at_ = st.rev
        · left
          obtain ⟨s', h1, h2, h3⟩ := hc.deps hB hr
          obtain ⟨s'', h4, h5⟩ := hc.now hr
          rw [hval] at h5
          obtain rfl := Option.some.inj h5
          rw [h4] at h1
          obtain rfl := Option.some.inj h1
          rw [ht] at h2
          simp only [Option.some.injEq, Prod.mk.injEq] at h2
          have hdig : d = c0.digest := by
            obtain ⟨l, hl⟩ := hpre
            have hl : ws = st.words ++ l := hl
            have h6 : ws[((coreOf c0).digest - 1).toNat]? = some s := by
              unfold St.text at h4
              rw [hl, List.getElem?_append_left (List.getElem?_eq_some_iff.1 h4).1]
              exact h4
            have h7 := nodup_at hnd hat h6
            have h8 : 1 ≤ c0.digest := hc.dig
            have h9 : (coreOf c0).digest = c0.digest := rfl
            rw [h9] at h7
            omega
          unfold coreOf
          simp only [Core.mk.injEq]
          exact ⟨hdig, h2.1, hr.symm, by rw [if_pos hdig]⟩
        · right
          refine ⟨rfl, hr, hBk, fun hh => ?_, fun hh => ?_⟩
          · show (if d = c0.digest then c0.turned else st.rev) = c0.turned
            rw [if_pos (show d = c0.digest from hh)]
          · show (if d = c0.digest then c0.turned else st.rev) = st.rev
            rw [if_neg (show ¬ d = c0.digest from hh)]
      · exact ⟨c, by rw [new_core_other st asked d ws e]; exact hx, .inl rfl⟩
    · have e : x ≠ k := fun e => hBk (e ▸ hb)
      rw [new_core_other st asked d ws e]
      exact hx
  have htext : (newSt st k asked d ws).text (coreOf (newCell st k asked d)) = some s := hat
  have hBn : InvB rs (newSt st k asked d ws) := by
    refine hB.ext hE hnd (fun x c hx hne => ?_)
    by_cases e : x = k
    · subst e
      rw [new_core_self] at hx
      obtain rfl := Option.some.inj hx
      have htl : (coreOf (newCell st x asked d)).turned ≤ st.rev := by
        show (if d = ((st.cells x).getD zeroCell).digest then ((st.cells x).getD zeroCell).turned else st.rev) ≤ st.rev
        split
        · rename_i hdd
          cases hc0 : st.cells x with
          | none =>
            rw [hc0] at hdd
            have : d = 0 := hdd
            omega
          | some c0 =>
            have hc := hB.cel x (coreOf c0) (by unfold St.core; rw [hc0]; rfl)
            have h1 := hc.turned_le
            have h2 := hc.at_le
            show c0.turned ≤ st.rev
            have h3 : (coreOf c0).turned = c0.turned := rfl
            have h4 : (coreOf c0).at_ = c0.at_ := rfl
            omega
        · omega
      refine ⟨hin, Int.le_refl _, htl, hd1, ⟨val rs st.inp, s, htext, ht, fun y hy => ?_⟩, fun _ => ⟨s, htext, by rw [hE.inp]; exact hval⟩⟩
      obtain ⟨t, h1, h2⟩ := (hd y hy)
      refine ⟨t, h1, fun z hz _ => ?_, fun hn => ?_⟩
      · have : val rs st.inp y = some z.1 := val_in (by unfold St.inp; rw [show st.inputs y = some z from hz]; rfl)
        rw [this] at h1
        exact Option.some.inj h1
      · obtain ⟨cd, h3, h4, h5⟩ := h2 hn
        obtain ⟨cd', h6, h7⟩ := hE.keep y cd h3
        rcases h7 with rfl | ⟨_, h8, _⟩
        · exact ⟨cd', h6, by show st.rev ≤ cd'.at_; omega, fun _ => hE.text h5⟩
        · exact absurd h4 h8
    · rw [new_core_other st asked d ws e] at hx
      exact absurd hx hne
  have hcs : ∀ x, x ≠ k → (newSt st k asked d ws).cells x = st.cells x := fun x e => by
    show setF st.cells k _ x = _
    unfold setF
    rw [if_neg e]
  have hck : (newSt st k asked d ws).cells k = some (newCell st k asked d) := by
    show setF st.cells k _ k = _
    unfold setF
    rw [if_pos rfl]
  have hhas : (newCell st k asked d).has = ((st.cells k).getD zeroCell).has := rfl
  have hss : (newCell st k asked d).s = ((st.cells k).getD zeroCell).s := rfl
  have hAn : InvX Ul (fun x => x = k) (newSt st k asked d ws) := by
    refine ⟨hA.und, fun x => ?_, fun x c hx hh hX => ?_, ?_, hA.le1, hA.le2, ?_, fun x hx => ?_, hset, hA.few⟩
    · show x ∈ st.used ↔ _
      rw [hA.umem x]
      by_cases e : x = k
      · subst e
        rw [hck]
        cases hc0 : st.cells x with
        | none =>
          rw [hc0] at hhas
          have hf : (newCell st x asked d).has = false := hhas
          simp [hf]
        | some c0 =>
          rw [hc0] at hhas
          have hf : (newCell st x asked d).has = c0.has := hhas
          simp [hf]
      · rw [hcs x e]
    · rw [hcs x hX] at hx
      exact hE.text (hA.utext x c hx hh (fun h => h))
    · show st.charged = tot (newSt st k asked d ws).cells st.used
      rw [hA.sum]
      refine tot_same (fun x hx => ?_)
      by_cases e : x = k
      · subst e; rw [hck]; exact hss.symm
      · rw [hcs x e]
    · obtain ⟨ks, h1, h2, h3⟩ := hA.ncs
      show ∃ ks : List Int, ks.Nodup ∧ (∀ x, x ∈ ks ↔ ((newSt st k asked d ws).cells x).isSome = true) ∧ (if (st.cells k).isSome then st.nc else st.nc + 1) = ks.length
      by_cases hc0 : (st.cells k).isSome = true
      · rw [if_pos hc0]
        refine ⟨ks, h1, fun x => ?_, h3⟩
        rw [h2 x]
        by_cases e : x = k
        · subst e; rw [hck]; simp [hc0]
        · rw [hcs x e]
      · rw [if_neg hc0]
        refine ⟨k :: ks, List.nodup_cons.2 ⟨fun h => hc0 ((h2 k).1 h), h1⟩, fun x => ?_, by simp [h3]⟩
        rw [List.mem_cons]
        by_cases e : x = k
        · subst e; rw [hck]; simp
        · rw [hcs x e, h2 x]; simp [e]
    · by_cases e : x = k
      · rw [e]; exact hk
      · rw [hcs x e] at hx; exact hA.cul x hx
  obtain ⟨st', h1, h2, h3, h4, h5, h6⟩ := keep_good hAn hck htext
  refine ⟨st', h1, h2, h3.invB hBn, hE.trans (h3.ext B), h3.cycle, ⟨_, by rw [h3.core]; exact new_core_self st k asked d ws, rfl, by rw [h3.text]; exact htext⟩, h3.steps, h3.checks, h6, h4⟩
end Go.Proofs.Ytfkedhclhmbpfaa
