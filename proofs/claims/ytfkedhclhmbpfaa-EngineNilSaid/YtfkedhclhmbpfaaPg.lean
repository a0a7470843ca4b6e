/-
  right: it goes through, and a cell that it finds right is.
-/
import Derived.Test.YtfkedhclhmbpfaaPf
namespace Go.Proofs.Ytfkedhclhmbpfaa
set_option linter.unusedVariables false
set_option linter.unusedSimpArgs false

theorem noted_pre (l : List Int) (d : Int) : ∃ m, noted l d = l ++ m := by
  unfold noted
  split
  · exact ⟨[], by simp⟩
  · exact ⟨[d], rfl⟩
theorem noted_nodup {l : List Int} (h : l.Nodup) (d : Int) : (noted l d).Nodup := by
  unfold noted
  split
  · exact h
  · rename_i hn
    rw [List.nodup_append]
    exact ⟨h, by simp, by intro a ha b hb e; simp at hb; subst hb; subst e; exact hn ha⟩

/-- How the list of the keys that are noted grows. -/
theorem textGo_list {f : Int → Option ByteArray} (kind : Int) (l : List Int) : ∀ (i : Nat) (sum : Int) (ks ks' : List Int) (s : ByteArray), textGo kind (repA f) l i sum ks = some (ks', s) →
    (∃ m, ks' = ks ++ m) ∧ (ks.Nodup → ks'.Nodup) ∧ ∀ x ∈ ks', x ∈ ks ∨ x ∈ l := by
  induction l with
  | nil =>
    intro i sum ks ks' s hs
    unfold textGo at hs
    simp only [Option.some.injEq, Prod.mk.injEq] at hs
    rw [← hs.1]
    exact ⟨⟨[], by simp⟩, id, fun x hx => .inl hx⟩
  | cons d r ih =>
    intro i sum ks ks' s hs
    rw [textGo_cons] at hs
    have fin : noted ks d = ks' → (∃ m, ks' = ks ++ m) ∧ (ks.Nodup → ks'.Nodup) ∧ ∀ x ∈ ks', x ∈ ks ∨ x ∈ d :: r := by
      rintro rfl
      exact ⟨noted_pre ks d, fun h => noted_nodup h d, fun x hx => (noted_mem hx).imp id (fun e => by rw [e]; exact List.mem_cons_self)⟩
    have go : ∀ i' sum', textGo kind (repA f) r i' sum' (noted ks d) = some (ks', s) → (∃ m, ks' = ks ++ m) ∧ (ks.Nodup → ks'.Nodup) ∧ ∀ x ∈ ks', x ∈ ks ∨ x ∈ d :: r := by
      intro i' sum' h
      obtain ⟨⟨m, hm⟩, h2, h3⟩ := ih _ _ _ _ _ h
      obtain ⟨m', hm'⟩ := noted_pre ks d
      refine ⟨⟨m' ++ m, by rw [hm, hm', List.append_assoc]⟩, fun h => h2 (noted_nodup h d), fun x hx => ?_⟩
      rcases h3 x hx with h | h
      · exact (noted_mem h).imp id (fun e => by rw [e]; exact List.mem_cons_self)
      · exact .inr (List.mem_cons_of_mem _ h)
    split at hs
    · obtain ⟨h1, h2, h3⟩ := ih _ _ _ _ _ hs
      exact ⟨h1, h2, fun x hx => (h3 x hx).imp id (List.mem_cons_of_mem _)⟩
    · cases hf : f d with
      | none => simp [repA, hf] at hs
      | some t =>
        simp only [repA, hf, Option.map_some] at hs
        split at hs
        · exact go _ _ hs
        · split at hs
          · simp only [Option.some.injEq, Prod.mk.injEq] at hs
            exact fin hs.1
          · split at hs
            · simp only [Option.some.injEq, Prod.mk.injEq] at hs
              exact fin hs.1
            · exact go _ _ hs
/-- The keys that a rule notes. -/
theorem textM_list {f : Int → Option ByteArray} {rs : List Rule} {Ul : List Int} (hU : Keys rs Ul) {k : Int} {ks : List Int} {s : ByteArray} (h : textM rs (repA f) [] k = some (ks, s)) : ks.Nodup ∧ (∀ x ∈ ks, x ∈ Ul) ∧ (ks ≠ [] → inR rs k) := by
  unfold textM at h
  split at h
  · simp only [Option.some.injEq, Prod.mk.injEq] at h
    rw [← h.1]
    exact ⟨List.nodup_nil, fun x hx => (by cases hx), fun hh => absurd rfl hh⟩
  · rename_i hneg
    split at h
    · simp only [Option.some.injEq, Prod.mk.injEq] at h
      rw [← h.1]
      exact ⟨List.nodup_nil, fun x hx => (by cases hx), fun hh => absurd rfl hh⟩
    · rename_i r hr
      obtain ⟨_, h2, h3⟩ := textGo_list _ _ _ _ _ _ _ h
      have hlt := (List.getElem?_eq_some_iff.1 hr).1
      exact ⟨h2 List.nodup_nil, fun x hx => (h3 x hx).elim (fun h => by cases h) (fun h => hU r (List.mem_of_getElem? hr) x h), fun _ => ⟨by omega, by omega⟩⟩

/-- What a rule asks for next, where what it asked for before is told alike. -/
theorem needs_go {ans g : Int → Option ByteArray} (kind : Int) (l : List Int) : ∀ (i : Nat) (sum : Int) (ks ks' : List Int) (s : ByteArray), textGo kind (repA ans) l i sum ks = some (ks', s) →
    ∀ (pre : List Int) (d : Int) (post : List Int), ks' = pre ++ d :: post → (∀ x ∈ ks, x ∈ pre) → d ∉ pre → (∀ x ∈ pre, ∀ y, g x = some y → ans x = some y) → (textGo kind (pureA g) l i sum ()).isSome = true → (g d).isSome = true := by
  induction l with
  | nil =>
    intro i sum ks ks' s hs pre d post hk hks hnd hg hp
    unfold textGo at hs
    simp only [Option.some.injEq, Prod.mk.injEq] at hs
    exact absurd (hks d (by rw [hs.1, hk]; simp)) hnd
  | cons e r ih =>
    intro i sum ks ks' s hs pre d post hk hks hnd hg hp
    rw [textGo_cons] at hs hp
    split at hs
    · rename_i hskip
      rw [if_pos hskip] at hp
      exact ih _ _ _ _ _ hs pre d post hk hks hnd hg hp
    · rename_i hskip
      rw [if_neg hskip] at hp
      cases hge : g e with
      | none => rw [pureA_none hge] at hp; cases hp
      | some y =>
        rw [pureA_some hge] at hp
        simp only at hp
        cases hf : ans e with
        | none => simp [repA, hf] at hs
        | some t =>
          rw [repA_some hf] at hs
          simp only at hs
          by_cases hep : e ∈ pre
          · have hty : t = y := by
              have := hg e hep y hge
              rw [hf] at this
              exact Option.some.inj this
            subst hty
            have hks2 : ∀ x ∈ noted ks e, x ∈ pre := fun x hx => (noted_mem hx).elim (hks x) (fun h => h ▸ hep)
            have fin : noted ks e = ks' → (g d).isSome = true := fun h => absurd (hks2 d (by rw [h, hk]; simp)) hnd
            split at hs
            · rename_i h1
              rw [if_pos h1] at hp
              exact ih _ _ _ _ _ hs pre d post hk hks2 hnd hg hp
            · rename_i h1
              rw [if_neg h1] at hp
              split at hs
              · simp only [Option.some.injEq, Prod.mk.injEq] at hs
                exact fin hs.1
              · rename_i h2
                rw [if_neg h2] at hp
                split at hs
                · simp only [Option.some.injEq, Prod.mk.injEq] at hs
                  exact fin hs.1
                · rename_i h3
                  rw [if_neg h3] at hp
                  exact ih _ _ _ _ _ hs pre d post hk hks2 hnd hg hp
          · have hpf : ∃ m, ks' = noted ks e ++ m := by
              split at hs
              · exact (textGo_list _ _ _ _ _ _ _ hs).1
              · split at hs
                · simp only [Option.some.injEq, Prod.mk.injEq] at hs
                  exact ⟨[], by rw [hs.1]; simp⟩
                · split at hs
                  · simp only [Option.some.injEq, Prod.mk.injEq] at hs
                    exact ⟨[], by rw [hs.1]; simp⟩
                  · exact (textGo_list _ _ _ _ _ _ _ hs).1
            obtain ⟨m, hm⟩ := hpf
            have hnk : e ∉ ks := fun h => hep (hks e h)
            have hne : noted ks e = ks ++ [e] := by unfold noted; rw [if_neg hnk]
            rw [hne, hk, List.append_assoc] at hm
            have hat : (pre ++ d :: post)[ks.length]? = some e := by rw [hm, List.getElem?_append_right (Nat.le_refl _), Nat.sub_self]; rfl
            have hed : e = d := by
              rcases Nat.lt_trichotomy ks.length pre.length with h | h | h
              · rw [List.getElem?_append_left h] at hat
                exact absurd (List.mem_of_getElem? hat) hep
              · rw [h, List.getElem?_append_right (Nat.le_refl _), Nat.sub_self] at hat
                simpa using hat.symm
              · have h2 : (ks ++ ([e] ++ m))[pre.length]? = some d := by rw [← hm, List.getElem?_append_right (Nat.le_refl _), Nat.sub_self]; rfl
                rw [List.getElem?_append_left h] at h2
                exact absurd (hks d (List.mem_of_getElem? h2)) hnd
            rw [← hed, hge]
            rfl
theorem needs_next {rs : List Rule} {ip : Inp} {ans : Int → Option ByteArray} {k : Int} {ks : List Int} {s : ByteArray} (hip : ip k = none) (h : textM rs (repA ans) [] k = some (ks, s)) {pre : List Int} {d : Int} {post : List Int} (hk : ks = pre ++ d :: post) (hnd : d ∉ pre)
    (hg : ∀ x ∈ pre, ∀ y, val rs ip x = some y → ans x = some y) {m : Nat} (hm : (evalM rs (m + 1) ip k).isSome = true) : (evalM rs m ip d).isSome = true := by
  unfold evalM at hm
  rw [hip] at hm
  simp only [Option.isSome_map] at hm
  unfold textM at h hm
  split at h
  · simp only [Option.some.injEq, Prod.mk.injEq] at h
    rw [hk] at h
    simp at h
  · rename_i hneg
    rw [if_neg hneg] at hm
    split at h
    · simp only [Option.some.injEq, Prod.mk.injEq] at h
      rw [hk] at h
      simp at h
    · rename_i r hr
      rw [hr] at hm
      exact needs_go _ _ _ _ _ _ _ h pre d post hk (fun x hx => by cases hx) hnd (fun x hx y hy => hg x hx y (val_some.2 ⟨m, hy⟩)) hm

/-- What right has found of a key. -/
def PreOK (st : St) (c : Core) (d : Int) : Prop := (∀ x, st.inputs d = some x → x.2 ≤ c.at_) ∧ (st.inputs d = none → ∃ cd, st.core d = some cd ∧ cd.at_ = st.rev ∧ cd.turned ≤ c.at_)
theorem PreOK.ext {B : Int → Prop} {st st' : St} {c : Core} {d : Int} (h : PreOK st c d) (e : Ext B st st') : PreOK st' c d := by
  refine ⟨fun x hx => h.1 x (by rw [← e.inputs]; exact hx), fun hn => ?_⟩
  rw [e.inputs] at hn
  obtain ⟨cd, h1, h2, h3⟩ := h.2 hn
  obtain ⟨cd', h4, h5⟩ := e.keep d cd h1
  rcases h5 with rfl | ⟨_, h6, _⟩
  · exact ⟨cd', h4, by rw [e.rev]; exact h2, h3⟩
  · exact absurd h2 h6
theorem PreOK.val {rs : List Rule} {st : St} (hB : InvB rs st) {c : Core} {d : Int} {t : ByteArray} (h : PreOK st c d) (hd : DepOK st c d t) : val rs st.inp d = some t ∧ Good rs st d := by
  cases hin : st.inputs d with
  | some x =>
    have := hd.1 x hin (h.1 x hin)
    exact ⟨by rw [← this]; exact val_in (by unfold St.inp; rw [hin]; rfl), Good.of_in hin⟩
  | none =>
    obtain ⟨cd, h1, h2, h3⟩ := h.2 hin
    obtain ⟨cd', h4, h5, h6⟩ := hd.2 hin
    rw [h1] at h4
    obtain rfl := Option.some.inj h4
    obtain ⟨s', h7, h8⟩ := (hB.cel d cd h1).now h2
    rw [h6 h3] at h7
    obtain rfl := Option.some.inj h7
    exact ⟨h8, ⟨t, h8, fun _ => ⟨cd, h1, h2, h6 h3⟩⟩⟩

theorem InvX.setCell {Ul : List Int} {X : Int → Prop} {st : St} (h : InvX Ul X st) {k : Int} {c c' : Cell} (hk : st.cells k = some c) (hh : c'.has = c.has) (hs : c'.s = c.s) (hd : c'.digest = c.digest) : InvX Ul X (st.setCell k c') := by
  have hcs : ∀ x, x ≠ k → (st.setCell k c').cells x = st.cells x := fun x e => by
    show setF st.cells k _ x = _
    unfold setF
    rw [if_neg e]
  have hck : (st.setCell k c').cells k = some c' := by
    show setF st.cells k _ k = _
    unfold setF
    rw [if_pos rfl]
  refine ⟨h.und, fun x => ?_, fun x cx hx hhx hX => ?_, ?_, h.le1, h.le2, ?_, fun x hx => ?_, h.wset, h.few⟩
  · show x ∈ st.used ↔ _
    rw [h.umem x]
    by_cases e : x = k
    · subst e; rw [hck, hk]; simp [hh]
    · rw [hcs x e]
  · by_cases e : x = k
    · subst e
      rw [hck] at hx
      obtain rfl := Option.some.inj hx
      have := h.utext x c hk (by rw [← hh]; exact hhx) hX
      show st.words[((coreOf c').digest - 1).toNat]? = some c'.s
      rw [show (coreOf c').digest = c.digest from hd, hs]
      exact this
    · rw [hcs x e] at hx
      exact h.utext x cx hx hhx hX
  · show st.charged = tot (st.setCell k c').cells st.used
    rw [h.sum]
    refine tot_same (fun x hx => ?_)
    by_cases e : x = k
    · subst e; rw [hck, hk]; exact hs.symm
    · rw [hcs x e]
  · obtain ⟨ks, h1, h2, h3⟩ := h.ncs
    refine ⟨ks, h1, fun x => ?_, h3⟩
    rw [h2 x]
    by_cases e : x = k
    · subst e; rw [hck, hk]; simp
    · rw [hcs x e]
  · by_cases e : x = k
    · subst e; exact h.cul x (by rw [hk]; rfl)
    · rw [hcs x e] at hx; exact h.cul x hx

/-- What right leaves. -/
def RightR (rs : List Rule) (Ul : List Int) (st : St) (k : Int) (c : Core) (st' : St) (b : Bool) : Prop :=
  InvA Ul st' ∧ InvB rs st' ∧ Ext (fun u => st.busy u = true ∧ u ≠ k) st st' ∧ st'.budget = st.budget ∧ (b = true → st'.cycle = false ∧ ∃ c', st'.core k = some c' ∧ c'.at_ = st.rev ∧ c'.turned = c.turned ∧ c'.digest = c.digest) ∧ (st'.cycle = true → val rs st.inp k = none) ∧
  (b = false → st'.core k = some c)

theorem rightGo_good {rs : List Rule} {Ul : List Int} (hU : Keys rs Ul) {m : Nat} {turned : St → Int → Option (St × Int)} (ht : TurnSpec rs Ul m turned) (k : Int) (c : Core) :
    ∀ (rest pre : List Int) (st : St), c.asked = pre ++ rest → InvA Ul st → InvB rs st → st.core k = some c → c.at_ ≠ st.rev → st.busy k = true → st.cycle = false → (inR rs k → free rs st < m) → (∀ d ∈ pre, PreOK st c d) →
    (∀ u, st.busy u = true → u ≠ k → ∀ n, (evalM rs n st.inp u).isSome = true → ∃ m, m < n ∧ (evalM rs m st.inp k).isSome = true) →
    ∃ st' b, rightGo turned k rest st = some (st', b) ∧ RightR rs Ul st k c st' b := by
  intro rest
  induction rest with
  | nil =>
    intro pre st hpre hA hB hc hne hb hcy hf hP hQ
    rw [List.append_nil] at hpre
    obtain ⟨cell, hcell, rfl⟩ : ∃ c0, st.cells k = some c0 ∧ coreOf c0 = c := by
      unfold St.core at hc
      simpa [Option.map_eq_some_iff] using hc
    have hok := hB.cel k _ hc
    obtain ⟨ans, s, h1, h2, h3⟩ := hok.trace
    have hv : ∀ d ∈ (coreOf cell).asked, ans d = val rs st.inp d ∧ Good rs st d := by
      intro d hd
      obtain ⟨t, ht1, ht2⟩ := h3 d hd
      have := (hP d (by rw [← hpre]; exact hd)).val hB ht2
      exact ⟨by rw [ht1, this.1], this.2⟩
    have htx := textM_congr h2 (fun d hd => (hv d hd).1)
    have hval : val rs st.inp k = some s := val_of_text (by unfold St.inp; rw [hok.apart]; rfl) (textM_rep htx)
    unfold rightGo
    rw [hcell]
    simp only
    have hcore : ∀ x, x ≠ k → (st.setCell k { cell with at_ := st.rev }).core x = st.core x := fun x e => by
      unfold St.core St.setCell setF
      simp [e]
    have hself : (st.setCell k { cell with at_ := st.rev }).core k = some { coreOf cell with at_ := st.rev } := by
      unfold St.core St.setCell setF coreOf
      simp
    have hE : Ext (fun u => st.busy u = true ∧ u ≠ k) st (st.setCell k { cell with at_ := st.rev }) := by
      refine ⟨rfl, rfl, rfl, ⟨[], by simp [St.setCell]⟩, id, fun x cx hx => ?_, fun x hx hb' => ?_, Int.le_refl _, Int.le_refl _⟩
      · by_cases e : x = k
        · subst e
          rw [hc] at hx
          obtain rfl := Option.some.inj hx
          exact ⟨_, hself, .inr ⟨rfl, hne, fun h => h.2 rfl, fun _ => rfl, fun h => absurd rfl h⟩⟩
        · exact ⟨cx, by rw [hcore x e]; exact hx, .inl rfl⟩
      · rw [hcore x hb'.2]; exact hx
    have hA' := hA.setCell (c' := { cell with at_ := st.rev }) hcell rfl rfl rfl
    have hB' : InvB rs (st.setCell k { cell with at_ := st.rev }) := by
      refine hB.ext hE hB.wnd (fun x cx hx hnx => ?_)
      by_cases e : x = k
      · subst e
        rw [hself] at hx
        obtain rfl := Option.some.inj hx
        refine ⟨hok.apart, Int.le_refl _, ?_, hok.dig, ⟨val rs st.inp, s, h1, htx, fun y hy => ?_⟩, fun _ => ⟨s, h1, by rw [hE.inp]; exact hval⟩⟩
        · have := hok.turned_le
          have := hok.at_le
          show (coreOf cell).turned ≤ st.rev
          omega
        · obtain ⟨t, q1, q2⟩ := (hv y hy).2
          refine ⟨t, q1, fun z hz _ => ?_, fun hn => ?_⟩
          · have : val rs st.inp y = some z.1 := val_in (by unfold St.inp; rw [show st.inputs y = some z from hz]; rfl)
            rw [this] at q1
            exact Option.some.inj q1
          · obtain ⟨cd, q3, q4, q5⟩ := q2 hn
            obtain ⟨cd', q6, q7⟩ := hE.keep y cd q3
            rcases q7 with rfl | ⟨_, q8, _⟩
            · exact ⟨cd', q6, by show st.rev ≤ cd'.at_; omega, fun _ => hE.text q5⟩
            · exact absurd q4 q8
      · rw [hcore x e] at hx
        exact absurd hx hnx
    exact ⟨_, true, rfl, hA', hB', hE, rfl, fun _ => ⟨hcy, _, hself, rfl, rfl, rfl⟩, (fun h => by rw [show (st.setCell k { cell with at_ := st.rev }).cycle = st.cycle from rfl, hcy] at h; cases h), fun h => by cases h⟩
  | cons d r ih =>
    intro pre st hpre hA hB hc hne hb hcy hf hP hQ
    have hok := hB.cel k c hc
    obtain ⟨ans, s, h1, h2, h3⟩ := hok.trace
    obtain ⟨hnd, hul, hin⟩ := textM_list hU h2
    have hdm : d ∈ c.asked := by rw [hpre]; simp
    have hf' := hf (hin (fun h => by rw [h] at hdm; cases hdm))
    have hdp : d ∉ pre := fun h => by
      rw [hpre] at hnd
      exact (List.nodup_append.1 hnd).2.2 d h d List.mem_cons_self rfl
    have hip : st.inp k = none := by unfold St.inp; rw [hok.apart]; rfl
    have need : ∀ m, (evalM rs (m + 1) st.inp k).isSome = true → (evalM rs m st.inp d).isSome = true := fun m hm =>
      needs_next hip h2 hpre hdp (fun x hx y hy => by
        obtain ⟨t, ht1, ht2⟩ := h3 x (by rw [hpre]; exact List.mem_append_left _ hx)
        have := ((hP x hx).val hB ht2).1
        rw [this] at hy
        rw [ht1, hy]) hm
    have hQd : QB rs st d := by
      intro u hu n hn
      by_cases e : u = k
      · subst e
        cases n with
        | zero => cases hn
        | succ n => exact ⟨n, Nat.lt_succ_self n, need n hn⟩
      · obtain ⟨m', hm', hk'⟩ := hQ u hu e n hn
        cases m' with
        | zero => cases hk'
        | succ m' => exact ⟨m', by omega, need m' hk'⟩
    obtain ⟨st1, t, a1, a2, a3, a4, a5, a6, a7⟩ := ht st d hA hB (hul d hdm) hf' hcy hQd
    obtain ⟨c1, b1, b2⟩ := a4.keep k c hc
    have hc1 : st1.core k = some c := by
      rcases b2 with rfl | ⟨_, _, h, _⟩
      · exact b1
      · exact absurd hb h
    have hW : Ext (fun u => st.busy u = true ∧ u ≠ k) st st1 := a4.weaken (fun u hu => hu.1)
    unfold rightGo
    rw [a1]
    simp only
    cases hcy1 : st1.cycle with
    | true =>
      rw [if_pos rfl]
      refine ⟨st1, false, rfl, a2, a3, hW, a5, (fun h => by cases h), fun _ => ?_, fun _ => hc1⟩
      have hv := a7 hcy1
      refine val_none (fun n => ?_)
      cases n with
      | zero => rfl
      | succ n =>
        cases hk : evalM rs (n + 1) st.inp k with
        | none => rfl
        | some z =>
          obtain ⟨y, hy⟩ := Option.isSome_iff_exists.1 (need n (by rw [hk]; rfl))
          rw [val_some.2 ⟨n, hy⟩] at hv
          cases hv
    | false =>
      rw [if_neg (by simp)]
      obtain ⟨cell, hcell, hcc⟩ : ∃ c0, st1.cells k = some c0 ∧ coreOf c0 = c := by
        unfold St.core at hc1
        simpa [Option.map_eq_some_iff] using hc1
      rw [hcell]
      simp only
      have hatc : cell.at_ = c.at_ := by rw [← hcc]; rfl
      by_cases hlt : cell.at_ < t
      · rw [if_pos hlt]
        exact ⟨st1, false, rfl, a2, a3, hW, a5, (fun h => by cases h), (fun h => by rw [hcy1] at h; cases h), fun _ => hc1⟩
      · rw [if_neg hlt]
        obtain ⟨q1, q2⟩ := a6 hcy1
        have hPd : PreOK st1 c d := by
          refine ⟨fun x hx => ?_, fun hn => ?_⟩
          · rw [a4.inputs] at hx
            have := q1 x hx
            omega
          · rw [a4.inputs] at hn
            obtain ⟨cd, q3, q4, q5⟩ := q2 hn
            exact ⟨cd, q3, by rw [a4.rev]; exact q4, by omega⟩
        obtain ⟨st', b, e1, e2, e3, e4, e5, e6, e7, e8⟩ := ih (pre ++ [d]) st1 (by rw [hpre, List.append_assoc]; rfl) a2 a3 hc1 (by rw [a4.rev]; exact hne) (by rw [a4.busy]; exact hb) hcy1 (by rw [free_busy a4.busy]; exact hf) (fun x hx => by
          rcases List.mem_append.1 hx with hx | hx
          · exact (hP x hx).ext a4
          · rw [List.mem_singleton.1 hx]; exact hPd) (by rw [a4.busy, a4.inp]; exact hQ)
        refine ⟨st', b, e1, e2, e3, hW.trans (by rw [a4.busy] at e4; exact e4), e5.trans a5, fun h => ?_, fun h => ?_, e8⟩
        · obtain ⟨f1, c', f2, f3, f4, f5⟩ := e6 h
          exact ⟨f1, c', f2, by rw [f3, a4.rev], f4, f5⟩
        · have := e7 h
          rw [a4.inp] at this
          exact this
end Go.Proofs.Ytfkedhclhmbpfaa
