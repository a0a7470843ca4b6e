/-
  Maps that the program makes: a block that holds a map, read as a function from keys to values, and what a look-up, a store, a delete and len do to it.
-/
import Derived.Test.YtfkedhclhmbpfaaBlk
import Derived.Maps.OwnSet
namespace Go.Proofs.Ytfkedhclhmbpfaa
open Go.RowKit Go.Maps Go.MapKept
set_option linter.unusedVariables false
set_option linter.unusedSimpArgs false

/-- A key type of the program: how its keys look as values; which are keys. -/
structure KeyOfT (P : Program) (k : TypeId) {κ : Type} (enc : κ → Value) (ok : κ → Prop) : Prop where
  law : Keyed P k
  inj : ∀ {x y : κ}, enc x = enc y → x = y
  key : ∀ {x : κ}, ok x → ∃ l, keyOf P k (enc x) = some l

/-- Block b of w is a map of n entries that holds just what f says. -/
def Mp {κ : Type} (w : World) (enc : κ → Value) (ok : κ → Prop) (b : Nat) (f : κ → Option Value) (n : Nat) : Prop :=
  ∃ es clock, w.heap[b]? = some (.map es clock) ∧ es.size = n ∧ (∀ e ∈ es.toList, ∃ x, ok x ∧ e.key = enc x) ∧ es.toList.Pairwise (fun a b => a.key ≠ b.key) ∧
    ∀ x v, f x = some v ↔ ∃ e ∈ es.toList, e.key = enc x ∧ e.val = v

section
variable {κ : Type} {P : Program} {k e t : TypeId} {enc : κ → Value} {ok : κ → Prop} {w w' : World} {b n : Nat} {f : κ → Option Value}

theorem Mp.lt (h : Mp w enc ok b f n) : b < w.heap.size := by
  obtain ⟨es, clock, hb, _⟩ := h
  exact (Array.getElem?_eq_some_iff.1 hb).1
theorem Mp.made (w : World) (enc : κ → Value) (ok : κ → Prop) : Mp (w.alloc (.map #[] 0)) enc ok w.heap.size (fun _ => none) 0 :=
  ⟨#[], 0, (MapKept.heap_alloc w _).1, rfl, by simp, by simp, by simp⟩
theorem Mp.chg {S : Nat → Prop} (h : Mp w enc ok b f n) (hc : Chg S w w') (hs : ¬ S b) : Mp w' enc ok b f n := by
  have hlt := h.lt
  obtain ⟨es, clock, hb, r⟩ := h
  exact ⟨es, clock, (hc.block b hlt hs).trans hb, r⟩
theorem Mp.ok_of (h : Mp w enc ok b f n) (K : KeyOfT P k enc ok) {x : κ} {v : Value} (hf : f x = some v) : ok x := by
  obtain ⟨es, clock, hb, _, hk, _, hf'⟩ := h
  obtain ⟨e, he, hx, _⟩ := (hf' x v).1 hf
  obtain ⟨y, hy, hey⟩ := hk e he
  rw [hx] at hey
  rw [K.inj hey]
  exact hy
theorem Mp.congr {g : κ → Option Value} (h : Mp w enc ok b f n) (hg : ∀ x, g x = f x) : Mp w enc ok b g n := by
  obtain rfl : g = f := funext hg
  exact h

theorem Mp.keys {es : Array MapEntry} (h : ∀ e ∈ es.toList, ∃ x, ok x ∧ e.key = enc x) (K : KeyOfT P k enc ok) : ∀ e ∈ es.toList, ∃ l, keyOf P k e.key = some l := by
  intro e he
  obtain ⟨x, hx, hk⟩ := h e he
  obtain ⟨l, hl⟩ := K.key hx
  exact ⟨l, by rw [hk]; exact hl⟩

/-- A look-up. -/
theorem Mp.look (h : Mp w enc ok b f n) (K : KeyOfT P k enc ok) (ht : P.underlying t = some (.map k e)) {z : Value} (hz : (zeroValue e).run P w = .ok z w) (c : Bool) {x : κ} (hx : ok x) :
    (Instr.lookup t (.map (some b)) (enc x) c).run P w = .ok (if c then .tuple #[(f x).getD z, .bool (f x).isSome] else (f x).getD z) w := by
  obtain ⟨es, clock, hb, hn, hk, hp, hf⟩ := h
  obtain ⟨l, hl⟩ := K.key hx
  rcases K.law.find w hl es.toList (Mp.keys hk K) with ⟨h1, h2⟩ | ⟨j, e0, h1, h2, h3⟩
  · have hnone : f x = none := by
      cases hfx : f x with
      | none => rfl
      | some v =>
        obtain ⟨e, he, hek, _⟩ := (hf x v).1 hfx
        exact absurd hek (h2 e he)
    simp [Instr.lookup, run_underlying ht, MapKept.run_getObj_map hb, K.law.check w _ hl, h1, hz, Result.andThen, hnone]
  · have hsome : f x = some e0.val := (hf x _).2 ⟨e0, List.mem_of_getElem? h2, h3, rfl⟩
    simp [Instr.lookup, run_underlying ht, MapKept.run_getObj_map hb, K.law.check w _ hl, h1, Result.andThen, hsome]

/-- len. -/
theorem Mp.len_ (h : Mp w enc ok b f n) (ht : P.underlying t = some (.map k e)) (ty : TypeId) : (Builtin.len_ #[t] ty #[.map (some b)]).run P w = .ok (.int .i64 (n : Int)) w := by
  obtain ⟨es, clock, hb, hn, _⟩ := h
  simp [Builtin.len_, run_underlying ht, MapKept.run_getObj_map hb, Result.andThen, goInt, hn]

variable [DecidableEq κ]

/-- What a store leaves. -/
def putF (f : κ → Option Value) (x : κ) (v : Value) : κ → Option Value := fun y => if y = x then some v else f y
/-- What a delete leaves. -/
def delF (f : κ → Option Value) (x : κ) : κ → Option Value := fun y => if y = x then none else f y

/-- A store. -/
theorem Mp.store (h : Mp w enc ok b f n) (K : KeyOfT P k enc ok) (ht : P.underlying t = some (.map k e)) {x : κ} (hx : ok x) (v : Value) :
    ∃ w', (Instr.mapUpdate t (.map (some b)) (enc x) v).run P w = .ok () w' ∧ Mp w' enc ok b (putF f x v) (if (f x).isSome then n else n + 1) ∧ Chg (fun i => i = b) w w' ∧ w'.heap.size = w.heap.size := by
  obtain ⟨es, clock, hb, hn, hk, hp, hf⟩ := h
  obtain ⟨l, hl⟩ := K.key hx
  have hlt : b < w.heap.size := (Array.getElem?_eq_some_iff.1 hb).1
  have hchg : ∀ o, Chg (fun i => i = b) w { w with heap := w.heap.setIfInBounds b o } := fun o =>
    ⟨rfl, rfl, rfl, by simp, fun i hi hne => by show (w.heap.setIfInBounds b o)[i]? = _; rw [Array.getElem?_setIfInBounds_ne (fun e => hne e.symm)]⟩
  have hget : ∀ o, ({ w with heap := w.heap.setIfInBounds b o } : World).heap[b]? = some o := fun o => by
    show (w.heap.setIfInBounds b o)[b]? = _
    rw [Array.getElem?_setIfInBounds_self_of_lt hlt]
  rcases K.law.find w hl es.toList (Mp.keys hk K) with ⟨h1, h2⟩ | ⟨j, e0, h1, h2, h3⟩
  · have hnone : f x = none := by
      cases hfx : f x with
      | none => rfl
      | some v =>
        obtain ⟨e, he, hek, _⟩ := (hf x v).1 hfx
        exact absurd hek (h2 e he)
    refine ⟨_, by simp [Instr.mapUpdate, run_underlying ht, MapKept.run_getObj_map hb, K.law.check w false hl, h1, MapKept.run_setObj_map _ hb, Result.andThen], ⟨es.push ⟨enc x, v, clock⟩, clock + 1, hget _, by simp [hnone, hn], ?_, ?_, ?_⟩, hchg _, by simp⟩
    · intro y hy
      simp only [Array.toList_push, List.mem_append, List.mem_singleton] at hy
      rcases hy with hy | rfl
      · exact hk y hy
      · exact ⟨x, hx, rfl⟩
    · rw [Array.toList_push, List.pairwise_append]
      refine ⟨hp, by simp, fun a ha c hc => ?_⟩
      simp only [List.mem_singleton] at hc
      subst hc
      exact h2 a ha
    · intro y u
      unfold putF
      simp only [Array.toList_push, List.mem_append, List.mem_singleton]
      by_cases hyx : y = x
      · subst hyx
        simp only [if_true, Option.some.injEq]
        constructor
        · rintro rfl
          exact ⟨_, Or.inr rfl, rfl, rfl⟩
        · rintro ⟨e, he | rfl, hek, hev⟩
          · exact absurd hek (h2 e he)
          · exact hev
      · rw [if_neg hyx, hf y u]
        constructor
        · rintro ⟨e, he, r⟩
          exact ⟨e, Or.inl he, r⟩
        · rintro ⟨e, he | rfl, hek, hev⟩
          · exact ⟨e, he, hek, hev⟩
          · exact absurd (K.inj hek.symm) hyx
  · have hj : es[j]? = some e0 := by simpa using h2
    have hsome : f x = some e0.val := (hf x _).2 ⟨e0, List.mem_of_getElem? h2, h3, rfl⟩
    have hjl : j < es.toList.length := (List.getElem?_eq_some_iff.1 h2).1
    have hlist : (es.modify j (fun e' => { e' with key := enc x, val := v })).toList = es.toList.set j { e0 with key := enc x, val := v } := by rw [Array.toList_modify, ChangeMaps.modify_eq_set _ _ _ _ h2]
    have hother : ∀ i e', es.toList[i]? = some e' → i ≠ j → e'.key ≠ enc x := by
      intro i e' hi hne hek
      have hil : i < es.toList.length := (List.getElem?_eq_some_iff.1 hi).1
      have hii : es.toList[i] = e' := (List.getElem?_eq_some_iff.1 hi).2
      have hjj : es.toList[j] = e0 := (List.getElem?_eq_some_iff.1 h2).2
      rcases Nat.lt_or_gt_of_ne hne with hlt' | hgt
      · have := List.pairwise_iff_getElem.1 hp i j hil hjl hlt'
        rw [hii, hjj, hek, h3] at this
        exact this rfl
      · have := List.pairwise_iff_getElem.1 hp j i hjl hil hgt
        rw [hii, hjj, hek, h3] at this
        exact this rfl
    have who : ∀ y, y ∈ es.toList.set j { e0 with key := enc x, val := v } ↔ (y = { e0 with key := enc x, val := v } ∨ (y ∈ es.toList ∧ y.key ≠ enc x)) := by
      intro y
      constructor
      · intro hy
        obtain ⟨i, hi, ey⟩ := List.getElem_of_mem hy
        rw [List.getElem_set] at ey
        split at ey
        · exact Or.inl ey.symm
        · rename_i hne
          have hi' : i < es.toList.length := by simpa using hi
          exact Or.inr ⟨ey ▸ List.getElem_mem hi', hother i y (by rw [List.getElem?_eq_getElem hi', ey]) (fun e1 => hne e1.symm)⟩
      · rintro (rfl | ⟨hy, hne⟩)
        · exact List.mem_iff_getElem?.2 ⟨j, by rw [List.getElem?_set_self hjl]⟩
        · obtain ⟨i, hi, ey⟩ := List.getElem_of_mem hy
          have hij : i ≠ j := fun e1 => by subst e1; rw [(List.getElem?_eq_some_iff.1 h2).2] at ey; exact hne (ey ▸ h3)
          exact List.mem_iff_getElem?.2 ⟨i, by rw [List.getElem?_set_ne (fun e1 => hij e1.symm), List.getElem?_eq_getElem hi, ey]⟩
    refine ⟨_, by simp [Instr.mapUpdate, run_underlying ht, MapKept.run_getObj_map hb, K.law.check w false hl, h1, hj, h3, K.law.stays w hl, MapKept.run_setObj_map _ hb, Result.andThen], ⟨es.modify j (fun e' => { e' with key := enc x, val := v }), clock, hget _, by simp [hsome, hn], ?_, ?_, ?_⟩, hchg _, by simp⟩
    · intro y hy
      rw [hlist] at hy
      rcases (who y).1 hy with rfl | ⟨hy', _⟩
      · exact ⟨x, hx, rfl⟩
      · exact hk y hy'
    · rw [hlist]
      refine List.pairwise_iff_getElem.2 fun i1 i2 hi1 hi2 hlt12 => ?_
      rw [List.length_set] at hi1 hi2
      have hpp := List.pairwise_iff_getElem.1 hp i1 i2 hi1 hi2 hlt12
      have hjj : es.toList[j] = e0 := (List.getElem?_eq_some_iff.1 h2).2
      rw [List.getElem_set, List.getElem_set]
      by_cases e1 : j = i1
      · subst e1
        rw [if_pos rfl, if_neg (by omega)]
        rw [hjj, h3] at hpp
        exact hpp
      · rw [if_neg e1]
        by_cases e2 : j = i2
        · subst e2
          rw [if_pos rfl]
          rw [hjj, h3] at hpp
          exact hpp
        · rw [if_neg e2]
          exact hpp
    · intro y u
      rw [hlist]
      unfold putF
      by_cases hyx : y = x
      · subst hyx
        simp only [if_true, Option.some.injEq]
        constructor
        · rintro rfl
          exact ⟨_, (who _).2 (Or.inl rfl), rfl, rfl⟩
        · rintro ⟨e, he, hek, hev⟩
          rcases (who e).1 he with rfl | ⟨_, hne⟩
          · exact hev
          · exact absurd hek hne
      · rw [if_neg hyx, hf y u]
        constructor
        · rintro ⟨e, he, hek, hev⟩
          exact ⟨e, (who e).2 (Or.inr ⟨he, fun e1 => hyx (K.inj (hek.symm.trans e1))⟩), hek, hev⟩
        · rintro ⟨e, he, hek, hev⟩
          rcases (who e).1 he with rfl | ⟨he', _⟩
          · exact absurd (K.inj hek.symm) hyx
          · exact ⟨e, he', hek, hev⟩

/-- A delete. -/
theorem Mp.del (h : Mp w enc ok b f n) (K : KeyOfT P k enc ok) (ht : P.underlying t = some (.map k e)) {x : κ} (hx : ok x) :
    ∃ w', (∀ tk ty : TypeId, (Builtin.delete_ #[t, tk] ty #[.map (some b), enc x]).run P w = .ok (.tuple #[]) w') ∧ Mp w' enc ok b (delF f x) (if (f x).isSome then n - 1 else n) ∧ Chg (fun i => i = b) w w' ∧ w'.heap.size = w.heap.size := by
  obtain ⟨es, clock, hb, hn, hk, hp, hf⟩ := h
  obtain ⟨l, hl⟩ := K.key hx
  have hlt : b < w.heap.size := (Array.getElem?_eq_some_iff.1 hb).1
  have hchg : ∀ o, Chg (fun i => i = b) w { w with heap := w.heap.setIfInBounds b o } := fun o =>
    ⟨rfl, rfl, rfl, by simp, fun i hi hne => by show (w.heap.setIfInBounds b o)[i]? = _; rw [Array.getElem?_setIfInBounds_ne (fun e => hne e.symm)]⟩
  have hget : ∀ o, ({ w with heap := w.heap.setIfInBounds b o } : World).heap[b]? = some o := fun o => by
    show (w.heap.setIfInBounds b o)[b]? = _
    rw [Array.getElem?_setIfInBounds_self_of_lt hlt]
  rcases K.law.find w hl es.toList (Mp.keys hk K) with ⟨h1, h2⟩ | ⟨j, e0, h1, h2, h3⟩
  · have hnone : f x = none := by
      cases hfx : f x with
      | none => rfl
      | some v =>
        obtain ⟨e, he, hek, _⟩ := (hf x v).1 hfx
        exact absurd hek (h2 e he)
    refine ⟨_, by intro tk ty; simp [Builtin.delete_, run_underlying ht, MapKept.run_getObj_map hb, K.law.check w _ hl, h1, MapKept.run_setObj_map _ hb, Result.andThen], ⟨es, clock, hget _, by simp [hnone, hn], hk, hp, ?_⟩, hchg _, by simp⟩
    intro y u
    unfold delF
    by_cases hyx : y = x
    · subst hyx
      simp only [if_true]
      constructor
      · intro h; cases h
      · rintro ⟨e, he, hek, _⟩
        exact absurd hek (h2 e he)
    · rw [if_neg hyx, hf y u]
  · have hsome : f x = some e0.val := (hf x _).2 ⟨e0, List.mem_of_getElem? h2, h3, rfl⟩
    have hjl : j < es.toList.length := (List.getElem?_eq_some_iff.1 h2).1
    have hjj : es.toList[j] = e0 := (List.getElem?_eq_some_iff.1 h2).2
    have hlist : (es.eraseIdxIfInBounds j).toList = es.toList.eraseIdx j := by simp
    have who : ∀ y, y ∈ es.toList.eraseIdx j ↔ (y ∈ es.toList ∧ y.key ≠ enc x) := by
      intro y
      rw [List.mem_eraseIdx_iff_getElem?]
      constructor
      · rintro ⟨i, hne, hi⟩
        refine ⟨List.mem_of_getElem? hi, fun hek => ?_⟩
        have hil : i < es.toList.length := (List.getElem?_eq_some_iff.1 hi).1
        have hii : es.toList[i] = y := (List.getElem?_eq_some_iff.1 hi).2
        rcases Nat.lt_or_gt_of_ne hne with hlt' | hgt
        · have := List.pairwise_iff_getElem.1 hp i j hil hjl hlt'
          rw [hii, hjj, hek, h3] at this
          exact this rfl
        · have := List.pairwise_iff_getElem.1 hp j i hjl hil hgt
          rw [hii, hjj, hek, h3] at this
          exact this rfl
      · rintro ⟨hy, hne⟩
        obtain ⟨i, hi, ey⟩ := List.getElem_of_mem hy
        exact ⟨i, fun e1 => by subst e1; rw [hjj] at ey; exact hne (ey ▸ h3), by rw [List.getElem?_eq_getElem hi, ey]⟩
    refine ⟨_, by intro tk ty; simp [Builtin.delete_, run_underlying ht, MapKept.run_getObj_map hb, K.law.check w _ hl, h1, MapKept.run_setObj_map _ hb, Result.andThen], ⟨es.eraseIdxIfInBounds j, clock, hget _, ?_, ?_, ?_, ?_⟩, hchg _, by simp⟩
    · have hjs : j < es.size := by simpa using hjl
      rw [← Array.length_toList, hlist, List.length_eraseIdx_of_lt hjl]
      simp [hsome, hn]
    · intro y hy
      rw [hlist] at hy
      exact hk y ((who y).1 hy).1
    · rw [hlist]
      exact hp.sublist (List.eraseIdx_sublist _ _)
    · intro y u
      rw [hlist]
      unfold delF
      by_cases hyx : y = x
      · subst hyx
        simp only [if_true]
        constructor
        · intro h; cases h
        · rintro ⟨e, he, hek, _⟩
          exact absurd hek ((who e).1 he).2
      · rw [if_neg hyx, hf y u]
        constructor
        · rintro ⟨e, he, hek, hev⟩
          exact ⟨e, (who e).2 ⟨he, fun e1 => hyx (K.inj (hek.symm.trans e1))⟩, hek, hev⟩
        · rintro ⟨e, he, hek, hev⟩
          exact ⟨e, ((who e).1 he).1, hek, hev⟩

end
end Go.Proofs.Ytfkedhclhmbpfaa
