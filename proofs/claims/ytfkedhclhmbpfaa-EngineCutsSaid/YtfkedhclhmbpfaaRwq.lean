/-
  A rules' list that a law builds itself: a row of its own, of rules that ask for one key at most.
-/
import Derived.Test.YtfkedhclhmbpfaaRig
namespace Go.Proofs.Ytfkedhclhmbpfaa
open Go.RowKit Go.Maps
set_option linter.unusedVariables false
set_option linter.unusedSimpArgs false

def lvQ (q : Rule × Nat) : Value := if q.1.l = [] then .slice none 0 0 else .slice (some ⟨q.2, 0, none⟩) 1 1
def rulV (qs : List (Rule × Nat)) : List Value := qs.flatMap fun q => [.int .i64 q.1.kind, lvQ q]
theorem rulV_snoc (qs : List (Rule × Nat)) (q : Rule × Nat) : rulV (qs ++ [q]) = rulV qs ++ [.int .i64 q.1.kind, lvQ q] := by
  unfold rulV
  rw [List.flatMap_append]
  simp
theorem rulV_at (qs : List (Rule × Nat)) : ∀ (i : Nat) (q : Rule × Nat), qs[i]? = some q → (rulV qs)[i * 2]? = some (.int .i64 q.1.kind) ∧ (rulV qs)[i * 2 + 1]? = some (lvQ q) := by
  induction qs with
  | nil => intro i x h; simp at h
  | cons y r ih =>
    intro i x h
    have e : rulV (y :: r) = .int .i64 y.1.kind :: lvQ y :: rulV r := rfl
    rw [e]
    cases i with
    | zero =>
      obtain rfl := Option.some.inj h
      exact ⟨rfl, rfl⟩
    | succ i =>
      have := ih i x (by simpa using h)
      rw [show (i + 1) * 2 = i * 2 + 1 + 1 by omega]
      exact ⟨this.1, this.2⟩
structure RowQ (B : Nat) (w : World) (v : Value) (qs : List (Rule × Nat)) : Prop where
  own : w.ownsRow B 43 2 v qs.length (rulV qs)
  blk : ∀ q ∈ qs, q.1.l = [] ∨ ∃ d, q.1.l = [d] ∧ ok d ∧ B ≤ q.2 ∧ Blk w q.2 3 #[.int .i64 d]
  kind : ∀ q ∈ qs, ok q.1.kind
theorem RowQ.snoc {B : Nat} {w w2 : World} {v v' : Value} {qs : List (Rule × Nat)} {q : Rule × Nat} (h : RowQ B w v qs) (hc : Chg (fun k => v.ownBlock = some k) w w2) (ho : w2.ownsRow B 43 2 v' (qs.length + 1) (rulV qs ++ [.int .i64 q.1.kind, lvQ q]))
    (hb : q.1.l = [] ∨ ∃ d, q.1.l = [d] ∧ ok d ∧ B ≤ q.2 ∧ Blk w2 q.2 3 #[.int .i64 d]) (hk : ok q.1.kind) : RowQ B w2 v' (qs ++ [q]) := by
  refine ⟨by rw [List.length_append, rulV_snoc]; exact ho, fun x hx => ?_, fun x hx => ?_⟩
  · rcases List.mem_append.1 hx with hx | hx
    · rcases h.blk x hx with h1 | ⟨d, h1, h2, h3, h4⟩
      · exact .inl h1
      · exact .inr ⟨d, h1, h2, h3, hc.blk h4 (fun e => own_ne_b h.own h4 (by omega) _ e rfl)⟩
    · rw [List.mem_singleton.1 hx]
      exact hb
  · rcases List.mem_append.1 hx with hx | hx
    · exact h.kind x hx
    · rw [List.mem_singleton.1 hx]
      exact hk
theorem RowQ.mono {B : Nat} {w w2 : World} {v : Value} {qs : List (Rule × Nat)} (h : RowQ B w v qs) (hc : Chg (fun _ => False) w w2) : RowQ B w2 v qs := by
  refine ⟨own_chg h.own hc (fun _ _ h => h), fun x hx => ?_, h.kind⟩
  rcases h.blk x hx with h1 | ⟨d, h1, h2, h3, h4⟩
  · exact .inl h1
  · exact .inr ⟨d, h1, h2, h3, hc.blk h4 (fun h => h)⟩
theorem RowQ.rules {B : Nat} {w : World} {v : Value} {qs : List (Rule × Nat)} (h : RowQ B w v qs) (hl : qs.length ≤ 1000) : ∃ A cap, v = .slice A qs.length cap ∧ RulesAt w (fun k => w.heap.size ≤ k) A (qs.map fun q => q.1) := by
  have hok : ∀ r ∈ qs.map (fun q => q.1), ok r.kind ∧ ∀ d ∈ r.l, ok d := by
    intro r hr
    obtain ⟨q, hq, rfl⟩ := List.mem_map.1 hr
    refine ⟨h.kind q hq, fun d hd => ?_⟩
    rcases h.blk q hq with h1 | ⟨d', h1, h2, _⟩
    · rw [h1] at hd; cases hd
    · rw [h1, List.mem_singleton] at hd; rw [hd]; exact h2
  have hlen : ∀ r ∈ qs.map (fun q => q.1), r.l.length ≤ 100 := by
    intro r hr
    obtain ⟨q, hq, rfl⟩ := List.mem_map.1 hr
    rcases h.blk q hq with h1 | ⟨d', h1, _⟩
    · rw [h1]; simp
    · rw [h1]; simp
  rcases id h.own.2 with ⟨rfl, h0⟩ | ⟨g, cap', cur, rfl, _⟩
  · have hn : qs = [] := List.length_eq_zero_iff.1 h0
    exact ⟨none, 0, by rw [h0], by rw [List.length_map]; omega, hlen, hok, by rw [hn]; intro i r hi; simp at hi⟩
  · refine ⟨_, _, rfl, by rw [List.length_map]; omega, hlen, hok, fun i r hi => ?_⟩
    rw [List.getElem?_map, Option.map_eq_some_iff] at hi
    obtain ⟨q, hq, rfl⟩ := hi
    obtain ⟨h1, h2⟩ := rulV_at qs i q hq
    have hg := own_lt h.own
    rcases h.blk q (List.mem_of_getElem? hq) with h3 | ⟨d, h3, h4, h5, h6⟩
    · have e : lvQ q = .slice none 0 0 := by unfold lvQ; rw [if_pos h3]
      rw [e] at h2
      refine ⟨g, 0, none, 0, rfl, by omega, by rw [Nat.zero_add]; exact own_cell h.own h1, by rw [Nat.zero_add, h3]; exact own_cell h.own h2, fun j d hj => ?_⟩
      rw [h3] at hj
      simp at hj
    · have e : lvQ q = .slice (some ⟨q.2, 0, none⟩) 1 1 := by unfold lvQ; rw [if_neg (by rw [h3]; simp)]
      rw [e] at h2
      refine ⟨g, 0, some ⟨q.2, 0, none⟩, 1, rfl, by omega, by rw [Nat.zero_add]; exact own_cell h.own h1, by rw [Nat.zero_add, h3]; exact own_cell h.own h2, fun j d' hj => ⟨q.2, 0, rfl, by have := h6.lt; omega, fun j d' hj => ?_⟩⟩
      rw [h3] at hj
      cases j with
      | zero =>
        simp at hj
        subst hj
        rw [h6.cell]
        rfl
      | succ j => simp at hj
theorem newsQ (w : World) (n : Nat) (x y : Value) (t : TypeId) (hz : w.heap.size = n) : ∀ j u, [x, y][j]? = some u → (w.alloc (.cells #[x, y] t)).cell? ((⟨n, 0, none⟩ : Addr).add j) = some u := by
  subst hz
  intro j u hj
  match j, hj with
  | 0, hj => simp at hj; subst hj; simp [Addr.add]
  | 1, hj => simp at hj; subst hj; simp [Addr.add]
theorem info43 : (Try.prog.info? 43).map (fun i => (i.zero, i.size, i.bytes)) = some (some (.agg #[.int .i64 0, .slice none 0 0]), 2, 32) := by kernel_rfl
end Go.Proofs.Ytfkedhclhmbpfaa
