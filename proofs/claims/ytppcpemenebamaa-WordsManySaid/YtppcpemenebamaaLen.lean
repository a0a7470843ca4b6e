/-
  The contracts of the table's Len and Bytes: ranges over slices.Values.
-/
import Derived.RangeFuncNested
import Derived.RangeFuncBound
import Derived.RangeFuncCalls
import Derived.RangeFuncLeaves
import Derived.RangeFuncBox
import Derived.Shelf.Abstract
import Derived.OwnWalkIn
import Derived.TacticsInMore
import Derived.LoopNIn
import Derived.LoopIn
import Derived.Test.YtppcpemenebamaaTab
namespace Go.Proofs.Ytppcpemenebamaa
open Go.RowKit Go.Shelf
set_option linter.unusedVariables false
set_option linter.unusedSimpArgs false
attribute [local go_sem] Oper.semAt_some

set_option maxHeartbeats 1000000 in
theorem values_in (F : Fence) (n : Nat) (h5 : F.fn 17) (hro : F.round = none) (a : Option Addr) (len cap : Nat) (w : World) :
    CallsIn F n Try.prog 17 #[.slice a len cap] w fun e w' => e = .returned (.func (.func 18) #[] #[.pointer (some ⟨w.heap.size, 0, none⟩)]) ∧ w' = w.alloc (.cells #[.slice a len cap] 22) := by
  refine callsIn_of_wp Try.func17 rfl h5 ?_ hro
  simp only [Try.ntmps17, List.size_toArray, List.length_cons, List.length_nil, Nat.reduceAdd, Nat.reduceSub, Array.replicate_succ, Array.replicate_zero, List.push_toArray, List.append_toArray, List.nil_append, List.cons_append]
  gi_wp2
  go_ret
  exact ⟨rfl, rfl⟩

set_option maxRecDepth 100000 in
set_option maxHeartbeats 2000000 in
theorem values1_in (F : Fence) (n : Nat) (h7 : F.fn 18) (hro : F.round = none) (hn : 1 ≤ n) (l Bs n₀ cap : Nat) (A : Option Addr) (ss : List ByteArray) (hreach : ss.length ≤ 100000) (J Jx : List ByteArray → World → Prop)
    (hY : ∀ pre x W, J pre W → pre.length < ss.length → YieldAt F (n - 1) Try.prog l #[.string x] W fun e W' =>
      (e = .returned (.bool true) ∧ J (pre ++ [x]) W' ∧ Below n₀ W W') ∨ (e = .returned (.bool false) ∧ Jx (pre ++ [x]) W'))
    (W : World) (hBs : W.cell? ⟨Bs, 0, none⟩ = some (.slice A ss.length cap)) (hc : ∀ k (h : k < ss.length), ∃ b off, A = some ⟨b, off, none⟩ ∧ b < n₀ ∧ W.cell? ⟨b, off + k, none⟩ = some (.string ss[k])) (h0 : J [] W) :
    CallsIn F n Try.prog 18 #[.func (.yield l) #[] #[], .pointer (some ⟨Bs, 0, none⟩)] W fun e W' => (∃ v, e = .returned v) ∧
      ((∃ ys, ys = ss ∧ J ys W') ∨ (∃ pre, pre <+: ss ∧ Jx pre W')) := by
  refine callsIn_of_wp Try.func18 rfl h7 ?_ hro
  simp only [Try.ntmps18, List.size_toArray, List.length_cons, List.length_nil, Nat.reduceAdd, Nat.reduceSub, Array.replicate_succ, Array.replicate_zero, List.push_toArray, List.append_toArray, List.nil_append, List.cons_append]
  gi_wp2
  gi_loopw [7] (fun i wr => ∃ k : Nat, k ≤ ss.length ∧ i = .int .i64 k ∧ J (ss.take k) wr ∧ Below n₀ W wr)
    (fun i _ => ss.length - (intOf i).toNat)
  case atStart => exact ⟨0, Nat.zero_le _, rfl, h0, Below.refl _ _⟩
  case round =>
    obtain ⟨k, hk, rfl, hJs, hnx⟩ := hrel
    by_cases hlt : k < ss.length
    · obtain ⟨b, off, rfl, hb, hck⟩ := hc k hlt
      have hcx : wr.cell? ⟨b, off + k, none⟩ = some (.string ss[k]) := (hnx.cell (p := ⟨b, off + k, none⟩) hb).trans hck
      obtain ⟨s, hs⟩ : ∃ s, s = ss[k] := ⟨_, rfl⟩
      rw [← hs] at hcx
      have hst : ss.take (k + 1) = ss.take k ++ [s] := by rw [hs, List.take_succ_eq_append_getElem hlt]
      have HST := hid hst
      obtain ⟨fn, tmps, assign, body, hy, hR⟩ := hY _ s wr hJs (by rw [List.length_take]; omega)
      clear hst hs hck
      gi_wp2
      refine hR.mono ?_
      rintro e W3 (⟨rfl, hJ3, hk3⟩ | ⟨rfl, hJx3⟩)
      · gi_wp2
        go_roundw
        case rel => exact ⟨k + 1, by omega, by simp, by rw [HST.out]; exact hJ3, hnx.trans hk3⟩
        case measure => simp [intOf]; omega
      · gi_wp2
        refine bodyPost_ret (results_none rfl _ _ _) rfl ?_
        exact ⟨⟨_, rfl⟩, .inr ⟨ss.take (k + 1), List.take_prefix _ _, by rw [HST.out]; exact hJx3⟩⟩
    · obtain rfl : k = ss.length := by omega
      gi_wp2
      go_end0
      exact ⟨⟨_, rfl⟩, .inl ⟨_, rfl, by simpa using hJs⟩⟩

/-- The iterator's contract. -/
theorem values_stops (F : Fence) (n : Nat) (h7 : F.fn 18) (hro : F.round = none) (hn : 1 ≤ n) (Bs n₀ cap : Nat) (A : Option Addr) (ss : List ByteArray) (hreach : ss.length ≤ 100000) (w : World) (hBs : Bs < w.heap.size) (hn₀ : n₀ ≤ w.heap.size)
    (hc : w.cell? ⟨Bs, 0, none⟩ = some (.slice A ss.length cap)) (hI : ∀ k (h : k < ss.length), ∃ b off, A = some ⟨b, off, none⟩ ∧ b < n₀ ∧ w.cell? ⟨b, off + k, none⟩ = some (.string ss[k])) :
    SeqStopsK F n Try.prog 18 #[.pointer (some ⟨Bs, 0, none⟩)] (fun x : ByteArray => #[Value.string x]) (Below n₀) (fun ys => ys = ss) (fun pre => pre <+: ss) ss.length w := fun l J Jx W hW _ _ hY h0 => by
  have hc' := (hW.cell (p := ⟨Bs, 0, none⟩) hBs).trans hc
  refine (values1_in F n h7 hro hn l Bs n₀ cap A ss hreach J Jx hY W hc' (fun k h => ?_) h0).mono ?_
  · obtain ⟨b, off, hA, hb, hk⟩ := hI k h
    exact ⟨b, off, hA, hb, (hW.cell (p := ⟨b, off + k, none⟩) (by show b < _; omega)).trans hk⟩
  · rintro e W' ⟨he, ⟨ys, rfl, hj⟩ | ⟨pre, hp, hj⟩⟩
    · exact ⟨he, .inl ⟨_, rfl, hj⟩⟩
    · exact ⟨he, .inr ⟨_, hp, hj⟩⟩

set_option maxHeartbeats 1000000 in
theorem all_in (F : Fence) (n : Nat) (h5 : F.fn 16) (h17 : F.fn 17) (hro : F.round = none) (hn : 1 ≤ n) (b len cap : Nat) (a : Option Addr) (w : World) (hc : w.cell? ⟨b, 1, none⟩ = some (.slice a len cap)) :
    CallsIn F n Try.prog 16 #[.pointer (some ⟨b, 0, none⟩)] w fun e w' => e = .returned (.func (.func 18) #[] #[.pointer (some ⟨w.heap.size, 0, none⟩)]) ∧ w' = w.alloc (.cells #[.slice a len cap] 22) := by
  refine callsIn_of_wp Try.func16 rfl h5 ?_ hro
  simp only [Try.ntmps16, List.size_toArray, List.length_cons, List.length_nil, Nat.reduceAdd, Nat.reduceSub, Array.replicate_succ, Array.replicate_zero, List.push_toArray, List.append_toArray, List.nil_append, List.cons_append]
  gi_wp2_with (gi_at_call 17; refine (values_in F (n - 1) h17 hro _ _ _ _).mono ?_; rintro e w' ⟨rfl, rfl⟩)
  go_ret
  exact ⟨rfl, rfl⟩

set_option maxHeartbeats 1000000 in
theorem all_nil_in (F : Fence) (n : Nat) (h5 : F.fn 16) (h17 : F.fn 17) (hro : F.round = none) (hn : 1 ≤ n) (w : World) :
    CallsIn F n Try.prog 16 #[.pointer none] w fun e w' => e = .returned (.func (.func 18) #[] #[.pointer (some ⟨w.heap.size, 0, none⟩)]) ∧ w' = w.alloc (.cells #[.slice none 0 0] 22) := by
  refine callsIn_of_wp Try.func16 rfl h5 ?_ hro
  simp only [Try.ntmps16, List.size_toArray, List.length_cons, List.length_nil, Nat.reduceAdd, Nat.reduceSub, Array.replicate_succ, Array.replicate_zero, List.push_toArray, List.append_toArray, List.nil_append, List.cons_append]
  gi_wp2_with (gi_at_call 17; refine (values_in F (n - 1) h17 hro _ _ _ _).mono ?_; rintro e w' ⟨rfl, rfl⟩)
  go_ret
  exact ⟨rfl, rfl⟩

/-- What the iterator value of a table, or of none, leads to. -/
def Iter (w : World) (p : Option Addr) (A : Option Addr) (cap : Nat) (ss : List ByteArray) : Prop :=
  (p = none ∧ A = none ∧ cap = 0 ∧ ss = []) ∨ ∃ b, p = some ⟨b, 0, none⟩ ∧ w.cell? ⟨b, 1, none⟩ = some (.slice A ss.length cap)
theorem Iter.call {w : World} {p A : Option Addr} {cap : Nat} {ss : List ByteArray} (h : Iter w p A cap ss) (F : Fence) (n : Nat) (h5 : F.fn 16) (h17 : F.fn 17) (hro : F.round = none) (hn : 1 ≤ n) (W : World) (hW : Below w.heap.size w W) :
    CallsIn F n Try.prog 16 #[.pointer p] W fun e w' => e = .returned (.func (.func 18) #[] #[.pointer (some ⟨W.heap.size, 0, none⟩)]) ∧ w' = W.alloc (.cells #[.slice A ss.length cap] 22) := by
  rcases h with ⟨rfl, rfl, rfl, rfl⟩ | ⟨b, rfl, hc⟩
  · exact all_nil_in F n h5 h17 hro hn W
  · exact all_in F n h5 h17 hro hn b _ _ _ W ((hW.cell (p := ⟨b, 1, none⟩) (lt_of_cell hc)).trans hc)

set_option maxRecDepth 100000 in
set_option maxHeartbeats 2000000 in
theorem len_in (F : Fence) (n : Nat) (h3 : F.fn 11) (h16 : F.fn 16) (h17 : F.fn 17) (h18 : F.fn 18) (hro : F.round = none) (hn : 4 ≤ n) (p A : Option Addr) (cap : Nat) (ss : List ByteArray) (hreach : ss.length ≤ 100000) (w : World) (hI : Iter w p A cap ss)
    (hcs : ∀ k (h : k < ss.length), ∃ b off, A = some ⟨b, off, none⟩ ∧ b < w.heap.size ∧ w.cell? ⟨b, off + k, none⟩ = some (.string ss[k])) :
    CallsIn F n Try.prog 11 #[.pointer p] w fun e W' => e = .returned (.int .i64 ss.length) ∧ Below w.heap.size w W' := by
  have h1 : 1 ≤ n := by omega
  have HI := hid hI
  have HC := hid hcs
  clear hI hcs
  refine callsIn_of_wp_marks Try.func11 rfl h3 ?_ hro
  simp only [Try.ntmps11, List.size_toArray, List.length_cons, List.length_nil, Nat.reduceAdd, Nat.reduceSub, Array.replicate_succ, Array.replicate_zero, List.push_toArray, List.append_toArray, List.nil_append, List.cons_append]
  gi_wp2_with (gi_at_call 16; refine (HI.out.call F (n - 1) h16 h17 hro (by omega) _ ((Below.refl _ w).alloc (Nat.le_refl _) _)).mono ?_; rintro e w' ⟨rfl, rfl⟩)
  have bS := Boxed.new w 3 (.int .i64 0)
  have bN := Boxed.new (w.alloc (.cells #[.int .i64 0] 3)) 22 (.slice A ss.length cap)
  rw [World.size_alloc] at bN
  have hB0 : Below w.heap.size w ((w.alloc (.cells #[.int .i64 0] 3)).alloc (.cells #[.slice A ss.length cap] 22)) := ((Below.refl _ w).alloc (Nat.le_refl _) _).alloc (by simp) _
  refine wpIn_rangeFunc_ownG hro h1 (gf := 18) (lb := #[.pointer (some ⟨w.heap.size + 1, 0, none⟩)]) rfl h18 (enters_of Try.func18 (by kernel_rfl) rfl)
    (values_stops F (n - 1) h18 hro (by omega) (w.heap.size + 1) w.heap.size cap A ss hreach _ (by simp) (by simp; omega) bN.cell (fun k h => by
      obtain ⟨b, off, hA, hb, hk⟩ := HC.out k h
      exact ⟨b, off, hA, hb, (hB0.cell (p := ⟨b, off + k, none⟩) hb).trans hk⟩)) belowK_t (belowK_b (by simp; omega)) (Below.refl _ _) (fun _ => rfl)
    (fun pre W => (W.cell? ⟨w.heap.size, 0, none⟩ = some (.int .i64 pre.length) ∧ W.frozen? ⟨w.heap.size, 0, none⟩ = false) ∧ Below w.heap.size w W)
    (fun _ _ _ => False)
    (OwnFrom.and (Own.from (fun s A B row hs hg hr => ⟨cell_kept hs.1 hg hr, (frozen_kept hs.1 hg hr).trans hs.2⟩) _) (ownFrom_below (Nat.le_refl _) (by simp; omega)))
    (fun _ _ _ _ _ hs _ _ => hs)
    ⟨⟨(bS.alloc _).cell, (bS.alloc _).frozen⟩, hB0⟩
    (fun x => { tmps := #[.pointer p, undef, .int .i64 0, .pointer (some ⟨w.heap.size, 0, none⟩), .pointer p, .func (.func 18) #[] #[.pointer (some ⟨w.heap.size + 1, 0, none⟩)], .string x, undef, undef, undef], defers := [] }) ?assign ?body ?done ?stop
  case assign =>
    intro l x W K hK
    gi_wp2
    simpa using hK
  case body =>
    rintro l pre x W ⟨⟨hc, hf⟩, hB⟩ hlt
    gi_wp2
    exact ⟨(KeepsOthers.setCell _ _ _).from _, (Below.refl w.heap.size W).setCell (p := ⟨w.heap.size, 0, none⟩) (Nat.le_refl _) _, ⟨by rw [List.length_append]; exact World.cell?_setCell_same' _ _ _ (by rw [hc]; rfl), by rw [World.frozen?_setCell]; exact hf⟩, hB.setCell (p := ⟨w.heap.size, 0, none⟩) (Nat.le_refl _) _⟩
  case done =>
    rintro D ys W hD rfl ⟨⟨hc, _⟩, hB⟩ hK
    gi_wp2
    refine ⟨by simp, .inl ⟨_, _, rfl, run_takeDeferred hK, ?_⟩⟩
    exact ⟨_, results_tmp rfl _ _ _, rfl, hB.trans (belowK_b (w := w) (Nat.le_refl _) W D _ _ (by simp at hD; omega) hK rfl rfl)⟩
  case stop =>
    rintro D c pre W _ _ h _
    exact h.elim

/-- The bytes of texts, as they are added up. -/
def bytesW : List ByteArray → Int := List.foldl (fun s x => wrap64 (s + x.size)) 0
theorem bytesW_snoc (pre : List ByteArray) (x : ByteArray) : bytesW (pre ++ [x]) = wrap64 (bytesW pre + x.size) := by simp [bytesW]

set_option maxRecDepth 100000 in
set_option maxHeartbeats 2000000 in
theorem bytes_in (F : Fence) (n : Nat) (h3 : F.fn 15) (h16 : F.fn 16) (h17 : F.fn 17) (h18 : F.fn 18) (hro : F.round = none) (hn : 4 ≤ n) (p A : Option Addr) (cap : Nat) (ss : List ByteArray) (hreach : ss.length ≤ 100000) (w : World) (hI : Iter w p A cap ss)
    (hcs : ∀ k (h : k < ss.length), ∃ b off, A = some ⟨b, off, none⟩ ∧ b < w.heap.size ∧ w.cell? ⟨b, off + k, none⟩ = some (.string ss[k])) :
    CallsIn F n Try.prog 15 #[.pointer p] w fun e W' => e = .returned (.int .i64 (bytesW ss)) ∧ Below w.heap.size w W' := by
  have h1 : 1 ≤ n := by omega
  have HI := hid hI
  have HC := hid hcs
  clear hI hcs
  refine callsIn_of_wp_marks Try.func15 rfl h3 ?_ hro
  simp only [Try.ntmps15, List.size_toArray, List.length_cons, List.length_nil, Nat.reduceAdd, Nat.reduceSub, Array.replicate_succ, Array.replicate_zero, List.push_toArray, List.append_toArray, List.nil_append, List.cons_append]
  gi_wp2_with (gi_at_call 16; refine (HI.out.call F (n - 1) h16 h17 hro (by omega) _ ((Below.refl _ w).alloc (Nat.le_refl _) _)).mono ?_; rintro e w' ⟨rfl, rfl⟩)
  have bS := Boxed.new w 3 (.int .i64 0)
  have bN := Boxed.new (w.alloc (.cells #[.int .i64 0] 3)) 22 (.slice A ss.length cap)
  rw [World.size_alloc] at bN
  have hB0 : Below w.heap.size w ((w.alloc (.cells #[.int .i64 0] 3)).alloc (.cells #[.slice A ss.length cap] 22)) := ((Below.refl _ w).alloc (Nat.le_refl _) _).alloc (by simp) _
  refine wpIn_rangeFunc_ownG hro h1 (gf := 18) (lb := #[.pointer (some ⟨w.heap.size + 1, 0, none⟩)]) rfl h18 (enters_of Try.func18 (by kernel_rfl) rfl)
    (values_stops F (n - 1) h18 hro (by omega) (w.heap.size + 1) w.heap.size cap A ss hreach _ (by simp) (by simp; omega) bN.cell (fun k h => by
      obtain ⟨b, off, hA, hb, hk⟩ := HC.out k h
      exact ⟨b, off, hA, hb, (hB0.cell (p := ⟨b, off + k, none⟩) hb).trans hk⟩)) belowK_t (belowK_b (by simp; omega)) (Below.refl _ _) (fun _ => rfl)
    (fun pre W => (W.cell? ⟨w.heap.size, 0, none⟩ = some (.int .i64 (bytesW pre)) ∧ W.frozen? ⟨w.heap.size, 0, none⟩ = false) ∧ Below w.heap.size w W)
    (fun _ _ _ => False)
    (OwnFrom.and (Own.from (fun s A B row hs hg hr => ⟨cell_kept hs.1 hg hr, (frozen_kept hs.1 hg hr).trans hs.2⟩) _) (ownFrom_below (Nat.le_refl _) (by simp; omega)))
    (fun _ _ _ _ _ hs _ _ => hs)
    ⟨⟨(bS.alloc _).cell, (bS.alloc _).frozen⟩, hB0⟩
    (fun x => { tmps := #[.pointer p, undef, .int .i64 0, .pointer (some ⟨w.heap.size, 0, none⟩), .string x, .pointer p, .func (.func 18) #[] #[.pointer (some ⟨w.heap.size + 1, 0, none⟩)], .string x, undef, undef, undef, undef, undef], defers := [] }) ?assign ?body ?done ?stop
  case assign =>
    intro l x W K hK
    gi_wp2
    exact hK
  case body =>
    rintro l pre x W ⟨⟨hc, hf⟩, hB⟩ hlt
    gi_wp2
    exact ⟨(KeepsOthers.setCell _ _ _).from _, (Below.refl w.heap.size W).setCell (p := ⟨w.heap.size, 0, none⟩) (Nat.le_refl _) _, ⟨by rw [bytesW_snoc]; exact World.cell?_setCell_same' _ _ _ (by rw [hc]; rfl), by rw [World.frozen?_setCell]; exact hf⟩, hB.setCell (p := ⟨w.heap.size, 0, none⟩) (Nat.le_refl _) _⟩
  case done =>
    rintro D ys W hD rfl ⟨⟨hc, _⟩, hB⟩ hK
    gi_wp2
    refine ⟨by simp, .inl ⟨_, _, rfl, run_takeDeferred hK, ?_⟩⟩
    exact ⟨_, results_tmp rfl _ _ _, rfl, hB.trans (belowK_b (w := w) (Nat.le_refl _) W D _ _ (by simp at hD; omega) hK rfl rfl)⟩
  case stop =>
    rintro D c pre W _ _ h _
    exact h.elim

/-- How many bytes texts have together. -/
def bytesOf : List ByteArray → Nat
  | [] => 0
  | s :: r => s.size + bytesOf r
theorem bytesOf_append (a b : List ByteArray) : bytesOf (a ++ b) = bytesOf a + bytesOf b := by
  induction a with
  | nil => simp [bytesOf]
  | cons x r ih => simp [bytesOf, ih]; omega
theorem bytesOf_le {l : List ByteArray} (h : ∀ s ∈ l, okS s) : bytesOf l ≤ l.length * 140737488351232 := by
  induction l with
  | nil => simp [bytesOf]
  | cons x r ih =>
    have h1 := ih fun s hs => h s (by simp [hs])
    have h2 : x.size ≤ 140737488351232 := h x (by simp)
    simp only [bytesOf, List.length_cons]
    omega
theorem bytesW_eq (l : List ByteArray) : ∀ (c : Int), 0 ≤ c → c + bytesOf l ≤ 9223372036854775807 → List.foldl (fun s (x : ByteArray) => wrap64 (s + x.size)) c l = c + bytesOf l := by
  induction l with
  | nil => intro c _ _; simp [bytesOf]
  | cons x r ih =>
    intro c h0 h1
    simp only [bytesOf] at h1
    simp only [List.foldl_cons, bytesOf]
    have hw : wrap64 (c + x.size) = c + x.size := IntWalk.wrap64_in _ ⟨by omega, by omega⟩
    rw [hw, ih _ (by omega) (by omega)]
    omega

theorem tab_iter {w : World} {b : Nat} {F : Nat → Prop} {l : List ByteArray} (h : Tab w b F l) : ∃ A cap, Iter w (some ⟨b, 0, none⟩) A cap l ∧
    ∀ k (h : k < l.length), ∃ b off, A = some ⟨b, off, none⟩ ∧ b < w.heap.size ∧ w.cell? ⟨b, off + k, none⟩ = some (.string l[k]) := by
  obtain ⟨⟨mb, sv, fb, fm, fg, hb, hm, ho⟩, h1, h2, h3⟩ := h
  obtain ⟨A, cap, rfl, hr⟩ := own_shape ho
  refine ⟨A, cap, Or.inr ⟨b, rfl, by rw [hb.cell]; rfl⟩, fun k hk => ?_⟩
  obtain ⟨g, off, hA, hg, hcs⟩ := hr.at_ (k := k) (by simpa using hk)
  exact ⟨g, off, hA, hg, hcs k _ (by rw [List.getElem?_map, List.getElem?_eq_getElem hk]; rfl)⟩

theorem Chg.of_below {w w' : World} (h : Below w.heap.size w w') : Chg (fun _ => False) w w' := ⟨h.os, h.tape, h.output, h.size, fun k hk _ => h.block k hk⟩

theorem len_any (w : World) (b : Nat) (F : Nat → Prop) (l : List ByteArray) (h : Tab w b F l) (hl : l.length ≤ 100000) :
    Calls Try.prog 11 #[.pointer (some ⟨b, 0, none⟩)] w fun e w' => e = .returned (.int .i64 l.length) ∧ Chg (fun _ => False) w w' := by
  obtain ⟨A, cap, hi, hc⟩ := tab_iter h
  refine (callsIn_wide.1 (len_in Fence.wide 4 trivial trivial trivial trivial rfl (by omega) _ A cap l hl w hi hc)).mono ?_
  rintro e w' ⟨he, hb⟩
  exact ⟨he, .of_below hb⟩
theorem len_nil (w : World) : Calls Try.prog 11 #[.pointer none] w fun e w' => e = .returned (.int .i64 0) ∧ Chg (fun _ => False) w w' := by
  refine (callsIn_wide.1 (len_in Fence.wide 4 trivial trivial trivial trivial rfl (by omega) none none 0 [] (by simp) w (Or.inl ⟨rfl, rfl, rfl, rfl⟩) (by simp))).mono ?_
  rintro e w' ⟨he, hb⟩
  exact ⟨he, .of_below hb⟩
theorem bytes_any (w : World) (b : Nat) (F : Nat → Prop) (l : List ByteArray) (h : Tab w b F l) (hl : l.length ≤ 1000) :
    Calls Try.prog 15 #[.pointer (some ⟨b, 0, none⟩)] w fun e w' => e = .returned (.int .i64 (bytesOf l)) ∧ Chg (fun _ => False) w w' := by
  obtain ⟨A, cap, hi, hc⟩ := tab_iter h
  refine (callsIn_wide.1 (bytes_in Fence.wide 4 trivial trivial trivial trivial rfl (by omega) _ A cap l (by omega) w hi hc)).mono ?_
  rintro e w' ⟨he, hb⟩
  have hle := bytesOf_le h.small
  have : bytesW l = bytesOf l := by
    unfold bytesW
    rw [bytesW_eq l 0 (by omega) (by omega)]
    omega
  exact ⟨by rw [he, this], .of_below hb⟩
theorem bytes_nil (w : World) : Calls Try.prog 15 #[.pointer none] w fun e w' => e = .returned (.int .i64 0) ∧ Chg (fun _ => False) w w' := by
  refine (callsIn_wide.1 (bytes_in Fence.wide 4 trivial trivial trivial trivial rfl (by omega) none none 0 [] (by simp) w (Or.inl ⟨rfl, rfl, rfl, rfl⟩) (by simp))).mono ?_
  rintro e w' ⟨he, hb⟩
  exact ⟨he, .of_below hb⟩
end Go.Proofs.Ytppcpemenebamaa
