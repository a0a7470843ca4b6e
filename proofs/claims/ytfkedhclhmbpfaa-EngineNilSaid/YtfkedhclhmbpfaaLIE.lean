/-
  A list of keys in memory: the iterator from the last key on.
-/
import Derived.RangeFuncNested
import Derived.RangeFuncBound
import Derived.RangeFuncCalls
import Derived.RangeFuncLeaves
import Derived.Shelf.Abstract
import Derived.OwnWalkIn
import Derived.TacticsInMore
import Derived.LoopNIn
import Derived.LoopIn
import Derived.Test.YtfkedhclhmbpfaaLID
namespace Go.Proofs.Ytfkedhclhmbpfaa.LI
open Go.RowKit Go.Maps Go.Shelf
set_option linter.unusedVariables false
set_option linter.unusedSimpArgs false
attribute [local go_sem] Oper.semAt_some

section
variable {w w' : World} {b : Nat} {F G : Nat → Prop} {ks : List Int} {g cap mb N : Nat} {ky : Nat → Int} {nx pv : Nat → Nat} {fv : Value} {ps fr : List Nat} {f : Int → Option Value}
theorem Made.rgN (h : Made w b F ks g cap mb N ky nx pv fv ps fr f) (j : Nat) : rg ps j < N := rg_lt (by have := h.count; omega) h.ps_lt j
theorem Made.len (h : Made w b F ks g cap mb N ky nx pv fv ps fr f) : ps.length = ks.length := by rw [← h.keys, List.length_map]
theorem Made.step (h : Made w b F ks g cap mb N ky nx pv fv ps fr f) {j : Nat} (hj : j < ps.length) : pv (rg ps (j + 1)) = rg ps j := (h.ring j (by omega)).2
theorem Made.last (h : Made w b F ks g cap mb N ky nx pv fv ps fr f) : pv 0 = rg ps ps.length := by
  have := (h.ring ps.length (Nat.le_refl _)).2
  rwa [rg_end] at this
theorem Made.nz (h : Made w b F ks g cap mb N ky nx pv fv ps fr f) {j : Nat} (hj : j < ps.length) : rg ps (j + 1) ≠ 0 := by
  rw [rg_at hj]
  exact fun e => (List.nodup_cons.1 h.nd1).1 (e ▸ List.getElem_mem hj)
theorem Made.rkey (h : Made w b F ks g cap mb N ky nx pv fv ps fr f) {j : Nat} (hj : j < ps.length) : ks.reverse.take (ks.length - j) = ks.reverse.take (ks.length - (j + 1)) ++ [ky (rg ps (j + 1))] := by
  have hl := h.len
  have hjr : ks.length - (j + 1) < ks.reverse.length := by rw [List.length_reverse]; omega
  rw [show ks.length - j = (ks.length - (j + 1)) + 1 by omega, List.take_succ_eq_append_getElem hjr]
  congr 2
  rw [List.getElem_reverse, rg_at hj]
  have h2 := h.keys
  subst h2
  rw [List.getElem_map]
  congr 2
  simp only [List.length_map]
  omega
end

/-- What a round keeps: the blocks of G. -/
def Kp (G : Nat → Prop) (W W' : World) : Prop := Chg (fun k => ¬ G k) W W'
theorem Kp.t {G : Nat → Prop} {A B C : World} (h : Kp G A B) (k : Kp G B C) : Kp G A C := Chg.trans h k
theorem Kp.b {G : Nat → Prop} {w : World} (hG : ∀ k, G k → k < w.heap.size) (W : World) (l : Nat) (o o' : Obj) (hl : w.heap.size ≤ l) (h : W.heap[l]? = some o) (_ : o.isCells = false) (_ : o.isWalk = false) : Kp G W (W.putObj l o') := by
  have hg := grownBy_putObj' W l o'
  exact ⟨hg.os, hg.tape, hg.output, hg.size, fun k hk hn => hg.block k hk (fun e => by cases e; exact hn (fun hGk => by have := hG _ hGk; omega))⟩

set_option maxRecDepth 100000 in
set_option maxHeartbeats 2000000 in
theorem back1_in (Fc : Fence) (n : Nat) (h7 : Fc.fn 49) (hro : Fc.round = none) (hn : 1 ≤ n) (l Bn b : Nat) (F G : Nat → Prop) (ks : List Int) (g cap mb N : Nat) (ky : Nat → Int) (nx pv : Nat → Nat) (fv : Value) (ps fr : List Nat) (f : Int → Option Value)
    (hGF : ∀ k, F k → G k) (hGB : G Bn) (J Jx : List Int → World → Prop)
    (hY : ∀ pre x W, x ∈ ks → J pre W → pre.length < ks.length → YieldAt Fc (n - 1) Try.prog l #[enc x] W fun e W' =>
      (e = .returned (.bool true) ∧ J (pre ++ [x]) W' ∧ Kp G W W') ∨ (e = .returned (.bool false) ∧ Jx (pre ++ [x]) W'))
    (W : World) (hBs : W.cell? ⟨Bn, 0, none⟩ = some (.pointer (some ⟨b, 0, none⟩))) (hm : Made W b F ks g cap mb N ky nx pv fv ps fr f) (h0 : J [] W) :
    CallsIn Fc n Try.prog 49 #[.func (.yield l) #[] #[], .pointer (some ⟨Bn, 0, none⟩)] W fun e W' => (∃ v, e = .returned v) ∧
      ((∃ ys, ys = ks.reverse ∧ J ys W') ∨ (∃ pre, pre <+: ks.reverse ∧ Jx pre W')) := by
  have HM := hid hm
  have hlen := hm.len
  have hfew := hm.few
  have c0 := hm.raw.cell0
  have hN : 0 < N := by have := hm.count; omega
  have e0 := hm.raw.prev hN
  rw [Nat.zero_mul, Nat.zero_add] at e0
  rw [hm.last] at e0
  have hr0 := hm.rgN ps.length
  obtain ⟨r0, hr⟩ : ∃ r, r = rg ps ps.length := ⟨_, rfl⟩
  rw [← hr] at e0 hr0
  have HR0 := hid hr
  have HLEN := hid hlen
  clear hm hr hlen
  refine callsIn_of_wp Try.func49 rfl h7 ?_ hro
  simp only [Try.ntmps49, List.size_toArray, List.length_cons, List.length_nil, Nat.reduceAdd, Nat.reduceSub, Array.replicate_succ, Array.replicate_zero, List.push_toArray, List.append_toArray, List.nil_append, List.cons_append]
  gi_wp2
  gi_loopw [3] (fun i wr => ∃ j : Nat, j ≤ ps.length ∧ i = .int .i64 (rg ps j : Nat) ∧ J (ks.reverse.take (ks.length - j)) wr ∧ Kp G W wr)
    (fun i wr => mz ps i)
  case atStart => exact ⟨ps.length, Nat.le_refl _, by rw [HR0.out], by have := HLEN.out; simpa [this] using h0, Chg.refl _ _⟩
  case round =>
    obtain ⟨j, hj, rfl, hJs, hk⟩ := hrel
    have HJ := hid hJs
    have HK := hid hk
    have hm2 : Made wr b F ks g cap mb N ky nx pv fv ps fr f := HM.out.chg hk (fun k hk hn => hn (hGF k hk))
    have c1 := hm2.raw.cell0
    have b1 : wr.cell? ⟨Bn, 0, none⟩ = some (.pointer (some ⟨b, 0, none⟩)) := hk.cell hBs (fun hn => hn hGB)
    clear hJs hk
    cases j with
    | zero =>
      clear hm2
      rw [show ((rg ps 0 : Nat) : Int) = 0 from rfl]
      gi_wp2
      go_end0
      have hJ := HJ.out
      rw [Nat.sub_zero, ← List.length_reverse, List.take_length] at hJ
      exact ⟨⟨_, rfl⟩, .inl ⟨_, rfl, hJ⟩⟩
    | succ j =>
      have hjl : j < ps.length := by omega
      have hi := hm2.rgN (j + 1)
      have hnz := hm2.nz hjl
      have ek := hm2.raw.key hi
      have hstep := hm2.step hjl
      have htake := hm2.rkey hjl
      obtain ⟨i, hie⟩ : ∃ i, i = rg ps (j + 1) := ⟨_, rfl⟩
      have HI := hid hie
      have HM2 := hid hm2
      rw [← hie] at hi hnz ek hstep htake
      have HS := hid hstep
      obtain ⟨x, hx⟩ : ∃ x, x = ky i := ⟨_, rfl⟩
      rw [← hx] at ek htake
      have HX : Hid (x ∈ ks) := by
        have hmem := HM2.out.keys
        rw [hx, ← hmem, hie, rg_at hjl]
        exact List.mem_map.2 ⟨_, List.getElem_mem _, rfl⟩
      have HT := hid htake
      rw [← hie]
      obtain ⟨fn, tmps, assign, body, hy, hR⟩ := hY _ x wr HX.out HJ.out (by have := HLEN.out; rw [List.length_take, List.length_reverse]; omega)
      have hnz' : ((i : Nat) : Int) ≠ 0 := by omega
      clear hie hm2 hstep htake hx
      gi_wp2
      refine hR.mono ?_
      rintro e W3 (⟨rfl, hJ3, hk3⟩ | ⟨rfl, hJx3⟩)
      · have hm3 : Made W3 b F ks g cap mb N ky nx pv fv ps fr f := HM2.out.chg hk3 (fun k hk hn => hn (hGF k hk))
        have c3 := hm3.raw.cell0
        have b3 : W3.cell? ⟨Bn, 0, none⟩ = some (.pointer (some ⟨b, 0, none⟩)) := hk3.cell b1 (fun hn => hn hGB)
        have e3 := hm3.raw.prev hi
        rw [HS.out] at e3
        have HJ3 := hid hJ3
        have HK3 := hid hk3
        have hri := HM2.out.rgN j
        clear hm3 hJ3 hk3 c1 b1 ek
        gi_wp2
        go_roundw
        case rel => exact ⟨j, by omega, rfl, by rw [HT.out]; exact HJ3.out, HK.out.trans HK3.out⟩
        case measure =>
          show mz ps (.int .i64 (rg ps j : Nat)) < mz ps (.int .i64 (i : Nat))
          rw [HI.out, mz_rg HM2.out.nd1 (j := j) (by omega), mz_rg HM2.out.nd1 (j := j + 1) (by omega)]
          omega
      · gi_wp2
        refine bodyPost_ret (results_none rfl _ _ _) rfl ?_
        exact ⟨⟨_, rfl⟩, .inr ⟨_, by rw [← HT.out]; exact List.take_prefix _ _, hJx3⟩⟩

/-- A key of the list. -/
abbrev In (ks : List Int) := { x : Int // x ∈ ks }
/-- The iterator's contract. -/
theorem back_stops (Fc : Fence) (n : Nat) (h7 : Fc.fn 49) (hro : Fc.round = none) (hn : 1 ≤ n) (Bn b : Nat) (F G : Nat → Prop) (ks : List Int) (w : World) (hGF : ∀ k, F k → G k) (hGB : G Bn) (hGl : ∀ k, G k → k < w.heap.size)
    (hBs : w.cell? ⟨Bn, 0, none⟩ = some (.pointer (some ⟨b, 0, none⟩))) (h : Lst w b F ks) :
    SeqStopsK Fc n Try.prog 49 #[.pointer (some ⟨Bn, 0, none⟩)] (fun x : In ks => #[enc x.1]) (Kp G) (fun ys => ys.map (fun x => x.1) = ks.reverse) (fun pre => pre.map (fun x => x.1) <+: ks.reverse) ks.length w := fun l J Jx W hW _ _ hY h0 => by
  obtain ⟨⟨g, cap, mb, N, ky, nx, pv, fv, ps, fr, f, hm⟩, h1, h2, h3⟩ := h
  have hcW : Chg (fun k => ¬ k < w.heap.size) w W := ⟨hW.os, hW.tape, hW.output, hW.size, fun k hk _ => hW.block k hk⟩
  have hm' : Made W b F ks g cap mb N ky nx pv fv ps fr f := hm.chg hcW (fun k hk hn => hn (h3 k hk))
  have hb' : W.cell? ⟨Bn, 0, none⟩ = some (.pointer (some ⟨b, 0, none⟩)) := hcW.cell hBs (fun hn => hn (hGl _ hGB))
  refine (back1_in Fc n h7 hro hn l Bn b F G ks g cap mb N ky nx pv fv ps fr f hGF hGB (fun l W => ∃ l' : List (In ks), l'.map (fun x => x.1) = l ∧ J l' W) (fun l W => ∃ l' : List (In ks), l'.map (fun x => x.1) = l ∧ Jx l' W) ?_ W hb' hm' ⟨[], rfl, h0⟩).mono ?_
  · rintro pre x W1 hx ⟨pre', rfl, hJ⟩ hlt
    refine (hY pre' ⟨x, hx⟩ W1 hJ (by simpa using hlt)).mono ?_
    rintro e W' (⟨he, hj, hk⟩ | ⟨he, hj⟩)
    · exact .inl ⟨he, ⟨pre' ++ [⟨x, hx⟩], by simp, hj⟩, hk⟩
    · exact .inr ⟨he, ⟨pre' ++ [⟨x, hx⟩], by simp, hj⟩⟩
  · rintro e W' ⟨he, ⟨ys, rfl, ys', hy, hj⟩ | ⟨pre, hp, pre', hy, hj⟩⟩
    · exact ⟨he, .inl ⟨ys', hy, hj⟩⟩
    · exact ⟨he, .inr ⟨pre', by show pre'.map (fun x => x.1) <+: ks.reverse; rw [hy]; exact hp, hj⟩⟩

set_option maxRecDepth 100000 in
set_option maxHeartbeats 1000000 in
/-- No list: no round. -/
theorem back1_nil_in (Fc : Fence) (n : Nat) (h7 : Fc.fn 49) (hro : Fc.round = none) (l Bn : Nat) (J : List Int → World → Prop) (W : World) (hBs : W.cell? ⟨Bn, 0, none⟩ = some (.pointer none)) (h0 : J [] W) :
    CallsIn Fc n Try.prog 49 #[.func (.yield l) #[] #[], .pointer (some ⟨Bn, 0, none⟩)] W fun e W' => (∃ v, e = .returned v) ∧ J [] W' := by
  have HJ := hid h0
  clear h0
  refine callsIn_of_wp Try.func49 rfl h7 ?_ hro
  simp only [Try.ntmps49, List.size_toArray, List.length_cons, List.length_nil, Nat.reduceAdd, Nat.reduceSub, Array.replicate_succ, Array.replicate_zero, List.push_toArray, List.append_toArray, List.nil_append, List.cons_append]
  gi_wp2
  refine bodyPost_ret (results_none rfl _ _ _) rfl ?_
  exact ⟨⟨_, rfl⟩, HJ.out⟩
theorem back_stops_nil (Fc : Fence) (n : Nat) (h7 : Fc.fn 49) (hro : Fc.round = none) (Bn : Nat) (G : Nat → Prop) (w : World) (hB : Bn < w.heap.size) (hBs : w.cell? ⟨Bn, 0, none⟩ = some (.pointer none)) :
    SeqStopsK Fc n Try.prog 49 #[.pointer (some ⟨Bn, 0, none⟩)] (fun x : Int => #[enc x]) (Kp G) (fun ys => ys = []) (fun pre => False) 0 w := fun l J Jx W hW _ _ hY h0 => by
  refine (back1_nil_in Fc n h7 hro l Bn J W ((hW.cell (p := ⟨Bn, 0, none⟩) hB).trans hBs) h0).mono ?_
  rintro e W' ⟨he, hj⟩
  exact ⟨he, .inl ⟨_, rfl, hj⟩⟩

set_option maxHeartbeats 1000000 in
theorem back_in (Fc : Fence) (n : Nat) (h5 : Fc.fn 40) (hro : Fc.round = none) (p : Option Addr) (w : World) :
    CallsIn Fc n Try.prog 40 #[.pointer p] w fun e w' => e = .returned (.func (.func 49) #[] #[.pointer (some ⟨w.heap.size, 0, none⟩)]) ∧ w' = w.alloc (.cells #[.pointer p] 63) := by
  refine callsIn_of_wp Try.func40 rfl h5 ?_ hro
  simp only [Try.ntmps40, List.size_toArray, List.length_cons, List.length_nil, Nat.reduceAdd, Nat.reduceSub, Array.replicate_succ, Array.replicate_zero, List.push_toArray, List.append_toArray, List.nil_append, List.cons_append]
  gi_wp2
  go_ret
  exact ⟨rfl, rfl⟩
end Go.Proofs.Ytfkedhclhmbpfaa.LI
