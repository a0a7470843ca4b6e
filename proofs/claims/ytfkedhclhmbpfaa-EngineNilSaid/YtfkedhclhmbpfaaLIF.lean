/-
  A list of keys in memory: LastBut.
-/
import Derived.Test.YtfkedhclhmbpfaaLIE
namespace Go.Proofs.Ytfkedhclhmbpfaa.LI
open Go.RowKit Go.Maps Go.Shelf
set_option linter.unusedVariables false
set_option linter.unusedSimpArgs false
attribute [local go_sem] Oper.semAt_some

/-- Which are asked, from the last one on. -/
def scanA (kp : Int → Bool) : List Int → List Int
  | [] => []
  | x :: r => if kp x = true then x :: scanA kp r else [x]
/-- The first one that is refused. -/
def scanR (kp : Int → Bool) : List Int → Option Int
  | [] => none
  | x :: r => if kp x = true then scanR kp r else some x
theorem scan_all (kp : Int → Bool) (l : List Int) (h : ∀ x ∈ l, kp x = true) : scanA kp l = l ∧ scanR kp l = none := by
  induction l with
  | nil => exact ⟨rfl, rfl⟩
  | cons x r ih =>
    obtain ⟨a, b⟩ := ih fun y hy => h y (by simp [hy])
    simp [scanA, scanR, h x (by simp), a, b]
theorem scan_at (kp : Int → Bool) (u : List Int) (x : Int) (r : List Int) (h : ∀ y ∈ u, kp y = true) (hx : kp x = false) : scanA kp (u ++ x :: r) = u ++ [x] ∧ scanR kp (u ++ x :: r) = some x := by
  induction u with
  | nil => simp [scanA, scanR, hx]
  | cons y u ih =>
    obtain ⟨a, b⟩ := ih fun z hz => h z (by simp [hz])
    simp [scanA, scanR, h y (by simp), a, b]

/-- What LastBut answers. -/
def lastV (r : Option Int) : Value := .tuple #[enc (r.getD 0), .bool r.isSome]

/-- What a keep is told and does: S are the blocks that it may write. -/
structure Keeper (w : World) (F : Nat → Prop) (ks : List Int) (gf : Nat) (cap : Array Value) (J : List Int → World → Prop) (kp : Int → Bool) (S : Nat → Prop) : Prop where
  enters : ∀ (args : Array Value) (w : World), (callFunc gf args).run Try.prog w = .ok (.enter gf args) w
  blocks : ∀ k, S k → k < w.heap.size ∧ ¬ F k
  abides : ∀ pre W W', J pre W → Chg (fun k => w.heap.size ≤ k) W W' → J pre W'
  call : ∀ pre x W, x ∈ ks → J pre W → Chg S w W → Calls Try.prog gf (#[enc x] ++ cap) W fun e W' => e = .returned (.bool (kp x)) ∧ J (pre ++ [x]) W' ∧ Chg S W W'

theorem frozen_of_chg {S : Nat → Prop} {w w' : World} (h : Chg S w w') {p : Addr} {v : Value} (hc : w.cell? p = some v) (hs : ¬ S p.block) : w'.frozen? p = w.frozen? p :=
  World.frozen?_of_block (h.block _ (lt_of_cell hc) hs)

theorem far2 (W : World) (n i j : Nat) (h : i ≠ j) (v : Value) : (W.setCell ⟨n + i, 0, none⟩ v).cell? ⟨n + j, 0, none⟩ = W.cell? ⟨n + j, 0, none⟩ :=
  World.cell?_setCell_other _ _ _ _ (by intro e; injection e with e; omega)

set_option maxRecDepth 100000 in
set_option maxHeartbeats 2000000 in
theorem lastbut_in (n : Nat) (hn : 5 ≤ n) (w : World) (b : Nat) (F : Nat → Prop) (ks : List Int) (h : Lst w b F ks) (gf : Nat) (cap : Array Value) (J : List Int → World → Prop) (kp : Int → Bool) (S : Nat → Prop)
    (hk : Keeper w F ks gf cap J kp S) (h0 : J [] w) :
    CallsIn Fence.wide n Try.prog 38 #[.pointer (some ⟨b, 0, none⟩), .func (.func gf) #[] cap] w fun e W' => e = .returned (lastV (scanR kp ks.reverse)) ∧ J (scanA kp ks.reverse) W' ∧ Chg S w W' := by
  have h1 : 1 ≤ n := by omega
  have HL := hid h
  have HK := hid hk
  have H0 := hid h0
  clear h hk h0
  refine callsIn_of_wp_marks Try.func38 rfl trivial ?_ rfl
  simp only [Try.ntmps38, List.size_toArray, List.length_cons, List.length_nil, Nat.reduceAdd, Nat.reduceSub, Array.replicate_succ, Array.replicate_zero, List.push_toArray, List.append_toArray, List.nil_append, List.cons_append]
  gi_wp2
  refine ⟨trivial, ?_⟩
  refine (back_in Fence.wide (n - 1) trivial rfl _ _).mono ?_
  rintro e w' ⟨rfl, rfl⟩
  gi_wp2
  obtain ⟨W0, hW0⟩ : ∃ W0, (((w.alloc (.cells #[.func (.func gf) #[] cap] 91)).alloc (.cells #[.int .i64 0] 3)).alloc (.cells #[.bool false] 4)).alloc (.cells #[.pointer (some ⟨b, 0, none⟩)] 63) = W0 := ⟨_, rfl⟩
  have ch := fun (v : World) (o : Obj) => (Chg.refl (fun _ => False) v).alloc o
  have hs0 : W0.heap.size = w.heap.size + 4 := by rw [← hW0]; simp
  have hC0 : Chg (fun _ => False) w W0 := by rw [← hW0]; exact (((ch w _).alloc _).alloc _).alloc _
  have hB0 : Blk W0 w.heap.size 91 #[.func (.func gf) #[] cap] := by
    rw [← hW0]; exact (((Blk.new w _ _).alloc _).alloc _).alloc _
  have hB1 : Blk W0 (w.heap.size + 1) 3 #[.int .i64 0] := by
    rw [← hW0]
    have := Blk.new (w.alloc (.cells #[.func (.func gf) #[] cap] 91)) 3 #[.int .i64 0]
    rw [World.size_alloc] at this
    exact (this.alloc _).alloc _
  have hB2 : Blk W0 (w.heap.size + 2) 4 #[.bool false] := by
    rw [← hW0]
    have := Blk.new ((w.alloc (.cells #[.func (.func gf) #[] cap] 91)).alloc (.cells #[.int .i64 0] 3)) 4 #[.bool false]
    rw [World.size_alloc, World.size_alloc] at this
    exact this.alloc _
  have hB3 : Blk W0 (w.heap.size + 3) 63 #[.pointer (some ⟨b, 0, none⟩)] := by
    rw [← hW0]
    have := Blk.new (((w.alloc (.cells #[.func (.func gf) #[] cap] 91)).alloc (.cells #[.int .i64 0] 3)).alloc (.cells #[.bool false] 4)) 63 #[.pointer (some ⟨b, 0, none⟩)]
    rw [World.size_alloc, World.size_alloc, World.size_alloc] at this
    exact this
  have hL0 := HL.out.chg hC0 (fun _ _ h => h)
  have hJ0 : J [] W0 := HK.out.abides _ _ _ H0.out (hC0.weaken (fun _ _ h => h.elim))
  rw [hW0]
  have HWS := hid hs0
  have HGl : ∀ k, (F k ∨ k = w.heap.size + 3) → k < W0.heap.size := fun k hk => by
    rcases hk with hk | hk
    · exact hL0.lt k hk
    · omega
  refine wpIn_rangeFunc_ownG (F := Fence.wide) rfl h1 (gf := 49) (lb := #[.pointer (some ⟨w.heap.size + 3, 0, none⟩)]) rfl trivial (enters_of Try.func49 (by kernel_rfl) rfl)
    (back_stops Fence.wide (n - 1) trivial rfl (by omega) (w.heap.size + 3) b F (fun k => F k ∨ k = w.heap.size + 3) ks W0 (fun k hk => Or.inl hk) (Or.inr rfl) HGl (by rw [hB3.cell]; rfl) hL0) Kp.t (Kp.b HGl) (Below.refl _ _) (fun _ => rfl)
    (fun pre W => (W.cell? ⟨w.heap.size, 0, none⟩ = some (.func (.func gf) #[] cap) ∧ (W.cell? ⟨w.heap.size + 1, 0, none⟩ = some (.int .i64 0) ∧ W.frozen? ⟨w.heap.size + 1, 0, none⟩ = false) ∧ (W.cell? ⟨w.heap.size + 2, 0, none⟩ = some (.bool false) ∧ W.frozen? ⟨w.heap.size + 2, 0, none⟩ = false)) ∧ ((∀ y ∈ pre, kp y.1 = true) ∧ J (pre.map (fun x => x.1)) W ∧ Chg S w W))
    (fun c pre W => c = .ret ∧ ∃ ini x, pre = ini ++ [x] ∧ (W.cell? ⟨w.heap.size + 1, 0, none⟩ = some (enc x.1) ∧ W.cell? ⟨w.heap.size + 2, 0, none⟩ = some (.bool true)) ∧ (∀ y ∈ ini, kp y.1 = true) ∧ kp x.1 = false ∧ J (pre.map (fun x => x.1)) W ∧ Chg S w W)
    ?hI ?hIx ?h0
    (fun x => { tmps := #[.pointer (some ⟨b, 0, none⟩), .func (.func gf) #[] cap, undef, .pointer (some ⟨w.heap.size, 0, none⟩), .pointer (some ⟨w.heap.size + 1, 0, none⟩), .pointer (some ⟨w.heap.size + 2, 0, none⟩), enc x.1, undef, .pointer (some ⟨b, 0, none⟩), .func (.func 49) #[] #[.pointer (some ⟨w.heap.size + 3, 0, none⟩)], enc x.1, undef, undef, undef, undef, undef, undef], defers := [] }) ?assign ?body ?done ?stop
  case hI =>
    rintro s A B row ⟨⟨q0, ⟨q1, q2⟩, q3, q4⟩, hs, hJ, hc⟩ hg hr
    have hrr : ∀ r, row = some r → ∃ o : Obj, A.heap[r]? = some o ∧ o.isCells = false := fun r e => (hr r e).2
    have hcg : Chg (fun k => w.heap.size ≤ k) A B := ⟨hg.os, hg.tape, hg.output, hg.size, fun k hk hn => hg.block k hk (fun e => by have := (hr k e.symm).1; omega)⟩
    exact ⟨⟨cell_kept q0 hg hrr, ⟨cell_kept q1 hg hrr, (frozen_kept q1 hg hrr).trans q2⟩, cell_kept q3 hg hrr, (frozen_kept q3 hg hrr).trans q4⟩, hs, HK.out.abides _ _ _ hJ hcg, hc.into hcg (fun k hk e => by omega)⟩
  case hIx =>
    rintro c s A B row ⟨rfl, ini, x, hp, ⟨q1, q2⟩, h3, h4, hJ, hc⟩ hg hr
    have hrr : ∀ r, row = some r → ∃ o : Obj, A.heap[r]? = some o ∧ o.isCells = false := fun r e => (hr r e).2
    have hcg : Chg (fun k => w.heap.size ≤ k) A B := ⟨hg.os, hg.tape, hg.output, hg.size, fun k hk hn => hg.block k hk (fun e => by have := (hr k e.symm).1; omega)⟩
    exact ⟨rfl, ini, x, hp, ⟨cell_kept q1 hg hrr, cell_kept q2 hg hrr⟩, h3, h4, HK.out.abides _ _ _ hJ hcg, hc.into hcg (fun k hk e => by omega)⟩
  case h0 =>
    exact ⟨⟨by rw [hB0.cell]; rfl, ⟨by rw [hB1.cell]; rfl, hB1.frozen 0⟩, by rw [hB2.cell]; rfl, hB2.frozen 0⟩, by simp, hJ0, hC0.weaken (fun _ _ h => h.elim)⟩
  case assign =>
    intro l x W K hK
    gi_wp2
    exact hK
  case body =>
    rintro l pre x W ⟨⟨q0, ⟨q1, q2⟩, q3, q4⟩, hs, hJ, hc⟩ _
    have heg := HK.out.enters
    have HS := hid hs
    have HJ := hid hJ
    have HC := hid hc
    clear hs hJ hc
    gi_wp2
    refine ⟨trivial, by intro hd; exact absurd hd (by decide), ?_⟩
    refine (callsIn_wide.2 (HK.out.call _ x.1 W x.2 HJ.out HC.out)).mono ?_
    rintro e W3 ⟨rfl, hJ3, hc3⟩
    have hn : ∀ i, ¬ S (w.heap.size + i) := fun i hi => by have := (HK.out.blocks _ hi).1; omega
    have q0' := hc3.cell q0 (hn 0)
    have q1' := hc3.cell q1 (hn 1)
    have q3' := hc3.cell q3 (hn 2)
    have q2' : W3.frozen? ⟨w.heap.size + 1, 0, none⟩ = false := (frozen_of_chg hc3 q1 (hn 1)).trans q2
    have q4' : W3.frozen? ⟨w.heap.size + 2, 0, none⟩ = false := (frozen_of_chg hc3 q3 (hn 2)).trans q4
    have HJ3 := hid hJ3
    have HC3 := hid hc3
    have hsz := hc3.size
    obtain ⟨v, hv⟩ : ∃ v, v = kp x.1 := ⟨_, rfl⟩
    rw [← hv]
    have HV := hid hv
    clear hJ3 hc3 q0 q1 q2 q3 q4 hn hv hsz
    have hfar : ∀ k, S k → k < w.heap.size := fun k hk => (HK.out.blocks k hk).1
    have hfr : ∀ k, S k → ¬ F k := fun k hk => (HK.out.blocks k hk).2
    have HFA := hid hfar
    have HFR := hid hfr
    clear hfar hfr
    cases v with
    | true =>
      gi_wp2
      have h0 := HC3.out
      refine ⟨⟨h0.size, fun k o hB hk ho => (h0.block k (Array.getElem?_eq_some_iff.1 hk).1 (fun hs => by have := HFA.out k hs; have := HWS.out; omega)).trans hk⟩, ?_, ⟨q0', ⟨q1', q2'⟩, q3', q4'⟩, ?_, ?_, HC.out.trans h0⟩
      · exact h0.weaken (fun k hk hs hg => by
          rcases hg with hg | hg
          · exact HFR.out k hs hg
          · have := HFA.out k hs; omega)
      · intro y hy
        rcases List.mem_append.1 hy with hy | hy
        · exact HS.out y hy
        · rw [List.mem_singleton.1 hy]; exact HV.out.symm
      · rw [List.map_append]; exact HJ3.out
    | false =>
      gi_wp2
      have h0 := HC3.out
      have k1 : ∀ u, Chg (fun k => w.heap.size ≤ k) W3 (W3.setCell ⟨w.heap.size + 1, 0, none⟩ u) := fun u => (Chg.refl _ _).setCell (p := ⟨w.heap.size + 1, 0, none⟩) (by show w.heap.size ≤ w.heap.size + 1; omega) u
      have k2 : ∀ u v, Chg (fun k => w.heap.size ≤ k) W3 ((W3.setCell ⟨w.heap.size + 1, 0, none⟩ u).setCell ⟨w.heap.size + 2, 0, none⟩ v) := fun u v => (k1 u).setCell (p := ⟨w.heap.size + 2, 0, none⟩) (by show w.heap.size ≤ w.heap.size + 2; omega) v
      refine ⟨?_, rfl, pre, x, rfl, ⟨?_, ?_⟩, HS.out, HV.out.symm, ?_, ?_⟩
      · have ka : KeepsFrom W0.heap.size W W3 := ⟨h0.size, fun k o hB hk ho => (h0.block k (Array.getElem?_eq_some_iff.1 hk).1 (fun hs => by have := HFA.out k hs; have := HWS.out; omega)).trans hk⟩
        exact ka.trans (((KeepsOthers.setCell _ _ _).trans (KeepsOthers.setCell _ _ _)).from _)
      · rw [far2 _ w.heap.size 2 1 (by decide)]
        exact World.cell?_setCell_same' _ _ _ (by rw [q1']; rfl)
      · refine World.cell?_setCell_same' _ _ _ ?_
        rw [far2 _ w.heap.size 1 2 (by decide), q3']; rfl
      · rw [List.map_append]
        exact HK.out.abides _ _ _ HJ3.out (k2 _ _)
      · exact (HC.out.trans h0).into (k2 _ _) (fun k hk e => by omega)
  case done =>
    rintro D xs W hDl hall ⟨⟨_, ⟨q1, q2⟩, q3, q4⟩, hs, hJ, hc⟩ hD
    have HS := hid hs
    have HJ := hid hJ
    have HC := hid hc
    have HALL := hid hall
    have HDL := hid hDl
    clear hs hJ hc hall hDl
    gi_wp2
    have hK' := ((KeepsOthers.setCell W ⟨w.heap.size + 1, 0, none⟩ (.int .i64 0)).trans (KeepsOthers.setCell _ ⟨w.heap.size + 2, 0, none⟩ (.bool false))).same D _ hD rfl
    refine ⟨by simp, .inl ⟨_, _, rfl, run_takeDeferred hK', ?_⟩⟩
    have hr : ∀ r, some D = some r → ∃ o : Obj, ((W.setCell ⟨w.heap.size + 1, 0, none⟩ (.int .i64 0)).setCell ⟨w.heap.size + 2, 0, none⟩ (.bool false)).heap[r]? = some o ∧ o.isCells = false := fun r e => by cases e; exact ⟨_, hK', rfl⟩
    have hg := grownBy_putObj' ((W.setCell ⟨w.heap.size + 1, 0, none⟩ (.int .i64 0)).setCell ⟨w.heap.size + 2, 0, none⟩ (.bool false)) D (.deferred none)
    have c1 := cell_kept (a := ⟨w.heap.size + 1, 0, none⟩) (v := .int .i64 0) (by
      rw [far2 _ w.heap.size 2 1 (by decide)]
      exact World.cell?_setCell_same' _ _ _ (by rw [q1]; rfl)) hg hr
    have c2 := cell_kept (a := ⟨w.heap.size + 2, 0, none⟩) (v := .bool false) (by
      refine World.cell?_setCell_same' _ _ _ ?_
      rw [far2 _ w.heap.size 1 2 (by decide), q3]; rfl) hg hr
    have hch : Chg (fun k => w.heap.size ≤ k) W (((W.setCell ⟨w.heap.size + 1, 0, none⟩ (.int .i64 0)).setCell ⟨w.heap.size + 2, 0, none⟩ (.bool false)).putObj D (.deferred none)) :=
      ((((Chg.refl _ _).setCell (p := ⟨w.heap.size + 1, 0, none⟩) (by show w.heap.size ≤ w.heap.size + 1; omega) _).setCell (p := ⟨w.heap.size + 2, 0, none⟩) (by show w.heap.size ≤ w.heap.size + 2; omega) _)).into
        ⟨hg.os, hg.tape, hg.output, hg.size, fun k hk hn => hg.block k hk (fun e => by cases e; exact hn rfl)⟩ (S' := fun k => k = D) (fun k hk e => by have := HDL.out; have := HWS.out; omega)
    obtain ⟨a1, a2⟩ := scan_all kp ks.reverse (fun y hy => by
      have := HALL.out
      rw [← this] at hy
      obtain ⟨z, hz, rfl⟩ := List.mem_map.1 hy
      exact HS.out z hz)
    refine ⟨_, ?_, rfl, ?_, HC.out.into hch (fun k hk e => by omega)⟩
    · rw [a2]
      simp [results, Try.f38, go_sem, c1, c2, Try.results38, lastV]
    · rw [a1]
      have hj := HK.out.abides _ _ _ HJ.out hch
      rwa [HALL.out] at hj
  case stop =>
    rintro D c pre W hDl hpart ⟨rfl, ini, x, rfl, ⟨q1, q3⟩, hs, hx, hJ, hc⟩ hD
    have HS := hid hs
    have HX := hid hx
    have HJ := hid hJ
    have HC := hid hc
    have HP := hid hpart
    have HDL := hid hDl
    clear hs hx hJ hc hpart hDl
    gi_wp2
    refine ⟨by simp, .inl ⟨_, _, rfl, run_takeDeferred hD, ?_⟩⟩
    have hr : ∀ r, some D = some r → ∃ o : Obj, W.heap[r]? = some o ∧ o.isCells = false := fun r e => by cases e; exact ⟨_, hD, rfl⟩
    have hg := grownBy_putObj' W D (.deferred none)
    have c1 := cell_kept q1 hg hr
    have c2 := cell_kept q3 hg hr
    have hch : Chg (fun k => w.heap.size ≤ k) W (W.putObj D (.deferred none)) :=
      ⟨hg.os, hg.tape, hg.output, hg.size, fun k hk hn => hg.block k hk (fun e => by cases e; exact hn (by have := HDL.out; have := HWS.out; omega))⟩
    obtain ⟨r, hr'⟩ := HP.out
    have hpl : ks.reverse = ini.map (fun x => x.1) ++ x.1 :: r := by rw [← hr']; simp
    obtain ⟨a1, a2⟩ := scan_at kp (ini.map (fun x => x.1)) x.1 r (fun y hy => by
      obtain ⟨z, hz, rfl⟩ := List.mem_map.1 hy
      exact HS.out z hz) HX.out
    rw [← hpl] at a1 a2
    refine ⟨_, ?_, rfl, ?_, HC.out.into hch (fun k hk e => by omega)⟩
    · rw [a2]
      simp [results, Try.f38, go_sem, c1, c2, Try.results38, lastV]
    · rw [a1]
      have hj := HK.out.abides _ _ _ HJ.out hch
      rwa [List.map_append] at hj
end Go.Proofs.Ytfkedhclhmbpfaa.LI
