/-
  A list of keys in memory: LastBut with a keep that writes rows that may grow.
-/
import Derived.Test.YthecpiigabfboaaLBJ
namespace Go.Proofs.Ythecpiigabfboaa.LB
open Go.RowKit Go.Maps Go.Shelf
set_option linter.unusedVariables false
set_option linter.unusedSimpArgs false
attribute [local go_sem] Oper.semAt_some

/-- What a keep is told and does, where the blocks that it may write (O) grow. -/
structure Keeper2 (F : Nat → Prop) (ks : List Int) (gf : Nat) (cap : Array Value) (J : (Nat → Prop) → List Int → World → Prop) (kp : Int → Bool) (w : World) (O0 : Nat → Prop) : Prop where
  enters : ∀ (args : Array Value) (w : World), (callFunc gf args).run Try.prog w = .ok (.enter gf args) w
  far : ∀ k, O0 k → ¬ F k
  own : ∀ O pre W, J O pre W → ∀ k, O k → ∃ o, W.heap[k]? = some o ∧ o.isCells = true
  abides : ∀ O pre W W', J O pre W → Chg (fun k => w.heap.size ≤ k ∧ ¬ O k) W W' → J O pre W'
  call : ∀ O pre x W, x ∈ ks → pre.length < ks.length → J O pre W → Chg O0 w W → Calls Try.prog gf (#[enc x] ++ cap) W fun e W' => e = .returned (.bool (kp x)) ∧ ∃ O', J O' (pre ++ [x]) W' ∧ (∀ k, O' k → O k ∨ W.heap.size ≤ k) ∧ Chg O W W'

/-- The keep's own state, amid LastBut (n: where LastBut's own blocks begin). -/
def HasJ (n : Nat) (O0 : Nat → Prop) (J : (Nat → Prop) → List Int → World → Prop) (pre : List Int) (W : World) : Prop := ∃ O, J O pre W ∧ (∀ k, O k → O0 k ∨ n + 4 ≤ k) ∧ n + 4 ≤ W.heap.size

set_option maxRecDepth 100000 in
set_option maxHeartbeats 2000000 in
theorem lastbut2_in (n : Nat) (hn : 5 ≤ n) (w : World) (b : Nat) (F : Nat → Prop) (ks : List Int) (h : Lst w b F ks) (gf : Nat) (cap : Array Value) (J : (Nat → Prop) → List Int → World → Prop) (kp : Int → Bool) (S : Nat → Prop)
    (hk : Keeper2 F ks gf cap J kp w S) (h0 : J S [] w) :
    CallsIn Fence.wide n Try.prog 18 #[.pointer (some ⟨b, 0, none⟩), .func (.func gf) #[] cap] w fun e W' => e = .returned (lastV (scanR kp ks.reverse)) ∧ (∃ O', J O' (scanA kp ks.reverse) W' ∧ ∀ k, O' k → S k ∨ w.heap.size ≤ k) ∧ Chg S w W' := by
  have hS0 : ∀ k, S k → k < w.heap.size := fun k hk' => by obtain ⟨o, ho, _⟩ := hk.own _ _ _ h0 k hk'; exact (Array.getElem?_eq_some_iff.1 ho).1
  have HFA := hid hS0
  clear hS0
  have h1 : 1 ≤ n := by omega
  have HL := hid h
  have HK := hid hk
  have H0 := hid h0
  clear h hk h0
  refine callsIn_of_wp_marks Try.func18 rfl trivial ?_ rfl
  simp only [Try.ntmps18, List.size_toArray, List.length_cons, List.length_nil, Nat.reduceAdd, Nat.reduceSub, Array.replicate_succ, Array.replicate_zero, List.push_toArray, List.append_toArray, List.nil_append, List.cons_append]
  gi_wp2
  refine ⟨trivial, ?_⟩
  refine (back_in Fence.wide (n - 1) trivial rfl _ _).mono ?_
  rintro e w' ⟨rfl, rfl⟩
  gi_wp2
  obtain ⟨W0, hW0⟩ : ∃ W0, (((w.alloc (.cells #[.func (.func gf) #[] cap] 40)).alloc (.cells #[.int .u8 0] 5)).alloc (.cells #[.bool false] 4)).alloc (.cells #[.pointer (some ⟨b, 0, none⟩)] 24) = W0 := ⟨_, rfl⟩
  have ch := fun (v : World) (o : Obj) => (Chg.refl (fun _ => False) v).alloc o
  have hs0 : W0.heap.size = w.heap.size + 4 := by rw [← hW0]; simp
  have hC0 : Chg (fun _ => False) w W0 := by rw [← hW0]; exact (((ch w _).alloc _).alloc _).alloc _
  have hB0 : Blk W0 w.heap.size 40 #[.func (.func gf) #[] cap] := by
    rw [← hW0]; exact (((Blk.new w _ _).alloc _).alloc _).alloc _
  have hB1 : Blk W0 (w.heap.size + 1) 5 #[.int .u8 0] := by
    rw [← hW0]
    have := Blk.new (w.alloc (.cells #[.func (.func gf) #[] cap] 40)) 5 #[.int .u8 0]
    rw [World.size_alloc] at this
    exact (this.alloc _).alloc _
  have hB2 : Blk W0 (w.heap.size + 2) 4 #[.bool false] := by
    rw [← hW0]
    have := Blk.new ((w.alloc (.cells #[.func (.func gf) #[] cap] 40)).alloc (.cells #[.int .u8 0] 5)) 4 #[.bool false]
    rw [World.size_alloc, World.size_alloc] at this
    exact this.alloc _
  have hB3 : Blk W0 (w.heap.size + 3) 24 #[.pointer (some ⟨b, 0, none⟩)] := by
    rw [← hW0]
    have := Blk.new (((w.alloc (.cells #[.func (.func gf) #[] cap] 40)).alloc (.cells #[.int .u8 0] 5)).alloc (.cells #[.bool false] 4)) 24 #[.pointer (some ⟨b, 0, none⟩)]
    rw [World.size_alloc, World.size_alloc, World.size_alloc] at this
    exact this
  have hL0 := HL.out.chg hC0 (fun _ _ h => h)
  have hJ0 : HasJ w.heap.size S J [] W0 := ⟨S, HK.out.abides _ _ _ _ H0.out (hC0.weaken (fun _ _ h => h.elim)), fun k hk => Or.inl hk, by omega⟩
  rw [hW0]
  have HWS := hid hs0
  have HGl : ∀ k, (F k ∨ k = w.heap.size + 3) → k < W0.heap.size := fun k hk => by
    rcases hk with hk | hk
    · exact hL0.lt k hk
    · omega
  refine wpIn_rangeFunc_ownG (F := Fence.wide) rfl h1 (gf := 52) (lb := #[.pointer (some ⟨w.heap.size + 3, 0, none⟩)]) rfl trivial (enters_of Try.func52 (by kernel_rfl) rfl)
    (back_stops Fence.wide (n - 1) trivial rfl (by omega) (w.heap.size + 3) b F (fun k => F k ∨ k = w.heap.size + 3) ks W0 (fun k hk => Or.inl hk) (Or.inr rfl) HGl (by rw [hB3.cell]; rfl) hL0) Kp.t (Kp.b HGl) (Below.refl _ _) (fun _ => rfl)
    (fun pre W => (W.cell? ⟨w.heap.size, 0, none⟩ = some (.func (.func gf) #[] cap) ∧ (W.cell? ⟨w.heap.size + 1, 0, none⟩ = some (.int .u8 0) ∧ W.frozen? ⟨w.heap.size + 1, 0, none⟩ = false) ∧ (W.cell? ⟨w.heap.size + 2, 0, none⟩ = some (.bool false) ∧ W.frozen? ⟨w.heap.size + 2, 0, none⟩ = false)) ∧ ((∀ y ∈ pre, kp y.1 = true) ∧ HasJ w.heap.size S J (pre.map (fun x => x.1)) W ∧ Chg S w W))
    (fun c pre W => c = .ret ∧ ∃ ini x, pre = ini ++ [x] ∧ (W.cell? ⟨w.heap.size + 1, 0, none⟩ = some (enc x.1) ∧ W.cell? ⟨w.heap.size + 2, 0, none⟩ = some (.bool true)) ∧ (∀ y ∈ ini, kp y.1 = true) ∧ kp x.1 = false ∧ HasJ w.heap.size S J (pre.map (fun x => x.1)) W ∧ Chg S w W)
    ?hI ?hIx ?h0
    (fun x => { tmps := #[.pointer (some ⟨b, 0, none⟩), .func (.func gf) #[] cap, undef, .pointer (some ⟨w.heap.size, 0, none⟩), .pointer (some ⟨w.heap.size + 1, 0, none⟩), .pointer (some ⟨w.heap.size + 2, 0, none⟩), enc x.1, undef, .pointer (some ⟨b, 0, none⟩), .func (.func 52) #[] #[.pointer (some ⟨w.heap.size + 3, 0, none⟩)], enc x.1, undef, undef, undef, undef, undef, undef], defers := [] }) ?assign ?body ?done ?stop
  case hI =>
    rintro s A B row ⟨⟨q0, ⟨q1, q2⟩, q3, q4⟩, hs, hJ, hc⟩ hg hr
    have hrr : ∀ r, row = some r → ∃ o : Obj, A.heap[r]? = some o ∧ o.isCells = false := fun r e => (hr r e).2
    have hcg : Chg (fun k => w.heap.size ≤ k) A B := ⟨hg.os, hg.tape, hg.output, hg.size, fun k hk hn => hg.block k hk (fun e => by have := (hr k e.symm).1; omega)⟩
    exact ⟨⟨cell_kept q0 hg hrr, ⟨cell_kept q1 hg hrr, (frozen_kept q1 hg hrr).trans q2⟩, cell_kept q3 hg hrr, (frozen_kept q3 hg hrr).trans q4⟩, hs, (let ⟨O, hJO, hO, hZ⟩ := hJ; ⟨O, HK.out.abides _ _ _ _ hJO ⟨hg.os, hg.tape, hg.output, hg.size, fun k hk hn => hg.block k hk (fun e => by obtain ⟨o, ho, hoc⟩ := (hr k e.symm).2; exact hn ⟨by have := (hr k e.symm).1; omega, fun hOk => by obtain ⟨o2, ho2, hoc2⟩ := HK.out.own _ _ _ hJO k hOk; rw [ho] at ho2; cases ho2; rw [hoc] at hoc2; cases hoc2⟩)⟩, hO, by have := hg.size; omega⟩), hc.into hcg (fun k hk e => by omega)⟩
  case hIx =>
    rintro c s A B row ⟨rfl, ini, x, hp, ⟨q1, q2⟩, h3, h4, hJ, hc⟩ hg hr
    have hrr : ∀ r, row = some r → ∃ o : Obj, A.heap[r]? = some o ∧ o.isCells = false := fun r e => (hr r e).2
    have hcg : Chg (fun k => w.heap.size ≤ k) A B := ⟨hg.os, hg.tape, hg.output, hg.size, fun k hk hn => hg.block k hk (fun e => by have := (hr k e.symm).1; omega)⟩
    exact ⟨rfl, ini, x, hp, ⟨cell_kept q1 hg hrr, cell_kept q2 hg hrr⟩, h3, h4, (let ⟨O, hJO, hO, hZ⟩ := hJ; ⟨O, HK.out.abides _ _ _ _ hJO ⟨hg.os, hg.tape, hg.output, hg.size, fun k hk hn => hg.block k hk (fun e => by obtain ⟨o, ho, hoc⟩ := (hr k e.symm).2; exact hn ⟨by have := (hr k e.symm).1; omega, fun hOk => by obtain ⟨o2, ho2, hoc2⟩ := HK.out.own _ _ _ hJO k hOk; rw [ho] at ho2; cases ho2; rw [hoc] at hoc2; cases hoc2⟩)⟩, hO, by have := hg.size; omega⟩), hc.into hcg (fun k hk e => by omega)⟩
  case h0 =>
    exact ⟨⟨by rw [hB0.cell]; rfl, ⟨by rw [hB1.cell]; rfl, hB1.frozen 0⟩, by rw [hB2.cell]; rfl, hB2.frozen 0⟩, by simp, hJ0, hC0.weaken (fun _ _ h => h.elim)⟩
  case assign =>
    intro l x W K hK
    gi_wp2
    exact hK
  case body =>
    rintro l pre x W ⟨⟨q0, ⟨q1, q2⟩, q3, q4⟩, hs, ⟨O, hJ, hO, hZ⟩, hc⟩ hln
    have HLN := hid hln
    clear hln
    have HZ := hid hZ
    clear hZ
    have HO := hid hO
    clear hO
    have heg := HK.out.enters
    have HS := hid hs
    have HJ := hid hJ
    have HC := hid hc
    clear hs hJ hc
    gi_wp2
    refine ⟨trivial, by intro hd; exact absurd hd (by decide), ?_⟩
    refine (callsIn_wide.2 (HK.out.call O _ x.1 W x.2 (by simpa using HLN.out) HJ.out HC.out)).mono ?_
    rintro e W3 ⟨rfl, O3, hJ3, hO3, hc3⟩
    have hn : ∀ i, i < 4 → ¬ O (w.heap.size + i) := fun i hlt hi => by
      rcases HO.out _ hi with h | h
      · have := HFA.out _ h; omega
      · omega
    have hO4 : ∀ k, O3 k → S k ∨ w.heap.size + 4 ≤ k := fun k hk => by
      rcases hO3 k hk with h | h
      · exact HO.out k h
      · have := HZ.out; exact Or.inr (by omega)
    have HO4 := hid hO4
    have HNN : ∀ i, i < 4 → ¬ O3 (w.heap.size + i) := fun i hlt hi => by
      rcases hO4 _ hi with h | h
      · have := HFA.out _ h; omega
      · omega
    have HN3 := hid HNN
    clear hO3 hO4 HNN
    have q0' := hc3.cell q0 (hn 0 (by decide))
    have q1' := hc3.cell q1 (hn 1 (by decide))
    have q3' := hc3.cell q3 (hn 2 (by decide))
    have q2' : W3.frozen? ⟨w.heap.size + 1, 0, none⟩ = false := (frozen_of_chg hc3 q1 (hn 1 (by decide))).trans q2
    have q4' : W3.frozen? ⟨w.heap.size + 2, 0, none⟩ = false := (frozen_of_chg hc3 q3 (hn 2 (by decide))).trans q4
    have HJ3 := hid hJ3
    have HC3 := hid hc3
    have hsz := hc3.size
    obtain ⟨v, hv⟩ : ∃ v, v = kp x.1 := ⟨_, rfl⟩
    rw [← hv]
    have HV := hid hv
    clear hJ3 hc3 q0 q1 q2 q3 q4 hn hv hsz
    have hOc : ∀ k o, W.heap[k]? = some o → o.isCells = false → ¬ O k := fun k o hk ho hOk => by
      obtain ⟨o2, ho2, hoc2⟩ := HK.out.own _ _ _ HJ.out k hOk
      rw [hk] at ho2
      cases ho2
      rw [ho] at hoc2
      cases hoc2
    have HOC := hid hOc
    clear hOc
    have hcS : Chg S w W3 := HC.out.into HC3.out (fun k hk e => by
      rcases HO.out k e with h | h
      · exact h
      · omega)
    have HCS := hid hcS
    clear hcS
    cases v with
    | true =>
      gi_wp2
      have h0 := HC3.out
      refine ⟨⟨h0.size, fun k o hB hk ho => (h0.block k (Array.getElem?_eq_some_iff.1 hk).1 (HOC.out k o hk ho)).trans hk⟩, ?_, ⟨q0', ⟨q1', q2'⟩, q3', q4'⟩, ?_, ?_, HCS.out⟩
      · exact h0.weaken (fun k hk hs hg => by
          rcases HO.out k hs with h | h
          · rcases hg with hg | hg
            · exact HK.out.far k h hg
            · have := HFA.out k h; omega
          · have := HGl k hg; have := HWS.out; omega)
      · intro y hy
        rcases List.mem_append.1 hy with hy | hy
        · exact HS.out y hy
        · rw [List.mem_singleton.1 hy]; exact HV.out.symm
      · rw [List.map_append]; exact ⟨O3, HJ3.out, HO4.out, Nat.le_trans HZ.out HC3.out.size⟩
    | false =>
      gi_wp2
      have h0 := HC3.out
      have k1 : ∀ u, Chg (fun k => w.heap.size ≤ k) W3 (W3.setCell ⟨w.heap.size + 1, 0, none⟩ u) := fun u => (Chg.refl _ _).setCell (p := ⟨w.heap.size + 1, 0, none⟩) (by show w.heap.size ≤ w.heap.size + 1; omega) u
      have k2 : ∀ u v, Chg (fun k => w.heap.size ≤ k) W3 ((W3.setCell ⟨w.heap.size + 1, 0, none⟩ u).setCell ⟨w.heap.size + 2, 0, none⟩ v) := fun u v => (k1 u).setCell (p := ⟨w.heap.size + 2, 0, none⟩) (by show w.heap.size ≤ w.heap.size + 2; omega) v
      refine ⟨?_, rfl, pre, x, rfl, ⟨?_, ?_⟩, HS.out, HV.out.symm, ?_, ?_⟩
      · have ka : KeepsFrom W0.heap.size W W3 := ⟨h0.size, fun k o hB hk ho => (h0.block k (Array.getElem?_eq_some_iff.1 hk).1 (HOC.out k o hk ho)).trans hk⟩
        exact ka.trans (((KeepsOthers.setCell _ _ _).trans (KeepsOthers.setCell _ _ _)).from _)
      · rw [far2 _ w.heap.size 2 1 (by decide)]
        exact World.cell?_setCell_same' _ _ _ (by rw [q1']; rfl)
      · refine World.cell?_setCell_same' _ _ _ ?_
        rw [far2 _ w.heap.size 1 2 (by decide), q3']; rfl
      · rw [List.map_append]
        exact ⟨O3, HK.out.abides _ _ _ _ HJ3.out (((Chg.refl _ _).setCell (p := ⟨w.heap.size + 1, 0, none⟩) ⟨by show w.heap.size ≤ w.heap.size + 1; omega, HN3.out 1 (by decide)⟩ _).setCell (p := ⟨w.heap.size + 2, 0, none⟩) ⟨by show w.heap.size ≤ w.heap.size + 2; omega, HN3.out 2 (by decide)⟩ _), HO4.out, by have := HZ.out; have := HC3.out.size; simp [World.setCell]; omega⟩
      · exact HCS.out.into (k2 _ _) (fun k hk e => by omega)
  case done =>
    rintro D xs W hDl hall ⟨⟨_, ⟨q1, q2⟩, q3, q4⟩, hs, ⟨O, hJ, hO, -⟩, hc⟩ hD
    have HO := hid hO
    clear hO
    have HS := hid hs
    have HJ := hid hJ
    have HC := hid hc
    have HALL := hid hall
    have HDL := hid hDl
    clear hs hJ hc hall hDl
    gi_wp2
    have hK' := ((KeepsOthers.setCell W ⟨w.heap.size + 1, 0, none⟩ (.int .u8 0)).trans (KeepsOthers.setCell _ ⟨w.heap.size + 2, 0, none⟩ (.bool false))).same D _ hD rfl
    refine ⟨by simp, .inl ⟨_, _, rfl, run_takeDeferred hK', ?_⟩⟩
    have hr : ∀ r, some D = some r → ∃ o : Obj, ((W.setCell ⟨w.heap.size + 1, 0, none⟩ (.int .u8 0)).setCell ⟨w.heap.size + 2, 0, none⟩ (.bool false)).heap[r]? = some o ∧ o.isCells = false := fun r e => by cases e; exact ⟨_, hK', rfl⟩
    have hg := grownBy_putObj' ((W.setCell ⟨w.heap.size + 1, 0, none⟩ (.int .u8 0)).setCell ⟨w.heap.size + 2, 0, none⟩ (.bool false)) D (.deferred none)
    have c1 := cell_kept (a := ⟨w.heap.size + 1, 0, none⟩) (v := .int .u8 0) (by
      rw [far2 _ w.heap.size 2 1 (by decide)]
      exact World.cell?_setCell_same' _ _ _ (by rw [q1]; rfl)) hg hr
    have c2 := cell_kept (a := ⟨w.heap.size + 2, 0, none⟩) (v := .bool false) (by
      refine World.cell?_setCell_same' _ _ _ ?_
      rw [far2 _ w.heap.size 1 2 (by decide), q3]; rfl) hg hr
    have hch : Chg (fun k => w.heap.size ≤ k) W (((W.setCell ⟨w.heap.size + 1, 0, none⟩ (.int .u8 0)).setCell ⟨w.heap.size + 2, 0, none⟩ (.bool false)).putObj D (.deferred none)) :=
      ((((Chg.refl _ _).setCell (p := ⟨w.heap.size + 1, 0, none⟩) (by show w.heap.size ≤ w.heap.size + 1; omega) _).setCell (p := ⟨w.heap.size + 2, 0, none⟩) (by show w.heap.size ≤ w.heap.size + 2; omega) _)).into
        ⟨hg.os, hg.tape, hg.output, hg.size, fun k hk hn => hg.block k hk (fun e => by cases e; exact hn rfl)⟩ (S' := fun k => k = D) (fun k hk e => by have := HDL.out; have := HWS.out; omega)
    obtain ⟨a1, a2⟩ := scan_all kp ks.reverse (fun y hy => by
      have := HALL.out
      rw [← this] at hy
      obtain ⟨z, hz, rfl⟩ := List.mem_map.1 hy
      exact HS.out z hz)
    refine ⟨_, ?_, rfl, ?_, HC.out.into hch (fun k hk e => by omega)⟩
    · rw [a2]
      simp [results, Try.f18, go_sem, c1, c2, Try.results18, lastV]
    · rw [a1]
      have hnO : ∀ i, i < 4 → ¬ O (w.heap.size + i) := fun i hlt hi => by
        rcases HO.out _ hi with h | h
        · have := HFA.out _ h; omega
        · omega
      have hnD : ¬ O D := fun hOk => by
        obtain ⟨o2, ho2, hoc2⟩ := HK.out.own _ _ _ HJ.out D hOk
        rw [hD] at ho2
        cases ho2
        cases hoc2
      have hch2 : Chg (fun k => w.heap.size ≤ k ∧ ¬ O k) W (((W.setCell ⟨w.heap.size + 1, 0, none⟩ (.int .u8 0)).setCell ⟨w.heap.size + 2, 0, none⟩ (.bool false)).putObj D (.deferred none)) :=
        (((Chg.refl _ _).setCell (p := ⟨w.heap.size + 1, 0, none⟩) ⟨by show w.heap.size ≤ w.heap.size + 1; omega, hnO 1 (by decide)⟩ _).setCell (p := ⟨w.heap.size + 2, 0, none⟩) ⟨by show w.heap.size ≤ w.heap.size + 2; omega, hnO 2 (by decide)⟩ _).into
          ⟨hg.os, hg.tape, hg.output, hg.size, fun k hk hn => hg.block k hk (fun e => by cases e; exact hn rfl)⟩ (S' := fun k => k = D) (fun k hk e => by rw [e]; exact ⟨by have := HDL.out; have := HWS.out; omega, hnD⟩)
      have hj := HK.out.abides _ _ _ _ HJ.out hch2
      rw [HALL.out] at hj
      exact ⟨O, hj, fun k hk => by rcases HO.out k hk with h | h; exact Or.inl h; exact Or.inr (by omega)⟩
  case stop =>
    rintro D c pre W hDl hpart ⟨rfl, ini, x, rfl, ⟨q1, q3⟩, hs, hx, ⟨O, hJ, hO, -⟩, hc⟩ hD
    have HO := hid hO
    clear hO
    have HS := hid hs
    have HX := hid hx
    have HJ := hid hJ
    have HC := hid hc
    have HP := hid hpart
    have HDL := hid hDl
    clear hs hx hJ hc hpart hDl
    gi_wp2
    refine ⟨by simp, .inl ⟨_, _, rfl, run_takeDeferred hD, ?_⟩⟩
    have hr : ∀ r, some D = some r → ∃ o : Obj, W.heap[r]? = some o ∧ o.isCells = false := fun r e => by cases e; exact ⟨_, hD, rfl⟩
    have hg := grownBy_putObj' W D (.deferred none)
    have c1 := cell_kept q1 hg hr
    have c2 := cell_kept q3 hg hr
    have hch : Chg (fun k => w.heap.size ≤ k) W (W.putObj D (.deferred none)) :=
      ⟨hg.os, hg.tape, hg.output, hg.size, fun k hk hn => hg.block k hk (fun e => by cases e; exact hn (by have := HDL.out; have := HWS.out; omega))⟩
    obtain ⟨r, hr'⟩ := HP.out
    have hpl : ks.reverse = ini.map (fun x => x.1) ++ x.1 :: r := by rw [← hr']; simp
    obtain ⟨a1, a2⟩ := scan_at kp (ini.map (fun x => x.1)) x.1 r (fun y hy => by
      obtain ⟨z, hz, rfl⟩ := List.mem_map.1 hy
      exact HS.out z hz) HX.out
    rw [← hpl] at a1 a2
    refine ⟨_, ?_, rfl, ?_, HC.out.into hch (fun k hk e => by omega)⟩
    · rw [a2]
      simp [results, Try.f18, go_sem, c1, c2, Try.results18, lastV]
    · rw [a1]
      have hnD : ¬ O D := fun hOk => by
        obtain ⟨o2, ho2, hoc2⟩ := HK.out.own _ _ _ HJ.out D hOk
        rw [hD] at ho2
        cases ho2
        cases hoc2
      have hch2 : Chg (fun k => w.heap.size ≤ k ∧ ¬ O k) W (W.putObj D (.deferred none)) :=
        ⟨hg.os, hg.tape, hg.output, hg.size, fun k hk hn => hg.block k hk (fun e => by cases e; exact hn ⟨by have := HDL.out; have := HWS.out; omega, hnD⟩)⟩
      have hj := HK.out.abides _ _ _ _ HJ.out hch2
      rw [List.map_append] at hj
      exact ⟨O, hj, fun k hk => by rcases HO.out k hk with h | h; exact Or.inl h; exact Or.inr (by omega)⟩

theorem lastbut2 (w : World) (b : Nat) (F : Nat → Prop) (ks : List Int) (h : Lst w b F ks) (gf : Nat) (cap : Array Value) (J : (Nat → Prop) → List Int → World → Prop) (kp : Int → Bool) (S : Nat → Prop) (hk : Keeper2 F ks gf cap J kp w S) (h0 : J S [] w) :
    Calls Try.prog 18 #[.pointer (some ⟨b, 0, none⟩), .func (.func gf) #[] cap] w fun e W' => e = .returned (lastV (scanR kp ks.reverse)) ∧ (∃ O', J O' (scanA kp ks.reverse) W' ∧ ∀ k, O' k → S k ∨ w.heap.size ≤ k) ∧ Chg S w W' :=
  callsIn_wide.1 (lastbut2_in 5 (Nat.le_refl _) w b F ks h gf cap J kp S hk h0)
end Go.Proofs.Ythecpiigabfboaa.LB
