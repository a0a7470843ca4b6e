/-
  The reference's functions on lists of numbers: Without, Use, Has, Same.
-/
import Derived.Test.YthecpiigabfboaaLIJ
import Derived.ProofKit
namespace Go.Proofs.Ythecpiigabfboaa
open Go.ChangeShapes Go.WideShapes Go.ChangeAt Go.RowKit Go.Maps
open LI
set_option linter.unusedVariables false
set_option linter.unusedSimpArgs false

/-- A slice of numbers. -/
def IsL (w : World) (v : Value) (zs : List Int) : Prop := ∃ A cap, v = .slice A zs.length cap ∧ Row w A (zs.map (Value.int .i64))
theorem IsL.chg {S : Nat → Prop} {w w' : World} {v : Value} {zs : List Int} (h : IsL w v zs) (hc : Chg S w w') (hs : ∀ k, k < w.heap.size → ¬ S k) : IsL w' v zs := by
  obtain ⟨A, cap, rfl, hr⟩ := h
  refine ⟨A, cap, rfl, fun i u hi => ?_⟩
  obtain ⟨b, off, hA, hb, hcs⟩ := hr i u hi
  exact ⟨b, off, hA, Nat.lt_of_lt_of_le hb hc.size, fun j x hx => hc.cell (hcs j x hx) (hs b hb)⟩
/-- A slice of numbers that a call has made. -/
def OwnL (base : Nat) (w : World) (v : Value) (zs : List Int) : Prop := w.ownsRow base 3 1 v zs.length (zs.map (Value.int .i64))
theorem OwnL.isL {base : Nat} {w : World} {v : Value} {zs : List Int} (h : OwnL base w v zs) : IsL w v zs := by
  obtain ⟨A, cap, rfl⟩ : ∃ A cap, v = .slice A zs.length cap := by
    rcases h.2 with ⟨rfl, h0⟩ | ⟨g, cap', cur, rfl, _⟩
    · exact ⟨none, 0, by rw [h0]⟩
    · exact ⟨_, _, rfl⟩
  exact ⟨A, cap, rfl, own_row1 h⟩
theorem drop_snoc_ne {l : List Int} {k : Int} {i : Nat} (h : i < l.length) (he : ¬ l[i] = k) : dropL (l.take (i + 1)) k = dropL (l.take i) k ++ [l[i]] := by
  unfold dropL
  rw [List.take_succ_eq_append_getElem h, List.filter_append, List.filter_cons_of_pos (by simpa using he)]
  simp
theorem drop_snoc_eq {l : List Int} {k : Int} {i : Nat} (h : i < l.length) (he : l[i] = k) : dropL (l.take (i + 1)) k = dropL (l.take i) k := by
  unfold dropL
  rw [List.take_succ_eq_append_getElem h, List.filter_append, List.filter_cons_of_neg (by simpa using he)]
  simp
theorem dropL_len (l : List Int) (k : Int) : (dropL l k).length ≤ l.length := List.length_filter_le _ _

set_option maxHeartbeats 1000000 in
theorem without_any (w : World) (v : Value) (zs : List Int) (k : Int) (h : IsL w v zs) (hn : zs.length ≤ 1000) :
    Calls Try.prog 23 #[v, .int .i64 k] w fun e w' => ∃ u, e = .returned u ∧ OwnL w.heap.size w' u (dropL zs k) ∧ Chg (fun _ => False) w w' := by
  obtain ⟨i0, hi0, hz0, hz1, hz2⟩ := info_parts infoI
  obtain ⟨A, cap, rfl, hr⟩ := h
  have HR := hid hr
  clear hr
  go_enter Try.func23, Try.ntmps23
  go_wp2_with fail
  go_loopw [5, 6] (fun out i wr => ∃ (j : Nat), j ≤ zs.length ∧ i = .int .i64 j ∧ OwnL w.heap.size wr out (dropL (zs.take j) k) ∧ Chg (fun b => w.heap.size ≤ b) w wr) (fun _ i _ => zs.length - (intOf i).toNat)
  case atStart => exact ⟨0, by omega, rfl, World.ownsRow_nil _ _ _ _, Chg.refl _ _⟩
  case round =>
    obtain ⟨j, hj, rfl, ho, hG⟩ := hrel
    have HO := hid ho
    have HG := hid hG
    clear ho hG
    by_cases hlt : j < zs.length
    · obtain ⟨b1, off, rfl, hb1, hcs⟩ := HR.out.at_ (k := j) (by simpa using hlt)
      have e0 := HG.out.cell (hcs j (.int .i64 zs[j]) (by rw [List.getElem?_map, List.getElem?_eq_getElem hlt]; rfl)) (by show ¬ w.heap.size ≤ b1; omega)
      have hl := dropL_len (zs.take j) k
      have hl2 := List.length_take_le j zs
      by_cases hk : zs[j] = k
      · have hd := drop_snoc_eq hlt hk
        have HD := hid hd
        obtain ⟨x, hx⟩ : ∃ x, x = zs[j] := ⟨_, rfl⟩
        rw [← hx] at e0 hk
        clear hd hx hcs hl hl2
        subst hk
        go_wp2_with fail
        go_roundw
        case rel => exact ⟨j + 1, by omega, by go_num, by rw [HD.out]; exact HO.out, HG.out⟩
        case measure => simp [intOf]; omega
      · have hd := drop_snoc_ne hlt hk
        obtain ⟨x, hx⟩ : ∃ x, x = zs[j] := ⟨_, rfl⟩
        rw [← hx] at e0 hk hd
        have HD := hid hd
        obtain ⟨ds, hds⟩ : ∃ ds, ds = dropL (zs.take j) k := ⟨_, rfl⟩
        rw [← hds] at HO HD hl
        have hdl : ds.length ≤ 1000 := by omega
        have hsz := HG.out.size
        clear hd hx hcs hl hl2 hds
        go_wp2_with (first
          | (at_builtin
             refine wpList_append_own_at _ rfl (.tmp 19) (.tmp 24) 34 rfl w.heap.size 3 i0 (.int .i64 0) 1 8 Try.underlying34 hi0 hz0 hz1 hz2 rfl (by decide) u5 ds.length (ds.map (Value.int .i64)) rfl (own_chg HO.out ((Chg.refl (fun _ => False) _).alloc _) (fun _ _ h => h)) ⟨wr.heap.size, 0, none⟩ 1 1 [.int .i64 x] rfl rfl (news1 _ _ _ _ rfl) (by simp [Value.oneCell']) (by unfold maxLen; omega) (by omega) (by simp; omega) ?_
             intro v' w2 hown1 hgrow hnil hat
             have hO2 : OwnL w.heap.size w2 v' (ds ++ [x]) := by
               unfold OwnL
               rw [List.length_append, List.map_append]
               exact hown1
             have HO2 := hid hO2
             have HG2 := hid ((HG.out.alloc _).trans ((chg_of_grown hgrow).weaken (fun b _ e => (HO.out.lt b e.symm).1)))
             clear hown1 hgrow hnil hat hO2))
        go_roundw
        case rel => exact ⟨j + 1, by omega, by go_num, by rw [HD.out]; exact HO2.out, HG2.out⟩
        case measure => simp [intOf]; omega
    · have hje : j = zs.length := by omega
      rw [hje, List.take_length] at HO
      clear hje
      go_wp2_with fail
      go_ret
      exact ⟨_, rfl, HO.out, HG.out.os, HG.out.tape, HG.out.output, HG.out.size, fun k hk _ => HG.out.block k hk (by omega)⟩

theorem drop_lt (zs : List Int) (k : Int) : (dropL zs k).length < zs.length ↔ k ∈ zs := by
  induction zs with
  | nil => simp [dropL]
  | cons x r ih =>
    unfold dropL at ih ⊢
    have hl := List.length_filter_le (fun x => decide (x ≠ k)) r
    by_cases hx : x = k
    · rw [List.filter_cons_of_neg (by simpa using hx), List.mem_cons]
      simp only [List.length_cons]
      exact ⟨fun _ => Or.inl hx.symm, fun _ => by omega⟩
    · rw [List.filter_cons_of_pos (by simpa using hx), List.mem_cons]
      simp only [List.length_cons]
      have hx' : ¬ k = x := fun e => hx e.symm
      simp only [hx', false_or, ← ih]
      omega

set_option maxHeartbeats 1000000 in
theorem has_ref (w : World) (v : Value) (zs : List Int) (k : Int) (h : IsL w v zs) (hn : zs.length ≤ 1000) :
    Calls Try.prog 22 #[v, .int .i64 k] w fun e w' => e = .returned (.bool (decide (k ∈ zs))) ∧ Chg (fun _ => False) w w' := by
  have HI := hid h
  have hd := drop_lt zs k
  obtain ⟨A, cap, rfl, hr⟩ := h
  clear hr
  go_enter Try.func22, Try.ntmps22
  go_wp2_with fail
  refine (without_any _ _ zs k HI.out hn).mono ?_
  rintro e w1 ⟨u, rfl, hO, hc⟩
  obtain ⟨A', cap', rfl, -⟩ := hO.isL
  have HC := hid hc
  have e1 : decide (((dropL zs k).length : Int) < (zs.length : Int)) = decide (k ∈ zs) := by
    apply decide_eq_decide.2
    rw [← hd]
    omega
  have HE := hid e1
  obtain ⟨n1, hn1⟩ : ∃ n, n = (dropL zs k).length := ⟨_, rfl⟩
  rw [← hn1] at HE ⊢
  clear hO hc hd hn1 e1
  go_wp2_with fail
  go_ret
  exact ⟨by rw [← HE.out]; simp, HC.out⟩

set_option maxHeartbeats 1000000 in
theorem use_ref (w : World) (v : Value) (zs : List Int) (k : Int) (h : IsL w v zs) (hn : zs.length ≤ 1000) :
    Calls Try.prog 21 #[v, .int .i64 k] w fun e w' => ∃ u, e = .returned u ∧ OwnL w.heap.size w' u (useL zs k) ∧ Chg (fun _ => False) w w' := by
  obtain ⟨i0, hi0, hz0, hz1, hz2⟩ := info_parts infoI
  have HI := hid h
  have hdl := dropL_len zs k
  clear h
  go_enter Try.func21, Try.ntmps21
  go_wp2_with fail
  have hc0 : Chg (fun _ => False) w (w.alloc (.cells #[.int .i64 k] 3)) := (Chg.refl _ _).alloc _
  refine (without_any _ _ zs k (HI.out.chg hc0 (fun _ _ h => h)) hn).mono ?_
  rintro e w1 ⟨u, rfl, hO, hc⟩
  have r0 : (w.alloc (.cells #[.int .i64 k] 3)).ownsRow w.heap.size 3 1 (.slice (some ⟨w.heap.size, 0, none⟩) 1 1) 1 [.int .i64 k] :=
    ⟨rfl, .inr ⟨w.heap.size, 1, #[.int .i64 k], rfl, Nat.le_refl _, heap_alloc_new w _, by omega, by unfold maxLen; omega, rfl, rfl⟩⟩
  have HR1 := hid (own_chg r0 hc (fun _ _ h => h))
  have HO := hid hO
  have HC := hid (hc0.trans hc)
  have hsz := (hc0.trans hc).size
  have hlO := hO.1
  rcases hO.2 with ⟨rfl, h0⟩ | ⟨g, cap, cur, rfl, _⟩
  · have hm := fun ty => run_append_owned_none w1 w.heap.size 34 ty 3 i0 1 Try.underlying34 hi0 (.slice (some ⟨w.heap.size, 0, none⟩) 1 1) 1 [.int .i64 k] HR1.out
    have hnil : dropL zs k = [] := List.eq_nil_of_length_eq_zero h0
    have HN := hid hnil
    clear hO hc hc0 r0 h0 hlO hdl hnil
    go_wp2_with fail
    go_ret
    refine ⟨_, rfl, ?_, HC.out⟩
    unfold useL OwnL
    rw [HN.out]
    exact HR1.out
  · have hcell := fun j (u : Value) (hj : ((dropL zs k).map (Value.int .i64))[j]? = some u) => own_cell hO hj
    have HCL := hid hcell
    obtain ⟨ds, hds⟩ : ∃ ds, ds = dropL zs k := ⟨_, rfl⟩
    rw [← hds] at HCL hdl HO ⊢
    have HDS := hid hds
    clear hO hc hc0 r0 hlO hcell hds
    go_wp2_with (first
      | (at_builtin
         go_loud (refine wpList_append_own_at _ rfl (.tmp 6) (.tmp 9) 34 rfl w.heap.size 3 i0 (.int .i64 0) 1 8 Try.underlying34 hi0 hz0 hz1 hz2 rfl (by decide) (.slice (some ⟨w.heap.size, 0, none⟩) 1 1) 1 [.int .i64 k] rfl HR1.out ⟨g, 0, none⟩ ds.length cap (ds.map (Value.int .i64)) rfl (by simp) (fun j u hj => by rw [add_none, Nat.zero_add]; exact HCL.out j u hj) (by intro u hu; obtain ⟨z, _, rfl⟩ := List.mem_map.1 hu; simp [Value.oneCell']) (by unfold maxLen; omega) (by omega) (by omega) ?_)
         intro v' w2 hown1 hgrow hnil hat
         have hO2 : OwnL w.heap.size w2 v' (useL zs k) := by
           unfold OwnL useL
           rw [← HDS.out, List.length_cons, Nat.add_comm]
           exact hown1
         have HO2 := hid hO2
         have HG2 := hid (HC.out.into (chg_of_grown hgrow) (fun b hb e => by simp [Value.ownBlock] at e; omega))
         clear hown1 hgrow hnil hat hO2))
    go_ret
    exact ⟨_, rfl, HO2.out, HG2.out⟩

set_option maxHeartbeats 1000000 in
theorem same_ref (w : World) (v v' : Value) (zs : List Int) (h : IsL w v zs) (h' : IsL w v' zs) (hn : zs.length ≤ 1000) :
    Calls Try.prog 24 #[v, v'] w fun e w' => e = .returned (.bool true) ∧ Chg (fun _ => False) w w' := by
  obtain ⟨A, cap, rfl, hr⟩ := h
  obtain ⟨A', cap', rfl, hr'⟩ := h'
  have HR := hid hr
  have HR' := hid hr'
  clear hr hr'
  go_enter Try.func24, Try.ntmps24
  go_wp2_with fail
  go_loopw [5] (fun i wr => ∃ (j : Nat), j ≤ zs.length ∧ i = .int .i64 j ∧ Chg (fun _ => False) w wr) (fun i _ => zs.length - (intOf i).toNat)
  case atStart => exact ⟨0, by omega, rfl, Chg.refl _ _⟩
  case round =>
    obtain ⟨j, hj, rfl, hG⟩ := hrel
    by_cases hlt : j < zs.length
    · obtain ⟨b1, off, rfl, hb1, hcs⟩ := HR.out.at_ (k := j) (by simpa using hlt)
      obtain ⟨b2, off', rfl, hb2, hcs'⟩ := HR'.out.at_ (k := j) (by simpa using hlt)
      have e0 := hG.cell (hcs j (.int .i64 zs[j]) (by rw [List.getElem?_map, List.getElem?_eq_getElem hlt]; rfl)) (fun h => h)
      have e1 := hG.cell (hcs' j (.int .i64 zs[j]) (by rw [List.getElem?_map, List.getElem?_eq_getElem hlt]; rfl)) (fun h => h)
      obtain ⟨x, hx⟩ : ∃ x, x = zs[j] := ⟨_, rfl⟩
      rw [← hx] at e0 e1
      have HG := hid hG
      clear hx hcs hcs' hG
      go_wp2_with fail
      go_quiet (fail)
      go_wp2_with fail
      go_roundw
      case rel => exact ⟨j + 1, by omega, by go_num, HG.out.drewN _⟩
      case measure => simp [intOf]; omega
    · go_wp2_with fail
      go_ret
      exact ⟨rfl, hG⟩
end Go.Proofs.Ythecpiigabfboaa
