/-
  LruKeeps' walk.
-/
import Derived.Test.YthecpiigabfboaaKeep
import Derived.LoopTactic
import Derived.Deep.RegionHeld3
import Derived.Deep.DeepCutAuto
import Derived.Outline
namespace Go.Proofs.Ythecpiigabfboaa
open Go.ChangeShapes Go.WideShapes Go.ChangeAt Go.RowKit Go.Maps
open LB
set_option linter.unusedVariables false
set_option linter.unusedSimpArgs false

theorem scanA_take (kp : Int → Bool) (l : List Int) : ∃ r, l = scanA kp l ++ r := by
  induction l with
  | nil => exact ⟨[], rfl⟩
  | cons x r ih =>
    obtain ⟨t, ht⟩ := ih
    unfold scanA
    split
    · exact ⟨t, by rw [List.cons_append, ← ht]⟩
    · exact ⟨r, rfl⟩
theorem scanA_at {kp : Int → Bool} {l : List Int} {i : Nat} (h : i < (scanA kp l.reverse).length) : i < l.length ∧ ∃ h2 : l.length - 1 - i < l.length, (scanA kp l.reverse)[i] = l[l.length - 1 - i] := by
  obtain ⟨r, hr⟩ := scanA_take kp l.reverse
  have hl : l.length = (scanA kp l.reverse).length + r.length := by
    have := congrArg List.length hr
    simpa using this
  refine ⟨by omega, by omega, ?_⟩
  have h1 : (scanA kp l.reverse)[i] = l.reverse[i]'(by simp; omega) := by
    have : l.reverse[i]'(by simp; omega) = (scanA kp l.reverse ++ r)[i]'(by simp; omega) := by
      congr 1
    rw [this, List.getElem_append_left h]
  rw [h1, List.getElem_reverse]
theorem scanR_none {kp : Int → Bool} {l : List Int} (h : scanR kp l = none) : ∀ x ∈ l, kp x = true := by
  induction l with
  | nil => simp
  | cons x r ih =>
    unfold scanR at h
    split at h
    · intro y hy
      rcases List.mem_cons.1 hy with rfl | hy
      · assumption
      · exact ih h y hy
    · cases h
theorem scanR_some {kp : Int → Bool} {l : List Int} {x : Int} (h : scanR kp l = some x) : x ∈ l ∧ kp x = false := by
  induction l with
  | nil => cases h
  | cons y r ih =>
    unfold scanR at h
    split at h
    · obtain ⟨a, b⟩ := ih h
      exact ⟨List.mem_cons_of_mem _ a, b⟩
    · rename_i hn
      cases h
      exact ⟨List.mem_cons_self, by simpa using hn⟩
/-- A list of numbers below n, all unlike, has at most n. -/
theorem few_of_nodup (n : Nat) : ∀ l : List Int, l.Nodup → (∀ x ∈ l, 0 ≤ x ∧ x < (n : Int)) → l.length ≤ n := by
  induction n with
  | zero =>
    intro l _ h
    cases l with
    | nil => exact Nat.le_refl _
    | cons x r => have := h x List.mem_cons_self; omega
  | succ n ih =>
    intro l hd h
    have h1 := ih (l.filter (fun x => decide (x ≠ (n : Int)))) (hd.filter _) (fun x hx => by
      obtain ⟨a, b⟩ := List.mem_filter.1 hx
      have c := h x a
      have d : x ≠ n := by simpa using b
      omega)
    have h2 : l.length ≤ (l.filter (fun x => decide (x ≠ (n : Int)))).length + 1 := by
      clear h1 h ih
      induction l with
      | nil => simp
      | cons y r ihr =>
        rw [List.nodup_cons] at hd
        by_cases hy : y = n
        · have : r.filter (fun x => decide (x ≠ (n : Int))) = r := List.filter_eq_self.2 (fun x hx => by
            have : x ≠ n := fun e => hd.1 (by rw [hy, ← e]; exact hx)
            simpa using this)
          rw [List.filter_cons_of_neg (by simpa using hy), this]
          simp
        · rw [List.filter_cons_of_pos (by simpa using hy)]
          have := ihr hd.2
          simp only [List.length_cons]
          omega
    omega
theorem dropL_kept {kp : Int → Bool} {l : List Int} {x : Int} (hx : kp x = false) : (dropL l x).filter kp = l.filter kp := by
  unfold dropL
  rw [List.filter_filter]
  apply List.filter_congr
  intro y _
  by_cases hy : y = x
  · subst hy; simp [hx]
  · simp [hy]
theorem dropL_less {kp : Int → Bool} {l : List Int} {x : Int} (hx : kp x = false) (hm : x ∈ l) : ((dropL l x).filter (fun y => !kp y)).length + 1 ≤ (l.filter (fun y => !kp y)).length := by
  induction l with
  | nil => cases hm
  | cons y r ih =>
    unfold dropL at ih ⊢
    have hle : ((r.filter (fun z => decide (z ≠ x))).filter (fun y => !kp y)).length ≤ (r.filter (fun y => !kp y)).length := by
      rw [List.filter_filter]
      have : ∀ l : List Int, (l.filter (fun a => (!kp a) && decide (a ≠ x))).length ≤ (l.filter (fun y => !kp y)).length := by
        intro l
        induction l with
        | nil => simp
        | cons a l ih =>
          by_cases h1 : kp a = true
          · rw [List.filter_cons_of_neg (by simp [h1]), List.filter_cons_of_neg (by simp [h1])]
            exact ih
          · by_cases h2 : a = x
            · rw [List.filter_cons_of_neg (by simp [h2]), List.filter_cons_of_pos (by simpa using h1)]
              simp only [List.length_cons]; omega
            · rw [List.filter_cons_of_pos (by simp [h1, h2]), List.filter_cons_of_pos (by simpa using h1)]
              simp only [List.length_cons]; omega
      exact this r
    by_cases hy : y = x
    · subst hy
      rw [List.filter_cons_of_neg (by simp), List.filter_cons_of_pos (by simp [hx])]
      simp only [List.length_cons]
      omega
    · have hm' : x ∈ r := by
        rcases List.mem_cons.1 hm with e | e
        · exact absurd e.symm hy
        · exact e
      rw [List.filter_cons_of_pos (by simpa using hy)]
      by_cases hk : kp y = true
      · rw [List.filter_cons_of_neg (by simp [hk]), List.filter_cons_of_neg (by simp [hk])]
        exact ih hm'
      · rw [List.filter_cons_of_pos (by simpa using hk), List.filter_cons_of_pos (by simpa using hk)]
        have := ih hm'
        simp only [List.length_cons]
        omega
/-- Among those that are kept of a list, the one at a place of the list. -/
theorem kept_at {kp : Int → Bool} {l : List Int} {i : Nat} (h : i < l.length) (hk : kp l[i] = true) : (l.filter kp)[((l.take i).filter kp).length]? = some l[i] := by
  have e : l = l.take i ++ l[i] :: l.drop (i + 1) := by rw [← List.drop_eq_getElem_cons h, List.take_append_drop]
  have e2 : l.filter kp = (l.take i).filter kp ++ l[i] :: (l.drop (i + 1)).filter kp := by
    conv => lhs; rw [e]
    rw [List.filter_append, List.filter_cons_of_pos hk]
  rw [e2, List.getElem?_append_right (Nat.le_refl _), Nat.sub_self]
  rfl
theorem kept_yes {kp : Int → Bool} {l : List Int} {i : Nat} (h : i < l.length) (hk : kp l[i] = true) : ((l.take (i + 1)).filter kp).length = ((l.take i).filter kp).length + 1 := by
  rw [List.take_succ_eq_append_getElem h, List.filter_append, List.filter_cons_of_pos hk]
  simp
theorem kept_no {kp : Int → Bool} {l : List Int} {i : Nat} (h : i < l.length) (hk : kp l[i] = false) : ((l.take (i + 1)).filter kp).length = ((l.take i).filter kp).length := by
  rw [List.take_succ_eq_append_getElem h, List.filter_append, List.filter_cons_of_neg (by simp [hk])]
  simp

theorem own_slice {w : World} {base e size n : Nat} {v : Value} {xs : List Value} (h : w.ownsRow base e size v n xs) : ∃ A cap, v = .slice A n cap := by
  rcases h.2 with ⟨rfl, h0⟩ | ⟨g, cap', cur, rfl, _⟩
  · have := h.1
    subst h0
    exact ⟨none, 0, rfl⟩
  · exact ⟨_, _, rfl⟩
theorem kj_keeper (base g h : Nat) (bits : Int) (F : Nat → Prop) (ks : List Int) (w : World) (O0 : Nat → Prop) (hb : base ≤ w.heap.size) (hF : ∀ k, O0 k → ¬ F k) (hks : ks.length ≤ 16) (hok : ∀ k ∈ ks, ok k) (hbits : (Lit.int .u16 bits).wf = true) (hh : h < w.heap.size) :
    Keeper2 F ks 19 #[.pointer (some ⟨g, 0, none⟩), .pointer (some ⟨h, 0, none⟩)] (fun O pre W => KJ base g h bits O pre W ∧ base ≤ W.heap.size) (kpU bits) w O0 where
  enters := enters_of Try.func19 (by kernel_rfl) rfl
  far := hF
  own := by
    rintro O pre W ⟨⟨v, h1, h2, h3, h4, h5⟩, -⟩ k hk
    rcases (h3 k).1 hk with rfl | hv
    · exact ⟨_, h1, rfl⟩
    · rcases h2.2 with ⟨rfl, _⟩ | ⟨g', cap', cur, rfl, _, hgg, _⟩
      · simp [Value.ownBlock] at hv
      · simp [Value.ownBlock] at hv
        subst hv
        exact ⟨_, hgg, rfl⟩
  abides := by
    rintro O pre W W' ⟨⟨v, h1, h2, h3, h4, h5⟩, h6⟩ hc
    exact ⟨⟨v, hc.blk h1 (fun e => e.2 ((h3 _).2 (Or.inl rfl))), own_chg h2 hc (fun x hx e => e.2 ((h3 _).2 (Or.inr hx))), h3, hc.blk h4 (fun e => by have := e.1; omega), h5⟩, Nat.le_trans h6 hc.size⟩
  call := by
    rintro O pre x W hx hl ⟨hj, h6⟩ hc
    refine (note_any base g h bits O pre x W hj h6 (by omega) (hok x hx) hbits).mono ?_
    rintro e W' ⟨he, O', hj', hO', hc'⟩
    exact ⟨he, O', ⟨hj', Nat.le_trans h6 hc'.size⟩, hO', hc'⟩

theorem keys_cell {w : World} {g i : Nat} {l : List Int} {x : Int} (hb : Blk w g 5 (l.map enc).toArray) (h : l[i]? = some x) : w.cell? ⟨g, i, none⟩ = some (.int .u8 x) := by
  rw [hb.cell, List.getElem?_toArray, List.getElem?_map, h]
  rfl

set_option maxRecDepth 100000 in
set_option maxHeartbeats 4000000 in
theorem keeps_any (A : Option Addr) (cap : Nat) (zs : List Int) (bits : Int) (w : World) (hr : Row w A (zs.map (Value.int .u8))) (hz : ∀ z ∈ zs, ok z) (hb : (Lit.int .u16 bits).wf = true) (hn : zs.length ≤ 60) :
    Calls Try.prog 5 #[.slice A zs.length cap, .int .u16 bits] w fun e w' => e = .returned (.bool true) ∧ Below w.heap.size w w' := by
  have HZ := hid hz
  have HR := hid hr
  have HBITS := hid hb
  clear hz hr hb
  go_enter Try.func5, Try.ntmps5
  go_wp2_with fail
  refine (alive_any _).mono ?_
  rintro e w1 ⟨rfl, g1⟩
  have k1 := g1.size
  rw [World.size_alloc] at k1
  have c1 := hid (g1.blk (Blk.new w 37 #[.int .u16 bits]) (fun h => h))
  have G1 : Chg (fun _ => False) w w1 := ((Chg.refl (fun _ => False) w).alloc _).trans g1
  clear g1
  go_wp2_with fail
  refine (new_t1 w1.heap.size [] _ (Nat.le_refl _) (Lie.nil _)).mono ?_
  rintro e w2 ⟨rfl, t2, g2⟩
  have HT2 := hid t2
  obtain ⟨a, ha⟩ : ∃ a, a = w1.heap.size + 2 := ⟨_, rfl⟩
  rw [← ha] at HT2 ⊢
  have G2 := hid (g2.weaken (S' := fun k => w1.heap.size ≤ k) (fun _ _ h => h.elim))
  clear g2 t2 ha
  go_wp2_with fail
  go_loopw [6] (fun i wr => ∃ (j : Nat) (m : List Int), j ≤ zs.length ∧ i = .int .i64 j ∧ T1 w1.heap.size [] wr a m ∧ m.length ≤ j ∧ (∀ x ∈ m, 0 ≤ x ∧ x < ((16 : Nat) : Int)) ∧ Chg (fun k => w1.heap.size ≤ k) w1 wr) (fun i _ => zs.length - (intOf i).toNat)
  case atStart => exact ⟨0, [], by omega, rfl, HT2.out, Nat.le_refl _, by simp, G2.out⟩
  case round =>
    obtain ⟨j, m, hj, rfl, ht, hml, hmr, hG⟩ := hrel
    have hsz := hG.size
    have HT := hid ht
    have HG := hid hG
    have HM := hid hmr
    clear ht hG hmr HT2 G2
    by_cases hlt : j < zs.length
    · obtain ⟨b1, off, rfl, hb1, hcs⟩ := HR.out.at_ (k := j) (by simpa using hlt)
      have hc00 := G1.cell (hcs j (.int .u8 zs[j]) (by rw [List.getElem?_map, List.getElem?_eq_getElem hlt]; rfl)) (fun h => h)
      have e0 := HG.out.cell hc00 (by show ¬ w1.heap.size ≤ b1; omega)
      have hok := HZ.out zs[j] (List.getElem_mem hlt)
      obtain ⟨x, hx⟩ : ∃ x, x = zs[j] := ⟨_, rfl⟩
      rw [← hx] at e0 hok
      have b0 := bounds_u8 hok
      clear hx hcs hc00 hok hb1
      have hok2 : ok (x % 16) := by
        unfold ok
        simp [Lit.wf, IntKind.min, IntKind.max, IntKind.bits, IntKind.signed]
        omega
      have HOK := hid hok2
      have HX : Hid (0 ≤ x % 16 ∧ x % 16 < ((16 : Nat) : Int)) := hid (by omega)
      clear hok2
      go_wp2_with fail
      refine (use_t1 w1.heap.size [] _ a m (x % 16) HT.out hsz (Lie.nil _) HOK.out (by omega)).mono ?_
      rintro e w4 ⟨rfl, t4, g4⟩
      have HT4 := hid t4
      have HG4 := hid (HG.out.trans (g4.weaken (fun _ _ h => h.1)))
      obtain ⟨m', hm'⟩ : ∃ m', m' = useL m (x % 16) := ⟨_, rfl⟩
      rw [← hm'] at HT4
      have HM4 : Hid (∀ y ∈ m', 0 ≤ y ∧ y < ((16 : Nat) : Int)) := hid (by
        rw [hm']
        intro y hy
        rcases List.mem_cons.1 hy with rfl | hy
        · exact HX.out
        · exact HM.out y (List.mem_filter.1 hy).1)
      have hml4 : m'.length ≤ j + 1 := by rw [hm']; have := useL_len m (x % 16); omega
      clear t4 g4 hm' HM HT HG e0 HX
      go_wp2_with fail
      go_roundw
      case rel => exact ⟨j + 1, m', by omega, by go_num, HT4.out, hml4, HM4.out, HG4.out⟩
      case measure => simp [intOf]; omega
    · have hfew := few_of_nodup 16 m HT.out.nodup HM.out
      clear HM HR HZ hml
      go_wp2_with fail
      refine (keys_t1 w1.heap.size [] _ a m HT.out).mono ?_
      rintro e w4 ⟨g, rfl, hg, hB, g4⟩
      have HB4 := hid hB
      have HT4 := hid (HT.out.skip hg g4)
      have HMG := hid HT.out.good
      have hP : Lie [g] w4 := fun p hp => by rw [List.mem_singleton.1 hp]; exact hB.lt
      have HP4 := hid hP
      have HG4 := hid (HG.out.trans (g4.weaken (fun _ _ h => h.elim)))
      clear g4 hB hg HT HG hsz hP hlt
      go_wp2_with fail
      go_loopw [8] (fun i wr => ∃ (j : Nat) (m2 : List Int), j ≤ 20 ∧ i = .int .i64 j ∧ T1 w1.heap.size [g] wr a m2 ∧ Lie [g] wr ∧ m2.filter (kpU bits) = m.filter (kpU bits) ∧ (m2.filter (fun y => !kpU bits y)).length + j ≤ 16 ∧ Blk wr g 5 (m.map enc).toArray ∧ m2.length ≤ 16 ∧ Chg (fun k => w1.heap.size ≤ k) w1 wr) (fun i _ => 20 - (intOf i).toNat)
      case atStart => exact ⟨0, m, by omega, rfl, HT4.out, HP4.out, rfl, by have := List.length_filter_le (fun y => !kpU bits y) m; omega, HB4.out, hfew, HG4.out⟩
      case round =>
        obtain ⟨j, m2, hj, rfl, ht, hP, hk1, hk2, hB, hml, hG⟩ := hrel
        have hsz := hG.size
        have HT := hid ht
        have HP := hid hP
        have HK1 := hid hk1
        have HB := hid hB
        have HG := hid hG
        have hj16 : j ≤ 16 := by omega
        have HK2 := hid hk2
        clear ht hP hk1 hB hG hk2 HT4 HP4 HB4 HG4
        go_wp2_with fail
        obtain ⟨wo, rfl⟩ : ∃ wo : World, wo = wr := ⟨_, rfl⟩
        obtain ⟨F, hL, hF⟩ := id HT.out
        obtain ⟨W0, hW0⟩ : ∃ W0, (wo.alloc (Obj.cells #[] 5)).alloc (Obj.cells #[Value.slice (some { block := wo.heap.size, off := 0 }) 0 0] 22) = W0 := ⟨_, rfl⟩
        have hs0 : W0.heap.size = wo.heap.size + 2 := by rw [← hW0]; simp
        have hc0 : Chg (fun _ => False) wo W0 := by rw [← hW0]; exact ((Chg.refl (fun _ => False) wo).alloc _).alloc _
        have hj0 : KJ w1.heap.size (wo.heap.size + 1) w.heap.size bits (fun k => k = wo.heap.size + 1 ∨ k = wo.heap.size) [] W0 := by
          refine ⟨_, ?_, ⟨rfl, .inr ⟨wo.heap.size, 0, #[], rfl, hsz, ?_, Nat.le_refl _, by unfold maxLen; omega, rfl, rfl⟩⟩, fun k => ?_, hc0.blk (HG.out.blk c1.out (by show ¬ w1.heap.size ≤ w.heap.size; omega)) (fun h => h), by omega⟩
          · rw [← hW0]
            have := Blk.new (wo.alloc (Obj.cells #[] 5)) 22 #[Value.slice (some { block := wo.heap.size, off := 0 }) 0 0]
            rwa [World.size_alloc] at this
          · rw [← hW0]
            exact (Blk.new wo 5 #[]).alloc _
          · simp [Value.ownBlock, eq_comm]
        rw [hW0]
        refine (lastbut2 W0 a F m2 (hL.chg hc0 (fun _ _ h => h)) 19 _ _ (kpU bits) _ (kj_keeper w1.heap.size (wo.heap.size + 1) w.heap.size bits F m2 W0 (fun k => k = wo.heap.size + 1 ∨ k = wo.heap.size) (by omega) (fun k hk hf => by have := hL.lt k hf; omega) hml HT.out.good HBITS.out (by omega)) ⟨hj0, by omega⟩).mono ?_
        rintro e w5 ⟨rfl, ⟨O5, ⟨⟨v5, q1, q2, q3, q4, q5⟩, q6⟩, hO5⟩, g5⟩
        have hgF : ¬ F g := fun hf => (hF g hf).2 (by simp)
        have hglt := HB.out.lt
        have hT5 : T1 w1.heap.size [g] w5 a m2 := ⟨F, (hL.chg hc0 (fun _ _ h => h)).chg g5 (fun k hk h => by have := hL.lt k hk; omega), hF⟩
        have HB5 := hid (g5.blk (hc0.blk HB.out (fun h => h)) (by omega))
        have HT5 := hid hT5
        have HP5 := hid (HP.out.mono (Nat.le_trans hc0.size g5.size))
        have HG5 := hid (HG.out.into ((hc0.weaken (S' := fun k => wo.heap.size ≤ k) (fun _ _ h => h.elim)).into g5 (fun k hk h => by omega)) (fun k hk h => by omega))
        obtain ⟨F5, hL5, hF5⟩ := id HT5.out
        obtain ⟨A5, cap5, rfl⟩ := own_slice q2
        have HQ1 := hid q1
        have HROW := hid (own_row1 q2)
        have hsl : (scanA (kpU bits) m2.reverse).length ≤ 16 := by
          obtain ⟨r, hr⟩ := scanA_take (kpU bits) m2.reverse
          have := congrArg List.length hr
          simp at this
          omega
        obtain ⟨sc, hsc⟩ : ∃ sc, sc = scanA (kpU bits) m2.reverse := ⟨_, rfl⟩
        rw [← hsc] at HQ1 HROW hsl
        have HSC := hid hsc
        obtain ⟨r, hr⟩ : ∃ r, r = scanR (kpU bits) m2.reverse := ⟨_, rfl⟩
        rw [← hr]
        have HRR := hid hr
        unfold lastV
        obtain ⟨lx, hlx⟩ : ∃ lx, lx = r.getD 0 := ⟨_, rfl⟩
        obtain ⟨lb, hlb⟩ : ∃ lb, lb = r.isSome := ⟨_, rfl⟩
        rw [← hlx, ← hlb]
        have HLX := hid hlx
        have HLB := hid hlb
        clear hlx hlb
        clear hL hF hW0 hc0 hj0 q1 q2 q3 q4 hO5 g5 hgF hT5 hL5 hF5 hsc hr HT HP HB HG
        go_wp2_with fail
        refine (keys_t1 w1.heap.size [g] _ a m2 HT5.out).mono ?_
        rintro e w6 ⟨gk, rfl, hgk, hBk, g6⟩
        have HBK := hid hBk
        have HT6 := hid (HT5.out.chg g6)
        have HP6 := hid (HP5.out.mono g6.size)
        have HB6 := hid (g6.blk HB5.out (fun h => h))
        have HQ6 := hid (g6.blk HQ1.out (fun h => h))
        have HR6 : Hid (Row w6 A5 (sc.map (Value.int .u8))) := hid (fun i u hi => by
          obtain ⟨b, off, hA, hb, hcs⟩ := HROW.out i u hi
          exact ⟨b, off, hA, Nat.lt_of_lt_of_le hb g6.size, fun j x hx => g6.cell (hcs j x hx) (fun h => h)⟩)
        have HG6 := hid (HG5.out.trans (g6.weaken (fun _ _ h => h.elim)))
        clear g6 hBk hgk HT5 HP5 HB5 HQ1 HROW HG5
        go_wp2_with fail
        go_loopw [13] (fun i wx => ∃ (t : Nat), t ≤ sc.length ∧ i = .int .i64 t ∧ Chg (fun _ => False) w6 wx) (fun i _ => sc.length - (intOf i).toNat)
        case atStart => exact ⟨0, by omega, rfl, Chg.refl _ _⟩
        case round =>
          obtain ⟨t, ht, rfl, hX⟩ := hrel
          have cq : wr.cell? ⟨wo.heap.size + 1, 0, none⟩ = some (.slice A5 sc.length cap5) := by rw [(hX.blk HQ6.out (fun h => h)).cell]; rfl
          by_cases htl : t < sc.length
          · obtain ⟨b1, off, rfl, hb1, hcs⟩ := HR6.out.at_ (k := t) (by simpa using htl)
            have hh : t < (scanA (kpU bits) m2.reverse).length := by rw [← HSC.out]; exact htl
            obtain ⟨ht1, ht2, ht3⟩ := scanA_at hh
            have e0 := hX.cell (hcs t (.int .u8 sc[t]) (by rw [List.getElem?_map, List.getElem?_eq_getElem htl]; rfl)) (fun h => h)
            have e1 : wr.cell? ⟨gk, m2.length - 1 - t, none⟩ = some (.int .u8 sc[t]) := by
              rw [(hX.blk HBK.out (fun h => h)).cell]
              have : sc[t] = m2[m2.length - 1 - t] := by rw [← ht3]; congr 1
              rw [this]
              simp [ht2]
            obtain ⟨x, hx⟩ : ∃ x, x = sc[t] := ⟨_, rfl⟩
            rw [← hx] at e0 e1
            have HX := hid hX
            clear hx hcs hh ht3 hb1 hX
            go_wp2_with fail
            go_quiet (fail)
            go_wp2_with fail
            go_roundw
            case rel => exact ⟨t + 1, by omega, by go_num, HX.out.drewN _⟩
            case measure => simp [intOf]; omega
          · have hX2 := hX
            have HT7 := hid (HT6.out.chg hX)
            have HP7 := hid (HP6.out.mono hX.size)
            have HB7 := hid (hX.blk HB6.out (fun h => h))
            have HG7 := hid (HG6.out.trans (hX.weaken (fun _ _ h => h.elim)))
            have c7 := HG7.out.blk c1.out (by show ¬ w1.heap.size ≤ w.heap.size; omega)
            have cb : wr.cell? ⟨w.heap.size, 0, none⟩ = some (.int .u16 bits) := by rw [c7.cell]; rfl
            have hsz7 := HG7.out.size
            clear hX hX2 c7 HT6 HP6 HB6 HG6 HR6 HQ6 HBK
            cases lb with
            | false =>
              have hr0 : r = none := by
                have := HLB.out
                cases r with
                | none => rfl
                | some _ => cases this
              have hall := scanR_none (HRR.out.symm.trans hr0)
              have hm2 : m2.filter (kpU bits) = m2 := List.filter_eq_self.2 (fun y hy => hall y (by simpa using hy))
              have hm3 : m2 = m.filter (kpU bits) := by rw [← HK1.out, hm2]
              have HM3 := hid hm3
              clear hr0 hall hm2 hm3 HLX HLB HRR HSC HK1 HK2
              go_wp2_with fail
              go_loopw [14, 15] (fun n i wx => ∃ (t : Nat), t ≤ m.length ∧ i = .int .i64 t ∧ n = .int .i64 (((m.take t).filter (kpU bits)).length : Nat) ∧ Chg (fun _ => False) wr wx) (fun _ i _ => m.length - (intOf i).toNat)
              case atStart => exact ⟨0, by omega, rfl, rfl, Chg.refl _ _⟩
              case round =>
                obtain ⟨t2, ht2, rfl, rfl, hX2⟩ := hrel
                have cb2 := hX2.cell cb (fun h => h)
                by_cases htl2 : t2 < m.length
                · have e1 : wr.cell? ⟨g, t2, none⟩ = some (.int .u8 m[t2]) := by
                    rw [(hX2.blk HB7.out (fun h => h)).cell]
                    simp [htl2]
                  obtain ⟨x, hx⟩ : ∃ x, x = m[t2] := ⟨_, rfl⟩
                  rw [← hx] at e1
                  have b0 := bounds_u8 (HMG.out m[t2] (List.getElem_mem htl2))
                  rw [← hx] at b0
                  have b1 := bounds_u16 HBITS.out
                  by_cases hkx : kpU bits x = true
                  · have hkb : ((bits / 2 ^ min x.toNat 16).tmod 2 == 1) = true := hkx
                    have hat := kept_at htl2 (hx ▸ hkx)
                    rw [← HM3.out, ← hx] at hat
                    have hyes := kept_yes htl2 (hx ▸ hkx)
                    obtain ⟨nn, hnn⟩ : ∃ nn, nn = ((m.take t2).filter (kpU bits)).length := ⟨_, rfl⟩
                    rw [← hnn] at hat hyes ⊢
                    have hlt2 : nn < m2.length := (List.getElem?_eq_some_iff.1 hat).1
                    have HAT := hid hat
                    have HYES := hid hyes
                    have hd : decide ((m2.length : Int) ≤ (nn : Int)) = false := decide_eq_false (by omega)
                    have hd2 : decide (m2.length ≤ nn) = false := decide_eq_false (by omega)
                    have HT8 := hid (HT7.out.chg hX2)
                    have HX2 := hid hX2
                    have HKX := hid hkx
                    clear hat hyes hnn hkx hX2 hx
                    go_wp2_with fail
                    go_quiet (fail)
                    go_upto_region 30 with fail
                    go_cut [111] (fun v wx => v = .bool false ∧ Chg (fun _ => False) wr wx)
                    case first =>
                      go_region_with (first
                        | (go_at_call 12; refine (len_t1 w1.heap.size [g] _ a m2 (by first | exact HT8.out.chg ((Chg.refl _ _).drewN _) | exact HT8.out.chg (((Chg.refl _ _).drewN _).drew))).mono ?_; rintro e w' ⟨rfl, rfl⟩)
                        | (go_at_call 11; refine (keys_t1 w1.heap.size [g] _ a m2 (by first | exact HT8.out.chg ((Chg.refl _ _).drewN _) | exact HT8.out.chg (((Chg.refl _ _).drewN _).drew))).mono ?_; rintro e w9 ⟨gk2, rfl, hgk2, hB9, g9⟩; have e9 : w9.cell? ⟨gk2, nn, none⟩ = some (.int .u8 x) := keys_cell hB9 HAT.out; have e10 : w9.cell? ⟨g, t2, none⟩ = some (.int .u8 x) := (by first | exact g9.cell (((Chg.refl (fun _ => False) _).drewN _).cell e1 (fun h => h)) (fun h => h) | exact g9.cell ((((Chg.refl (fun _ => False) _).drewN _).drew).cell e1 (fun h => h)) (fun h => h)); have G9 : Chg (fun _ => False) wr w9 := (by first | exact ((Chg.refl (fun _ => False) wr).drewN _).trans g9 | exact (((Chg.refl (fun _ => False) wr).drewN _).drew).trans g9); clear hgk2 hB9 g9))
                      all_goals (go_wp2_with fail; go_meet; exact ⟨rfl, by first | exact G9 | exact G9.drew | exact G9.drew.drew⟩)
                    case rest =>
                      obtain ⟨rfl, hc⟩ := hcut
                      have HC := hid hc
                      clear hc e1 cb2 hd hd2
                      go_wp2_with fail
                      go_roundw
                      case rel => exact ⟨t2 + 1, by omega, by go_num, by rw [HYES.out]; go_num, HX2.out.trans HC.out⟩
                      case measure => simp [intOf]; omega
                  · have hkx := (Bool.not_eq_true _).mp hkx
                    have hkb : ((bits / 2 ^ min x.toNat 16).tmod 2 == 1) = false := hkx
                    have hno := kept_no htl2 (hx ▸ hkx)
                    obtain ⟨nn, hnn⟩ : ∃ nn, nn = ((m.take t2).filter (kpU bits)).length := ⟨_, rfl⟩
                    rw [← hnn] at hno ⊢
                    have HNO := hid hno
                    have HX2 := hid hX2
                    clear hno hnn hkx hX2 hx
                    go_wp2_with fail
                    go_quiet (fail)
                    go_wp2_with fail
                    go_roundw
                    case rel => exact ⟨t2 + 1, by omega, by go_num, by rw [HNO.out], HX2.out.drewN _⟩
                    case measure => simp [intOf]; omega
                · have hte : t2 = m.length := by omega
                  rw [hte, List.take_length, ← HM3.out]
                  clear hte
                  go_wp2_with fail
                  refine (len_t1 w1.heap.size [g] _ a m2 (HT7.out.chg hX2)).mono ?_
                  rintro e w8 ⟨rfl, rfl⟩
                  go_wp2_with fail
                  go_ret
                  exact ⟨by simp, (G1.into (HG7.out.trans (hX2.weaken (fun _ _ h => h.elim))) (fun k hk h => by omega)).below (Nat.le_refl _) (fun k hk h => h)⟩
            | true =>
              have hr0 : r = some lx := by
                have h1 := HLB.out
                have h2 := HLX.out
                cases r with
                | none => cases h1
                | some _ => rw [h2]; rfl
              obtain ⟨hx1, hx2⟩ := scanR_some (HRR.out.symm.trans hr0)
              have hx3 : lx ∈ m2 := by simpa using hx1
              have hkb : ((bits / 2 ^ min lx.toNat 16).tmod 2 == 1) = false := hx2
              have b0 := bounds_u8 (HT7.out.good lx hx3)
              have b1 := bounds_u16 HBITS.out
              have HXX := hid hx2
              have HX3 := hid hx3
              clear hr0 hx1 hx2 hx3 HLX HLB HRR HSC
              go_wp2_with fail
              refine (drop_t1 w1.heap.size [g] _ a m2 lx HT7.out hsz7 HP7.out (HT7.out.good lx HX3.out)).mono ?_
              rintro e w8 ⟨rfl, t8, g8⟩
              rw [decide_eq_true HX3.out]
              have HT8 := hid t8
              have HP8 := hid (HP7.out.mono g8.size)
              have HB8 := hid (g8.blk HB7.out (fun h => h.2 (by simp)))
              have HG8 := hid (HG7.out.trans (g8.weaken (fun _ _ h => h.1)))
              have hk8 : (dropL m2 lx).length ≤ 16 := Nat.le_trans (List.length_filter_le _ _) hml
              have hk9 : ((dropL m2 lx).filter (fun y => !kpU bits y)).length + (j + 1) ≤ 16 := by
                have h1 := dropL_less HXX.out HX3.out
                have h2 := HK2.out
                omega
              have HK9 := hid hk9
              have HK10 : Hid ((dropL m2 lx).filter (kpU bits) = m.filter (kpU bits)) := hid ((dropL_kept HXX.out).trans HK1.out)
              clear t8 g8 HT7 HP7 HB7 HG7 HK1 HK2 hk9
              go_wp2_with fail
              go_roundw
              case rel => exact ⟨j + 1, dropL m2 lx, by omega, by go_num, HT8.out, HP8.out, HK10.out, HK9.out, HB8.out, hk8, HG8.out⟩
              case measure => simp [intOf]; omega
end Go.Proofs.Ythecpiigabfboaa
