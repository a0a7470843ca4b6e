/-
  The engine's under.
-/
import Derived.Test.YtfkedhclhmbpfaaKeep
namespace Go.Proofs.Ytfkedhclhmbpfaa
open Go.RowKit Go.Maps
set_option linter.unusedVariables false
set_option linter.unusedSimpArgs false

theorem look_busy {w : World} {L : Lay} {loc : Int → Nat} {av : Int → Value} {wF uF F : Nat → Prop} {rv : Value} {st : St} (h : EngP w L loc av wF uF F rv st) {k : Int} (hk : ok k) :
    (Instr.lookup 65 (.map (some L.bm)) (enc k) false).run Try.prog w = .ok (.bool (st.busy k)) w := by
  obtain ⟨n, hn⟩ := h.bus
  have := hn.look keyK Try.underlying65 (zeroB w) false hk
  cases hb : st.busy k <;> simpa [busyF, hb] using this

theorem under_busy (w : World) (L : Lay) (p : Fp) (rv : Value) (st : St) (k : Int) (fv : Value) (h : EngAt w L p rv st) (hk : ok k) (hb : st.busy k = true) :
    Calls Try.prog 34 #[En L, enc k, fv] w fun e w' => e = .returned (.tuple #[]) ∧ Got L rv p w st p w' { st with cycle := true } ∧ Chg (fun x => x = L.eb) w w' := by
  obtain ⟨loc, wF, uF, F⟩ := p
  obtain ⟨av, h⟩ := h
  dsimp only at h
  have e7 := h.e7
  have hl := look_busy h hk
  rw [hb] at hl
  have e8 := h.e8
  have f8 := h.f 8
  have HH := hid h
  clear h hk hb
  go_enter Try.func34, Try.ntmps34
  go_wp2_with fail
  have hS : Chg (fun x => x = L.eb) w (w.setCell ⟨L.eb, 8, none⟩ (.bool true)) := (Chg.refl (fun x => x = L.eb) w).setCell (p := ⟨L.eb, 8, none⟩) rfl _
  have h1 := HH.out.gotOwn (st' := { st with cycle := true }) hS (HH.out.eng.set_ 8 (.bool true)) rfl rfl rfl rfl rfl rfl rfl rfl rfl HH.out.rev0 HH.out.rev1
  exact bodyPost_ret (results_none rfl _ _ _) rfl ⟨rfl, h1, hS⟩

set_option maxHeartbeats 1000000 in
theorem under_free (w : World) (L : Lay) (p : Fp) (rv : Value) (st st2 : St) (k : Int) (gf : Nat) (cap : Array Value) (P : World → Prop) (p0 : Fp) (w0 : World) (st0 : St) (h0 : Got L rv p0 w0 st0 p w st) (hk : ok k) (hb : st.busy k = false)
    (heg : ∀ (args : Array Value) (w : World), (callFunc gf args).run Try.prog w = .ok (.enter gf args) w)
    (hbody : ∀ w1, Got L rv p0 w0 st0 p w1 { st with busy := setF st.busy k true } → Chg p.F w w1 → Calls Try.prog gf cap w1 fun e w2 => e = .returned (.tuple #[]) ∧ ∃ p2, Got L rv p0 w0 st0 p2 w2 st2 ∧ P w2)
    (hP : ∀ w2 w3, P w2 → Chg (fun x => x = L.bm) w2 w3 → P w3) :
    Calls Try.prog 34 #[En L, enc k, .func (.func gf) #[] cap] w fun e w' => e = .returned (.tuple #[]) ∧ ∃ p2, Got L rv p0 w0 st0 p2 w' { st2 with busy := setF st2.busy k false } ∧ P w' := by
  have HZ := hid h0
  have h := h0.eng
  clear h0
  obtain ⟨loc, wF, uF, F⟩ := p
  obtain ⟨av, h⟩ := h
  dsimp only at h
  have e7 := h.e7
  have hl := look_busy h hk
  rw [hb] at hl
  obtain ⟨n, hn⟩ := h.bus
  obtain ⟨w1, hst, hm1, hc1, hz1⟩ := hn.store keyK Try.underlying65 hk (.bool true)
  have h1 : Got L rv ⟨loc, wF, uF, F⟩ w st ⟨loc, wF, uF, F⟩ w1 { st with busy := setF st.busy k true } := h.gotBusy (hm1.congr (fun x => by
    unfold busyF putF setF
    by_cases e : x = k <;> simp [e])) hc1
  have HH := hid h
  have HC1 := hid hc1
  have H1 := hid h1
  have HB := hid hbody
  have HPP := hid hP
  have HK := hid hk
  clear h hk hb hn hm1 hc1 hz1 h1 hbody hP
  go_enter Try.func34, Try.ntmps34
  go_wp2_with fail
  refine (HB.out w1 (HZ.out.trans H1.out) (HC1.out.weaken (fun x _ e => e ▸ HH.out.fbm))).mono ?_
  rintro e w2 ⟨rfl, ⟨loc2, wF2, uF2, F2⟩, g2, p2⟩
  obtain ⟨av2, h2⟩ := g2.eng
  dsimp only at h2
  have e7' := h2.e7
  obtain ⟨n2, hn2⟩ := h2.bus
  obtain ⟨w3, hdel, hm3, hc3, hz3⟩ := hn2.del keyK Try.underlying65 HK.out
  have hd := fun ty => hdel 3 ty
  have h3 : Got L rv ⟨loc2, wF2, uF2, F2⟩ w2 st2 ⟨loc2, wF2, uF2, F2⟩ w3 { st2 with busy := setF st2.busy k false } := h2.gotBusy (hm3.congr (fun x => by
    unfold busyF delF setF
    by_cases e : x = k <;> simp [e])) hc3
  have H2 := hid h2
  have H3 := hid h3
  have HC3 := hid hc3
  have G2 := hid g2
  have P2 := hid p2
  clear h2 hn2 hdel hm3 hc3 hz3 h3 g2 p2 e7 hst hl heg
  go_wp2_with fail
  exact bodyPost_end (results_none rfl _ _ _) rfl ⟨rfl, _, G2.out.trans H3.out, HPP.out w2 w3 P2.out HC3.out⟩
end Go.Proofs.Ytfkedhclhmbpfaa
