/-
  An engine as it lies in memory.
-/
import Derived.Test.YtfkedhclhmbpfaaM
import Derived.Test.YtfkedhclhmbpfaaLIJ
import Derived.Test.YtfkedhclhmbpfaaLed
namespace Go.Proofs.Ytfkedhclhmbpfaa
open Go.RowKit Go.Maps
set_option linter.unusedVariables false
set_option linter.unusedSimpArgs false

/-- Where an engine's parts lie. -/
structure Lay where
  eb : Nat
  im : Nat
  cm : Nat
  bm : Nat
  wb : Nat
  lb : Nat
  ub : Nat

abbrev enc (k : Int) : Value := .int .i64 k
abbrev ok (k : Int) : Prop := (Lit.int .i64 k).wf = true
def cellCs (c : Cell) (av : Value) : Array Value := #[.int .i64 c.digest, av, .int .i64 c.at_, .int .i64 c.turned, .bool c.has, .string c.s]
def engCs (L : Lay) (rv : Value) (st : St) : Array Value :=
  #[rv, .int .i64 st.rev, .map (some L.im), .map (some L.cm), .pointer (some ⟨L.wb, 0, none⟩), .pointer (some ⟨L.lb, 0, none⟩), .pointer (some ⟨L.ub, 0, none⟩), .map (some L.bm), .bool st.cycle,
    .int .i64 (wrap64 st.steps), .int .i64 (wrap64 st.checks), .int .i64 (wrap64 st.hits)]
def inV (x : ByteArray × Int) : Value := .agg #[.string x.1, .int .i64 x.2]
def inF (f : Int → Option (ByteArray × Int)) : Int → Option Value := fun k => (f k).map inV
def cellF (f : Int → Option Cell) (loc : Int → Nat) : Int → Option Value := fun k => (f k).map fun _ => .pointer (some ⟨loc k, 0, none⟩)
def busyF (f : Int → Bool) : Int → Option Value := fun k => if f k then some (.bool true) else none

structure EngP (w : World) (L : Lay) (loc : Int → Nat) (av : Int → Value) (wF uF F : Nat → Prop) (rv : Value) (st : St) : Prop where
  eng : Blk w L.eb 69 (engCs L rv st)
  ins : ∃ n, Mp w enc ok L.im (inF st.inputs) n
  cls : Mp w enc ok L.cm (cellF st.cells loc) st.nc
  bus : ∃ n, Mp w enc ok L.bm (busyF st.busy) n
  wds : Tab w L.wb wF st.words
  led : LE.Led w L.lb st.budget st.charged st.high
  usd : LI.Lst w L.ub uF st.used
  cel : ∀ k c, st.cells k = some c → Blk w (loc k) 95 (cellCs c (av k)) ∧ w.ownsRow 0 3 1 (av k) c.asked.length (c.asked.map (Value.int .i64))
  lt : ∀ k, F k → k < w.heap.size
  inj : ∀ k k', (st.cells k).isSome = true → (st.cells k').isSome = true → loc k = loc k' → k = k'
  feb : F L.eb
  fim : F L.im
  fcm : F L.cm
  fbm : F L.bm
  flb : F L.lb
  fw : ∀ k, wF k → F k
  fu : ∀ k, uF k → F k
  floc : ∀ k, (st.cells k).isSome = true → F (loc k)
  fav : ∀ k g, (st.cells k).isSome = true → (av k).ownBlock = some g → F g
  wu : ∀ k, wF k → ¬ uF k
  aeb : ¬ wF L.eb ∧ ¬ uF L.eb
  aim : ¬ wF L.im ∧ ¬ uF L.im
  acm : ¬ wF L.cm ∧ ¬ uF L.cm
  abm : ¬ wF L.bm ∧ ¬ uF L.bm
  alb : ¬ wF L.lb ∧ ¬ uF L.lb
  aloc : ∀ k, (st.cells k).isSome = true → ¬ wF (loc k) ∧ ¬ uF (loc k)
  aav : ∀ k g, (st.cells k).isSome = true → (av k).ownBlock = some g → ¬ wF g ∧ ¬ uF g
  mic : L.im ≠ L.cm
  mib : L.im ≠ L.bm
  mcb : L.cm ≠ L.bm
  led0 : 0 ≤ st.charged
  led1 : st.charged ≤ st.budget
  led2 : st.budget ≤ 1099511627776
  led3 : 0 ≤ st.high
  led4 : st.high ≤ 1099511627776
  rev0 : 0 ≤ st.rev
  rev1 : st.rev ≤ 1000001
  ints : ∀ k x, st.inputs k = some x → x.1.size ≤ 1000000
  celt : ∀ k c, st.cells k = some c → c.s.size ≤ 1000000
  aok : ∀ k c, st.cells k = some c → ∀ d ∈ c.asked, ok d

theorem blk_ne {w : World} {a b t t' : Nat} {cs cs' : Array Value} (h : Blk w a t cs) (h' : Blk w b t' cs') (ht : t ≠ t') : a ≠ b := by
  intro e
  subst e
  unfold Blk at h h'
  rw [h] at h'
  simp at h'
  exact ht h'.2

section
variable {w w' : World} {L : Lay} {loc : Int → Nat} {av : Int → Value} {wF uF F S : Nat → Prop} {rv : Value} {st : St}

theorem EngP.e1 (h : EngP w L loc av wF uF F rv st) : w.cell? ⟨L.eb, 1, none⟩ = some (.int .i64 st.rev) := by rw [h.eng.cell]; rfl
theorem EngP.e0 (h : EngP w L loc av wF uF F rv st) : w.cell? ⟨L.eb, 0, none⟩ = some rv := by rw [h.eng.cell]; rfl
theorem EngP.e2 (h : EngP w L loc av wF uF F rv st) : w.cell? ⟨L.eb, 2, none⟩ = some (.map (some L.im)) := by rw [h.eng.cell]; rfl
theorem EngP.e3 (h : EngP w L loc av wF uF F rv st) : w.cell? ⟨L.eb, 3, none⟩ = some (.map (some L.cm)) := by rw [h.eng.cell]; rfl
theorem EngP.e4 (h : EngP w L loc av wF uF F rv st) : w.cell? ⟨L.eb, 4, none⟩ = some (.pointer (some ⟨L.wb, 0, none⟩)) := by rw [h.eng.cell]; rfl
theorem EngP.e5 (h : EngP w L loc av wF uF F rv st) : w.cell? ⟨L.eb, 5, none⟩ = some (.pointer (some ⟨L.lb, 0, none⟩)) := by rw [h.eng.cell]; rfl
theorem EngP.e6 (h : EngP w L loc av wF uF F rv st) : w.cell? ⟨L.eb, 6, none⟩ = some (.pointer (some ⟨L.ub, 0, none⟩)) := by rw [h.eng.cell]; rfl
theorem EngP.e7 (h : EngP w L loc av wF uF F rv st) : w.cell? ⟨L.eb, 7, none⟩ = some (.map (some L.bm)) := by rw [h.eng.cell]; rfl
theorem EngP.e8 (h : EngP w L loc av wF uF F rv st) : w.cell? ⟨L.eb, 8, none⟩ = some (.bool st.cycle) := by rw [h.eng.cell]; rfl
theorem EngP.e9 (h : EngP w L loc av wF uF F rv st) : w.cell? ⟨L.eb, 9, none⟩ = some (.int .i64 (wrap64 st.steps)) := by rw [h.eng.cell]; rfl
theorem EngP.e10 (h : EngP w L loc av wF uF F rv st) : w.cell? ⟨L.eb, 10, none⟩ = some (.int .i64 (wrap64 st.checks)) := by rw [h.eng.cell]; rfl
theorem EngP.e11 (h : EngP w L loc av wF uF F rv st) : w.cell? ⟨L.eb, 11, none⟩ = some (.int .i64 (wrap64 st.hits)) := by rw [h.eng.cell]; rfl
theorem EngP.f (h : EngP w L loc av wF uF F rv st) (i : Nat) : w.frozen? ⟨L.eb, i, none⟩ = false := h.eng.frozen i
theorem EngP.k0 (h : EngP w L loc av wF uF F rv st) {k : Int} {c : Cell} (hk : st.cells k = some c) : w.cell? ⟨loc k, 0, none⟩ = some (.int .i64 c.digest) := by rw [(h.cel k c hk).1.cell]; rfl
theorem EngP.k1 (h : EngP w L loc av wF uF F rv st) {k : Int} {c : Cell} (hk : st.cells k = some c) : w.cell? ⟨loc k, 1, none⟩ = some (av k) := by rw [(h.cel k c hk).1.cell]; rfl
theorem EngP.k2 (h : EngP w L loc av wF uF F rv st) {k : Int} {c : Cell} (hk : st.cells k = some c) : w.cell? ⟨loc k, 2, none⟩ = some (.int .i64 c.at_) := by rw [(h.cel k c hk).1.cell]; rfl
theorem EngP.k3 (h : EngP w L loc av wF uF F rv st) {k : Int} {c : Cell} (hk : st.cells k = some c) : w.cell? ⟨loc k, 3, none⟩ = some (.int .i64 c.turned) := by rw [(h.cel k c hk).1.cell]; rfl
theorem EngP.k4 (h : EngP w L loc av wF uF F rv st) {k : Int} {c : Cell} (hk : st.cells k = some c) : w.cell? ⟨loc k, 4, none⟩ = some (.bool c.has) := by rw [(h.cel k c hk).1.cell]; rfl
theorem EngP.k5 (h : EngP w L loc av wF uF F rv st) {k : Int} {c : Cell} (hk : st.cells k = some c) : w.cell? ⟨loc k, 5, none⟩ = some (.string c.s) := by rw [(h.cel k c hk).1.cell]; rfl
theorem EngP.kf (h : EngP w L loc av wF uF F rv st) {k : Int} {c : Cell} (hk : st.cells k = some c) (i : Nat) : w.frozen? ⟨loc k, i, none⟩ = false := (h.cel k c hk).1.frozen i
theorem EngP.eb_lb (h : EngP w L loc av wF uF F rv st) : L.eb ≠ L.lb := blk_ne h.eng h.led (by decide)
theorem EngP.eb_loc (h : EngP w L loc av wF uF F rv st) {k : Int} {c : Cell} (hk : st.cells k = some c) : L.eb ≠ loc k := blk_ne h.eng (h.cel k c hk).1 (by decide)
theorem EngP.lb_loc (h : EngP w L loc av wF uF F rv st) {k : Int} {c : Cell} (hk : st.cells k = some c) : L.lb ≠ loc k := blk_ne h.led (h.cel k c hk).1 (by decide)
theorem EngP.eb_im (h : EngP w L loc av wF uF F rv st) : L.eb ≠ L.im := by obtain ⟨n, hn⟩ := h.ins; exact blk_ne_m h.eng hn
theorem EngP.eb_cm (h : EngP w L loc av wF uF F rv st) : L.eb ≠ L.cm := blk_ne_m h.eng h.cls
theorem EngP.eb_bm (h : EngP w L loc av wF uF F rv st) : L.eb ≠ L.bm := by obtain ⟨n, hn⟩ := h.bus; exact blk_ne_m h.eng hn
theorem EngP.lb_im (h : EngP w L loc av wF uF F rv st) : L.lb ≠ L.im := by obtain ⟨n, hn⟩ := h.ins; exact blk_ne_m h.led hn
theorem EngP.lb_cm (h : EngP w L loc av wF uF F rv st) : L.lb ≠ L.cm := blk_ne_m h.led h.cls
theorem EngP.lb_bm (h : EngP w L loc av wF uF F rv st) : L.lb ≠ L.bm := by obtain ⟨n, hn⟩ := h.bus; exact blk_ne_m h.led hn
theorem EngP.loc_im (h : EngP w L loc av wF uF F rv st) {k : Int} {c : Cell} (hk : st.cells k = some c) : loc k ≠ L.im := by obtain ⟨n, hn⟩ := h.ins; exact blk_ne_m (h.cel k c hk).1 hn
theorem EngP.loc_cm (h : EngP w L loc av wF uF F rv st) {k : Int} {c : Cell} (hk : st.cells k = some c) : loc k ≠ L.cm := blk_ne_m (h.cel k c hk).1 h.cls
theorem EngP.loc_bm (h : EngP w L loc av wF uF F rv st) {k : Int} {c : Cell} (hk : st.cells k = some c) : loc k ≠ L.bm := by obtain ⟨n, hn⟩ := h.bus; exact blk_ne_m (h.cel k c hk).1 hn
theorem EngP.av_blk (h : EngP w L loc av wF uF F rv st) {k : Int} {c : Cell} (hk : st.cells k = some c) {b t : Nat} {cs : Array Value} (hb : Blk w b t cs) (ht : 3 ≠ t) : ∀ g, (av k).ownBlock = some g → g ≠ b := own_ne_b (h.cel k c hk).2 hb ht
theorem EngP.av_m (h : EngP w L loc av wF uF F rv st) {k : Int} {c : Cell} (hk : st.cells k = some c) {b n : Nat} {f : Int → Option Value} (hb : Mp w enc ok b f n) : ∀ g, (av k).ownBlock = some g → g ≠ b := own_ne_m (h.cel k c hk).2 hb

/-- A world that differs outside the engine's blocks. -/
theorem EngP.chg (h : EngP w L loc av wF uF F rv st) (hc : Chg S w w') (hs : ∀ k, F k → ¬ S k) : EngP w' L loc av wF uF F rv st :=
  { h with
    eng := hc.blk h.eng (hs _ h.feb)
    ins := by obtain ⟨n, hn⟩ := h.ins; exact ⟨n, hn.chg hc (hs _ h.fim)⟩
    cls := h.cls.chg hc (hs _ h.fcm)
    bus := by obtain ⟨n, hn⟩ := h.bus; exact ⟨n, hn.chg hc (hs _ h.fbm)⟩
    wds := h.wds.chg hc (fun k hk => hs _ (h.fw k hk))
    led := hc.blk h.led (hs _ h.flb)
    usd := h.usd.chg hc (fun k hk => hs _ (h.fu k hk))
    cel := fun k c hk => ⟨hc.blk (h.cel k c hk).1 (hs _ (h.floc k (by rw [hk]; rfl))), own_chg (h.cel k c hk).2 hc (fun g hg => hs _ (h.fav k g (by rw [hk]; rfl) hg))⟩
    lt := fun k hk => Nat.lt_of_lt_of_le (h.lt k hk) hc.size }
theorem EngP.grow (h : EngP w L loc av wF uF F rv st) {G : Nat → Prop} (hg : ∀ k, F k → G k) (hl : ∀ k, G k → k < w.heap.size) : EngP w L loc av wF uF G rv st :=
  { h with lt := hl, feb := hg _ h.feb, fim := hg _ h.fim, fcm := hg _ h.fcm, fbm := hg _ h.fbm, flb := hg _ h.flb, fw := fun k hk => hg _ (h.fw k hk), fu := fun k hk => hg _ (h.fu k hk), floc := fun k hk => hg _ (h.floc k hk), fav := fun k g hk hg' => hg _ (h.fav k g hk hg') }
theorem EngP.mono (h : EngP w L loc av wF uF F rv st) (hc : Chg (fun _ => False) w w') : EngP w' L loc av wF uF F rv st := h.chg hc (fun _ _ h => h)

/-- A store into the engine's own block. -/
theorem EngP.own (h : EngP w L loc av wF uF F rv st) (hc : Chg (fun k => k = L.eb) w w') {st' : St} (hb : Blk w' L.eb 69 (engCs L rv st')) (hi : st'.inputs = st.inputs) (hce : st'.cells = st.cells) (hn : st'.nc = st.nc) (hw : st'.words = st.words)
    (h1 : st'.budget = st.budget) (h2 : st'.charged = st.charged) (h3 : st'.high = st.high) (hu : st'.used = st.used) (hbu : st'.busy = st.busy) (hr0 : 0 ≤ st'.rev) (hr1 : st'.rev ≤ 1000001) : EngP w' L loc av wF uF F rv st' where
  eng := hb
  ins := by obtain ⟨n, hn⟩ := h.ins; rw [hi]; exact ⟨n, hn.chg hc (fun e => h.eb_im e.symm)⟩
  cls := by rw [hce, hn]; exact h.cls.chg hc (fun e => h.eb_cm e.symm)
  bus := by obtain ⟨n, hn⟩ := h.bus; rw [hbu]; exact ⟨n, hn.chg hc (fun e => h.eb_bm e.symm)⟩
  wds := by rw [hw]; exact h.wds.chg hc (fun k hk e => h.aeb.1 (e ▸ hk))
  led := by rw [h1, h2, h3]; exact hc.blk h.led (fun e => h.eb_lb e.symm)
  usd := by rw [hu]; exact h.usd.chg hc (fun k hk e => h.aeb.2 (e ▸ hk))
  cel := fun k c hk => by
    rw [hce] at hk
    exact ⟨hc.blk (h.cel k c hk).1 (fun e => h.eb_loc hk e.symm), own_chg (h.cel k c hk).2 hc (fun g hg e => h.av_blk hk h.eng (by decide) g hg e)⟩
  lt := fun k hk => Nat.lt_of_lt_of_le (h.lt k hk) hc.size
  inj := by rw [hce]; exact h.inj
  feb := h.feb
  fim := h.fim
  fcm := h.fcm
  fbm := h.fbm
  flb := h.flb
  fw := h.fw
  fu := h.fu
  floc := by rw [hce]; exact h.floc
  fav := by rw [hce]; exact h.fav
  wu := h.wu
  aeb := h.aeb
  aim := h.aim
  acm := h.acm
  abm := h.abm
  alb := h.alb
  aloc := by rw [hce]; exact h.aloc
  aav := by rw [hce]; exact h.aav
  mic := h.mic
  mib := h.mib
  mcb := h.mcb
  led0 := by rw [h2]; exact h.led0
  led1 := by rw [h1, h2]; exact h.led1
  led2 := by rw [h1]; exact h.led2
  led3 := by rw [h3]; exact h.led3
  led4 := by rw [h3]; exact h.led4
  rev0 := hr0
  rev1 := hr1
  ints := by rw [hi]; exact h.ints
  celt := by rw [hce]; exact h.celt
  aok := by rw [hce]; exact h.aok

/-- The ledger turned. -/
theorem EngP.ledger (h : EngP w L loc av wF uF F rv st) {B C H : Int} (hl : LE.After L.lb B C H w w') (h0 : 0 ≤ C) (h1 : C ≤ B) (h2 : B ≤ 1099511627776) (h3 : 0 ≤ H) (h4 : H ≤ 1099511627776) :
    EngP w' L loc av wF uF F rv { st with budget := B, charged := C, high := H } :=
  have hc := hl.2.1
  { h with
    eng := hc.blk h.eng (fun e => h.eb_lb e)
    ins := by obtain ⟨n, hn⟩ := h.ins; exact ⟨n, hn.chg hc (fun e => h.lb_im e.symm)⟩
    cls := h.cls.chg hc (fun e => h.lb_cm e.symm)
    bus := by obtain ⟨n, hn⟩ := h.bus; exact ⟨n, hn.chg hc (fun e => h.lb_bm e.symm)⟩
    wds := h.wds.chg hc (fun k hk e => h.alb.1 (e ▸ hk))
    led := hl.1
    usd := h.usd.chg hc (fun k hk e => h.alb.2 (e ▸ hk))
    cel := fun k c hk => ⟨hc.blk (h.cel k c hk).1 (fun e => h.lb_loc hk e.symm), own_chg (h.cel k c hk).2 hc (fun g hg e => h.av_blk hk h.led (by decide) g hg e)⟩
    lt := fun k hk => Nat.lt_of_lt_of_le (h.lt k hk) hc.size
    led0 := h0, led1 := h1, led2 := h2, led3 := h3, led4 := h4 }

/-- The list of uses turned. -/
theorem EngP.use (h : EngP w L loc av wF uF F rv st) {us : List Int} (hl : LI.Lst w' L.ub (LI.Ext uF w w') us) (hc : Chg uF w w') :
    EngP w' L loc av wF (LI.Ext uF w w') (LI.Ext F w w') rv { st with used := us } :=
  have far : ∀ k, F k → ¬ (w.heap.size ≤ k ∧ k < w'.heap.size) := fun k hk hh => by have := h.lt k hk; omega
  { h with
    eng := hc.blk h.eng h.aeb.2
    ins := by obtain ⟨n, hn⟩ := h.ins; exact ⟨n, hn.chg hc h.aim.2⟩
    cls := h.cls.chg hc h.acm.2
    bus := by obtain ⟨n, hn⟩ := h.bus; exact ⟨n, hn.chg hc h.abm.2⟩
    wds := h.wds.chg hc h.wu
    led := hc.blk h.led h.alb.2
    usd := hl
    cel := fun k c hk => ⟨hc.blk (h.cel k c hk).1 (h.aloc k (by rw [hk]; rfl)).2, own_chg (h.cel k c hk).2 hc (fun g hg => (h.aav k g (by rw [hk]; rfl) hg).2)⟩
    lt := fun k hk => by
      rcases hk with hk | hk
      · exact Nat.lt_of_lt_of_le (h.lt k hk) hc.size
      · exact hk.2
    feb := .inl h.feb, fim := .inl h.fim, fcm := .inl h.fcm, fbm := .inl h.fbm, flb := .inl h.flb
    fw := fun k hk => .inl (h.fw k hk)
    fu := fun k hk => hk.imp (h.fu k) id
    floc := fun k hk => .inl (h.floc k hk)
    fav := fun k g hk hg => .inl (h.fav k g hk hg)
    wu := fun k hk hu => hu.elim (h.wu k hk) (far k (h.fw k hk))
    aeb := ⟨h.aeb.1, fun hu => hu.elim h.aeb.2 (far _ h.feb)⟩
    aim := ⟨h.aim.1, fun hu => hu.elim h.aim.2 (far _ h.fim)⟩
    acm := ⟨h.acm.1, fun hu => hu.elim h.acm.2 (far _ h.fcm)⟩
    abm := ⟨h.abm.1, fun hu => hu.elim h.abm.2 (far _ h.fbm)⟩
    alb := ⟨h.alb.1, fun hu => hu.elim h.alb.2 (far _ h.flb)⟩
    aloc := fun k hk => ⟨(h.aloc k hk).1, fun hu => hu.elim (h.aloc k hk).2 (far _ (h.floc k hk))⟩
    aav := fun k g hk hg => ⟨(h.aav k g hk hg).1, fun hu => hu.elim (h.aav k g hk hg).2 (far _ (h.fav k g hk hg))⟩ }

/-- The table of words turned. -/
theorem EngP.word (h : EngP w L loc av wF uF F rv st) {l : List ByteArray} (hl : Tab w' L.wb (fun k => wF k ∨ w.heap.size ≤ k ∧ k < w'.heap.size) l) (hc : Chg wF w w') :
    EngP w' L loc av (LI.Ext wF w w') uF (LI.Ext F w w') rv { st with words := l } :=
  have far : ∀ k, F k → ¬ (w.heap.size ≤ k ∧ k < w'.heap.size) := fun k hk hh => by have := h.lt k hk; omega
  { h with
    eng := hc.blk h.eng h.aeb.1
    ins := by obtain ⟨n, hn⟩ := h.ins; exact ⟨n, hn.chg hc h.aim.1⟩
    cls := h.cls.chg hc h.acm.1
    bus := by obtain ⟨n, hn⟩ := h.bus; exact ⟨n, hn.chg hc h.abm.1⟩
    wds := hl
    led := hc.blk h.led h.alb.1
    usd := h.usd.chg hc (fun k hk hw => h.wu k hw hk)
    cel := fun k c hk => ⟨hc.blk (h.cel k c hk).1 (h.aloc k (by rw [hk]; rfl)).1, own_chg (h.cel k c hk).2 hc (fun g hg => (h.aav k g (by rw [hk]; rfl) hg).1)⟩
    lt := fun k hk => by
      rcases hk with hk | hk
      · exact Nat.lt_of_lt_of_le (h.lt k hk) hc.size
      · exact hk.2
    feb := .inl h.feb, fim := .inl h.fim, fcm := .inl h.fcm, fbm := .inl h.fbm, flb := .inl h.flb
    fw := fun k hk => hk.imp (h.fw k) id
    fu := fun k hk => .inl (h.fu k hk)
    floc := fun k hk => .inl (h.floc k hk)
    fav := fun k g hk hg => .inl (h.fav k g hk hg)
    wu := fun k hk hu => hk.elim (fun hk => h.wu k hk hu) (far k (h.fu k hu))
    aeb := ⟨fun hu => hu.elim h.aeb.1 (far _ h.feb), h.aeb.2⟩
    aim := ⟨fun hu => hu.elim h.aim.1 (far _ h.fim), h.aim.2⟩
    acm := ⟨fun hu => hu.elim h.acm.1 (far _ h.fcm), h.acm.2⟩
    abm := ⟨fun hu => hu.elim h.abm.1 (far _ h.fbm), h.abm.2⟩
    alb := ⟨fun hu => hu.elim h.alb.1 (far _ h.flb), h.alb.2⟩
    aloc := fun k hk => ⟨fun hu => hu.elim (h.aloc k hk).1 (far _ (h.floc k hk)), (h.aloc k hk).2⟩
    aav := fun k g hk hg => ⟨fun hu => hu.elim (h.aav k g hk hg).1 (far _ (h.fav k g hk hg)), (h.aav k g hk hg).2⟩ }

theorem setF_same {α : Type} (f : Int → α) (k : Int) (v : α) : setF f k v k = v := if_pos rfl
theorem setF_other {α : Type} (f : Int → α) {k x : Int} (v : α) (h : x ≠ k) : setF f k v x = f x := if_neg h
theorem setF_some {f : Int → Option Cell} {k x : Int} {c : Cell} {c0 : Cell} (hk : f k = some c0) (h : (setF f k (some c) x).isSome = true) : (f x).isSome = true := by
  by_cases e : x = k
  · rw [e, hk]; rfl
  · rwa [setF_other _ _ e] at h

/-- A cell turned: its numbers, its value. -/
theorem EngP.cell (h : EngP w L loc av wF uF F rv st) {k : Int} {c0 c : Cell} (hk : st.cells k = some c0) (hc : Chg (fun x => x = loc k) w w') (hb : Blk w' (loc k) 95 (cellCs c (av k))) (ha : c.asked = c0.asked) (hs : c.s.size ≤ 1000000) :
    EngP w' L loc av wF uF F rv (st.setCell k c) :=
  { h with
    eng := hc.blk h.eng (fun e => h.eb_loc hk e)
    ins := by obtain ⟨n, hn⟩ := h.ins; exact ⟨n, hn.chg hc (fun e => h.loc_im hk e.symm)⟩
    cls := (h.cls.chg hc (fun e => h.loc_cm hk e.symm)).congr (fun x => by
      unfold St.setCell cellF
      by_cases e : x = k
      · subst e; simp [setF_same, hk]
      · simp [setF_other _ _ e])
    bus := by obtain ⟨n, hn⟩ := h.bus; exact ⟨n, hn.chg hc (fun e => h.loc_bm hk e.symm)⟩
    wds := h.wds.chg hc (fun x hx e => (h.aloc k (by rw [hk]; rfl)).1 (e ▸ hx))
    led := hc.blk h.led (fun e => h.lb_loc hk e)
    usd := h.usd.chg hc (fun x hx e => (h.aloc k (by rw [hk]; rfl)).2 (e ▸ hx))
    cel := fun x cx hx => by
      have hx' : setF st.cells k (some c) x = some cx := hx
      by_cases e : x = k
      · subst e
        rw [setF_same] at hx'
        cases hx'
        exact ⟨hb, by rw [ha]; exact own_chg (h.cel x c0 hk).2 hc (fun g hg e => h.av_blk hk (h.cel x c0 hk).1 (by decide) g hg e)⟩
      · rw [setF_other _ _ e] at hx'
        exact ⟨hc.blk (h.cel x cx hx').1 (fun e2 => e (h.inj x k (by rw [hx']; rfl) (by rw [hk]; rfl) e2)), own_chg (h.cel x cx hx').2 hc (fun g hg e => h.av_blk hx' (h.cel k c0 hk).1 (by decide) g hg e)⟩
    lt := fun x hx => Nat.lt_of_lt_of_le (h.lt x hx) hc.size
    inj := fun x y hx hy => h.inj x y (setF_some hk hx) (setF_some hk hy)
    floc := fun x hx => h.floc x (setF_some hk hx)
    fav := fun x g hx => h.fav x g (setF_some hk hx)
    aloc := fun x hx => h.aloc x (setF_some hk hx)
    aav := fun x g hx => h.aav x g (setF_some hk hx)
    celt := fun x cx hx => by
      have hx' : setF st.cells k (some c) x = some cx := hx
      by_cases e : x = k
      · subst e
        rw [setF_same] at hx'
        cases hx'
        exact hs
      · rw [setF_other _ _ e] at hx'
        exact h.celt x cx hx'
    aok := fun x cx hx => by
      have hx' : setF st.cells k (some c) x = some cx := hx
      by_cases e : x = k
      · subst e
        rw [setF_same] at hx'
        cases hx'
        rw [ha]
        exact h.aok x c0 hk
      · rw [setF_other _ _ e] at hx'
        exact h.aok x cx hx' }

/-- A cell gets another list of keys (a row outside the engine's blocks till now). -/
theorem EngP.list (h : EngP w L loc av wF uF F rv st) {k : Int} {c0 c : Cell} (hk : st.cells k = some c0) {v : Value} (hc : Chg (fun x => x = loc k) w w') (hb : Blk w' (loc k) 95 (cellCs c v)) (ho : w.ownsRow 0 3 1 v c.asked.length (c.asked.map (Value.int .i64)))
    (hv : ∀ g, v.ownBlock = some g → ¬ F g) (hs : c.s.size ≤ 1000000) (hq : ∀ d ∈ c.asked, ok d) :
    EngP w' L loc (setF av k v) wF uF (fun x => F x ∨ v.ownBlock = some x) rv (st.setCell k c) :=
  have hav : ∀ x g, (st.cells x).isSome = true → (setF av k v x).ownBlock = some g → (F g ∨ v.ownBlock = some g) ∧ ¬ wF g ∧ ¬ uF g := fun x g hx hg => by
    by_cases e : x = k
    · subst e
      rw [setF_same] at hg
      exact ⟨.inr hg, fun hw => hv g hg (h.fw g hw), fun hw => hv g hg (h.fu g hw)⟩
    · rw [setF_other _ _ e] at hg
      exact ⟨.inl (h.fav x g hx hg), h.aav x g hx hg⟩
  { h with
    eng := hc.blk h.eng (fun e => h.eb_loc hk e)
    ins := by obtain ⟨n, hn⟩ := h.ins; exact ⟨n, hn.chg hc (fun e => h.loc_im hk e.symm)⟩
    cls := (h.cls.chg hc (fun e => h.loc_cm hk e.symm)).congr (fun x => by
      unfold St.setCell cellF
      by_cases e : x = k
      · subst e; simp [setF_same, hk]
      · simp [setF_other _ _ e])
    bus := by obtain ⟨n, hn⟩ := h.bus; exact ⟨n, hn.chg hc (fun e => h.loc_bm hk e.symm)⟩
    wds := h.wds.chg hc (fun x hx e => (h.aloc k (by rw [hk]; rfl)).1 (e ▸ hx))
    led := hc.blk h.led (fun e => h.lb_loc hk e)
    usd := h.usd.chg hc (fun x hx e => (h.aloc k (by rw [hk]; rfl)).2 (e ▸ hx))
    cel := fun x cx hx => by
      have hx' : setF st.cells k (some c) x = some cx := hx
      by_cases e : x = k
      · subst e
        rw [setF_same] at hx'
        cases hx'
        rw [setF_same]
        exact ⟨hb, own_chg ho hc (fun g hg e => own_ne_b ho (h.cel x c0 hk).1 (by decide) g hg e)⟩
      · rw [setF_other _ _ e] at hx'
        rw [setF_other _ _ e]
        exact ⟨hc.blk (h.cel x cx hx').1 (fun e2 => e (h.inj x k (by rw [hx']; rfl) (by rw [hk]; rfl) e2)), own_chg (h.cel x cx hx').2 hc (fun g hg e => h.av_blk hx' (h.cel k c0 hk).1 (by decide) g hg e)⟩
    lt := fun x hx => by
      rcases hx with hx | hx
      · exact Nat.lt_of_lt_of_le (h.lt x hx) hc.size
      · exact Nat.lt_of_lt_of_le (ho.lt x hx).2 hc.size
    inj := fun x y hx hy => h.inj x y (setF_some hk hx) (setF_some hk hy)
    feb := .inl h.feb, fim := .inl h.fim, fcm := .inl h.fcm, fbm := .inl h.fbm, flb := .inl h.flb
    fw := fun k hk => .inl (h.fw k hk)
    fu := fun k hk => .inl (h.fu k hk)
    floc := fun x hx => .inl (h.floc x (setF_some hk hx))
    fav := fun x g hx hg => (hav x g (setF_some hk hx) hg).1
    aloc := fun x hx => h.aloc x (setF_some hk hx)
    aav := fun x g hx hg => (hav x g (setF_some hk hx) hg).2
    celt := fun x cx hx => by
      have hx' : setF st.cells k (some c) x = some cx := hx
      by_cases e : x = k
      · subst e
        rw [setF_same] at hx'
        cases hx'
        exact hs
      · rw [setF_other _ _ e] at hx'
        exact h.celt x cx hx'
    aok := fun x cx hx => by
      have hx' : setF st.cells k (some c) x = some cx := hx
      by_cases e : x = k
      · subst e
        rw [setF_same] at hx'
        cases hx'
        exact hq
      · rw [setF_other _ _ e] at hx'
        exact h.aok x cx hx' }

/-- A key is under way, or no more. -/
theorem EngP.busy (h : EngP w L loc av wF uF F rv st) {f : Int → Bool} {n : Nat} (hm : Mp w' enc ok L.bm (busyF f) n) (hc : Chg (fun x => x = L.bm) w w') : EngP w' L loc av wF uF F rv { st with busy := f } :=
  { h with
    eng := hc.blk h.eng (fun e => h.eb_bm e)
    ins := by obtain ⟨n, hn⟩ := h.ins; exact ⟨n, hn.chg hc (fun e => h.mib e)⟩
    cls := h.cls.chg hc (fun e => h.mcb e)
    bus := ⟨n, hm⟩
    wds := h.wds.chg hc (fun k hk e => h.abm.1 (e ▸ hk))
    led := hc.blk h.led (fun e => h.lb_bm e)
    usd := h.usd.chg hc (fun k hk e => h.abm.2 (e ▸ hk))
    cel := fun k c hk => ⟨hc.blk (h.cel k c hk).1 (fun e => h.loc_bm hk e), own_chg (h.cel k c hk).2 hc (fun g hg e => by obtain ⟨n, hn⟩ := h.bus; exact h.av_m hk hn g hg e)⟩
    lt := fun k hk => Nat.lt_of_lt_of_le (h.lt k hk) hc.size }
/-- An input turned. -/
theorem EngP.input (h : EngP w L loc av wF uF F rv st) {f : Int → Option (ByteArray × Int)} {n : Nat} (hm : Mp w' enc ok L.im (inF f) n) (hc : Chg (fun x => x = L.im) w w') (hi : ∀ k x, f k = some x → x.1.size ≤ 1000000) : EngP w' L loc av wF uF F rv { st with inputs := f } :=
  { h with
    eng := hc.blk h.eng (fun e => h.eb_im e)
    ins := ⟨n, hm⟩
    cls := h.cls.chg hc (fun e => h.mic e.symm)
    bus := by obtain ⟨n, hn⟩ := h.bus; exact ⟨n, hn.chg hc (fun e => h.mib e.symm)⟩
    wds := h.wds.chg hc (fun k hk e => h.aim.1 (e ▸ hk))
    led := hc.blk h.led (fun e => h.lb_im e)
    usd := h.usd.chg hc (fun k hk e => h.aim.2 (e ▸ hk))
    cel := fun k c hk => ⟨hc.blk (h.cel k c hk).1 (fun e => h.loc_im hk e), own_chg (h.cel k c hk).2 hc (fun g hg e => by obtain ⟨n, hn⟩ := h.ins; exact h.av_m hk hn g hg e)⟩
    lt := fun k hk => Nat.lt_of_lt_of_le (h.lt k hk) hc.size
    ints := hi }
/-- A cell is no more. -/
theorem EngP.gone (h : EngP w L loc av wF uF F rv st) {k : Int} {n : Nat} (hm : Mp w' enc ok L.cm (cellF (setF st.cells k none) loc) n) (hc : Chg (fun x => x = L.cm) w w') : EngP w' L loc av wF uF F rv { st with cells := setF st.cells k none, nc := n } :=
  have sub : ∀ {x c}, setF st.cells k none x = some c → st.cells x = some c := fun {x c} hx => by
    by_cases e : x = k
    · subst e; rw [setF_same] at hx; cases hx
    · rwa [setF_other _ _ e] at hx
  have sub2 : ∀ {x}, (setF st.cells k none x).isSome = true → (st.cells x).isSome = true := fun {x} hx => by
    obtain ⟨c, hc⟩ := Option.isSome_iff_exists.1 hx
    rw [sub hc]; rfl
  { h with
    eng := hc.blk h.eng (fun e => h.eb_cm e)
    ins := by obtain ⟨n, hn⟩ := h.ins; exact ⟨n, hn.chg hc (fun e => h.mic e)⟩
    cls := hm
    bus := by obtain ⟨n, hn⟩ := h.bus; exact ⟨n, hn.chg hc (fun e => h.mcb e.symm)⟩
    wds := h.wds.chg hc (fun k hk e => h.acm.1 (e ▸ hk))
    led := hc.blk h.led (fun e => h.lb_cm e)
    usd := h.usd.chg hc (fun k hk e => h.acm.2 (e ▸ hk))
    cel := fun x c hx => ⟨hc.blk (h.cel x c (sub hx)).1 (fun e => h.loc_cm (sub hx) e), own_chg (h.cel x c (sub hx)).2 hc (fun g hg e => h.av_m (sub hx) h.cls g hg e)⟩
    lt := fun k hk => Nat.lt_of_lt_of_le (h.lt k hk) hc.size
    inj := fun x y hx hy => h.inj x y (sub2 hx) (sub2 hy)
    floc := fun x hx => h.floc x (sub2 hx)
    fav := fun x g hx => h.fav x g (sub2 hx)
    aloc := fun x hx => h.aloc x (sub2 hx)
    aav := fun x g hx => h.aav x g (sub2 hx)
    celt := fun x c hx => h.celt x c (sub hx)
    aok := fun x c hx => h.aok x c (sub hx) }
/-- A new cell (in a block outside the engine's till now). -/
theorem EngP.fresh (h : EngP w L loc av wF uF F rv st) {k : Int} {n b : Nat} (hk : st.cells k = none) (hb : Blk w b 95 (cellCs zeroCell (.slice none 0 0))) (hF : ¬ F b) (hm : Mp w' enc ok L.cm (cellF (setF st.cells k (some zeroCell)) (setF loc k b)) n) (hc : Chg (fun x => x = L.cm) w w') :
    EngP w' L (setF loc k b) (setF av k (.slice none 0 0)) wF uF (fun x => F x ∨ x = b) rv { st with cells := setF st.cells k (some zeroCell), nc := n } :=
  have sub : ∀ {x c}, x ≠ k → setF st.cells k (some zeroCell) x = some c → st.cells x = some c := fun {x c} e hx => by
    rwa [setF_other _ _ e] at hx
  have sub2 : ∀ {x}, x ≠ k → (setF st.cells k (some zeroCell) x).isSome = true → (st.cells x).isSome = true := fun {x} e hx => by
    rwa [setF_other _ _ e] at hx
  { h with
    eng := hc.blk h.eng (fun e => h.eb_cm e)
    ins := by obtain ⟨n, hn⟩ := h.ins; exact ⟨n, hn.chg hc (fun e => h.mic e)⟩
    cls := hm
    bus := by obtain ⟨n, hn⟩ := h.bus; exact ⟨n, hn.chg hc (fun e => h.mcb e.symm)⟩
    wds := h.wds.chg hc (fun k hk e => h.acm.1 (e ▸ hk))
    led := hc.blk h.led (fun e => h.lb_cm e)
    usd := h.usd.chg hc (fun k hk e => h.acm.2 (e ▸ hk))
    cel := fun x c hx => by
      have hx' : setF st.cells k (some zeroCell) x = some c := hx
      by_cases e : x = k
      · subst e
        rw [setF_same] at hx'
        cases hx'
        rw [setF_same, setF_same]
        exact ⟨hc.blk hb (fun e => hF (e ▸ h.fcm)), World.ownsRow_nil _ _ _ _⟩
      · rw [setF_other _ _ e, setF_other _ _ e]
        exact ⟨hc.blk (h.cel x c (sub e hx')).1 (fun e2 => h.loc_cm (sub e hx') e2), own_chg (h.cel x c (sub e hx')).2 hc (fun g hg e2 => h.av_m (sub e hx') h.cls g hg e2)⟩
    lt := fun x hx => by
      rcases hx with hx | rfl
      · exact Nat.lt_of_lt_of_le (h.lt x hx) hc.size
      · exact Nat.lt_of_lt_of_le hb.lt hc.size
    inj := fun x y hx hy e => by
      by_cases ex : x = k
      · by_cases ey : y = k
        · rw [ex, ey]
        · rw [ex, setF_same, setF_other _ _ ey] at e
          exact absurd (e ▸ h.floc y (sub2 ey hy)) hF
      · by_cases ey : y = k
        · rw [ey, setF_same, setF_other _ _ ex] at e
          exact absurd (e ▸ h.floc x (sub2 ex hx)) hF
        · rw [setF_other _ _ ex, setF_other _ _ ey] at e
          exact h.inj x y (sub2 ex hx) (sub2 ey hy) e
    feb := .inl h.feb, fim := .inl h.fim, fcm := .inl h.fcm, fbm := .inl h.fbm, flb := .inl h.flb
    fw := fun k hk => .inl (h.fw k hk)
    fu := fun k hk => .inl (h.fu k hk)
    floc := fun x hx => by
      by_cases e : x = k
      · rw [e, setF_same]; exact .inr rfl
      · rw [setF_other _ _ e]; exact .inl (h.floc x (sub2 e hx))
    fav := fun x g hx hg => by
      by_cases e : x = k
      · rw [e, setF_same] at hg; simp [Value.ownBlock] at hg
      · rw [setF_other _ _ e] at hg; exact .inl (h.fav x g (sub2 e hx) hg)
    aloc := fun x hx => by
      by_cases e : x = k
      · rw [e, setF_same]; exact ⟨fun hw => hF (h.fw _ hw), fun hw => hF (h.fu _ hw)⟩
      · rw [setF_other _ _ e]; exact h.aloc x (sub2 e hx)
    aav := fun x g hx hg => by
      by_cases e : x = k
      · rw [e, setF_same] at hg; simp [Value.ownBlock] at hg
      · rw [setF_other _ _ e] at hg; exact h.aav x g (sub2 e hx) hg
    celt := fun x c hx => by
      have hx' : setF st.cells k (some zeroCell) x = some c := hx
      by_cases e : x = k
      · subst e
        rw [setF_same] at hx'
        cases hx'
        show (0 : Nat) ≤ 1000000
        omega
      · exact h.celt x c (sub e hx')
    aok := fun x c hx => by
      have hx' : setF st.cells k (some zeroCell) x = some c := hx
      by_cases e : x = k
      · subst e
        rw [setF_same] at hx'
        cases hx'
        intro d hd
        cases hd
      · exact h.aok x c (sub e hx') }
end

/-- What an engine is made of: its cells' places; the blocks of its words, of its list of uses, and all its blocks. -/
structure Fp where
  loc : Int → Nat
  wF : Nat → Prop
  uF : Nat → Prop
  F : Nat → Prop

def EngAt (w : World) (L : Lay) (p : Fp) (rv : Value) (st : St) : Prop := ∃ av, EngP w L p.loc av p.wF p.uF p.F rv st
theorem EngAt.lt {w : World} {L : Lay} {p : Fp} {rv : Value} {st : St} (h : EngAt w L p rv st) : ∀ k, p.F k → k < w.heap.size := by
  obtain ⟨av, h⟩ := h
  exact h.lt
theorem EngAt.chg {w w' : World} {S : Nat → Prop} {L : Lay} {p : Fp} {rv : Value} {st : St} (h : EngAt w L p rv st) (hc : Chg S w w') (hs : ∀ k, p.F k → ¬ S k) : EngAt w' L p rv st := by
  obtain ⟨av, h⟩ := h
  exact ⟨av, h.chg hc hs⟩
theorem EngAt.mono {w w' : World} {L : Lay} {p : Fp} {rv : Value} {st : St} (h : EngAt w L p rv st) (hc : Chg (fun _ => False) w w') : EngAt w' L p rv st := h.chg hc (fun _ _ h => h)

/-- Rows of numbers, outside some blocks, are kept. -/
def IntRow (o : Obj) : Prop := ∃ cs fr, o = .cells cs 3 fr
def Rows (p : Fp) (w w' : World) : Prop := ∀ g o, w.heap[g]? = some o → IntRow o → ¬ p.wF g → ¬ p.uF g → w'.heap[g]? = some o
theorem rows_of {p : Fp} {S : Nat → Prop} {w w' : World} (hc : Chg S w w') (hS : ∀ g o, w.heap[g]? = some o → IntRow o → ¬ p.wF g → ¬ p.uF g → ¬ S g) : Rows p w w' :=
  fun g o hg ho h1 h2 => (hc.block g (Array.getElem?_eq_some_iff.1 hg).1 (hS g o hg ho h1 h2)).trans hg
theorem row_ne_blk {w : World} {g b t : Nat} {o : Obj} {cs : Array Value} (hg : w.heap[g]? = some o) (ho : IntRow o) (hb : Blk w b t cs) (ht : t ≠ 3) : g ≠ b := by
  rintro rfl
  obtain ⟨cs', fr, rfl⟩ := ho
  unfold Blk at hb
  rw [hg] at hb
  simp at hb
  exact ht hb.2.1.symm
theorem row_ne_m {w : World} {g b n : Nat} {o : Obj} {f : Int → Option Value} (hg : w.heap[g]? = some o) (ho : IntRow o) (hb : Mp w enc ok b f n) : g ≠ b := by
  rintro rfl
  obtain ⟨cs', fr, rfl⟩ := ho
  obtain ⟨es, clock, hb, _⟩ := hb
  rw [hg] at hb
  simp at hb

/-- What has become of an engine (st at w, made of p): it is st' at w', made of p'. -/
structure Got (L : Lay) (rv : Value) (p : Fp) (w : World) (st : St) (p' : Fp) (w' : World) (st' : St) : Prop where
  eng : EngAt w' L p' rv st'
  loc : ∀ k, (st.cells k).isSome = true → (st'.cells k).isSome = true ∧ p'.loc k = p.loc k
  blocks : ∀ k, p'.F k → p.F k ∨ w.heap.size ≤ k
  blocksW : ∀ k, p'.wF k → p.wF k ∨ w.heap.size ≤ k
  blocksU : ∀ k, p'.uF k → p.uF k ∨ w.heap.size ≤ k
  chg : Chg p.F w w'
  rows : Rows p w w'
theorem Got.refl {L : Lay} {p : Fp} {rv : Value} {w : World} {st : St} (h : EngAt w L p rv st) : Got L rv p w st p w st :=
  ⟨h, fun k hk => ⟨hk, rfl⟩, fun k hk => .inl hk, fun k hk => .inl hk, fun k hk => .inl hk, Chg.refl _ _, fun _ _ h _ _ _ => h⟩
/-- One call after another. -/
theorem Got.trans {L : Lay} {p p1 p2 : Fp} {rv : Value} {w w1 w2 : World} {st st1 st2 : St} (h1 : Got L rv p w st p1 w1 st1) (h2 : Got L rv p1 w1 st1 p2 w2 st2) : Got L rv p w st p2 w2 st2 := by
  refine ⟨h2.eng, fun k h => ?_, fun k h => ?_, fun k h => ?_, fun k h => ?_, h1.chg.into h2.chg (fun k hk h => ?_), fun g o hg ho hw hu => ?_⟩
  · obtain ⟨a, b⟩ := h1.loc k h
    obtain ⟨c, d⟩ := h2.loc k a
    exact ⟨c, d.trans b⟩
  · rcases h2.blocks k h with h | h
    · exact h1.blocks k h
    · exact .inr (Nat.le_trans h1.chg.size h)
  · rcases h2.blocksW k h with h | h
    · exact h1.blocksW k h
    · exact .inr (Nat.le_trans h1.chg.size h)
  · rcases h2.blocksU k h with h | h
    · exact h1.blocksU k h
    · exact .inr (Nat.le_trans h1.chg.size h)
  · rcases h1.blocks k h with h | h
    · exact h
    · omega
  · have hlt := (Array.getElem?_eq_some_iff.1 hg).1
    refine h2.rows g o (h1.rows g o hg ho hw hu) ho (fun h => ?_) (fun h => ?_)
    · rcases h1.blocksW g h with h | h
      · exact hw h
      · omega
    · rcases h1.blocksU g h with h | h
      · exact hu h
      · omega
theorem Got.mono {L : Lay} {p p1 : Fp} {rv : Value} {w w1 w2 : World} {st st1 : St} (h1 : Got L rv p w st p1 w1 st1) (h2 : Chg (fun _ => False) w1 w2) : Got L rv p w st p1 w2 st1 :=
  ⟨h1.eng.mono h2, h1.loc, h1.blocks, h1.blocksW, h1.blocksU, h1.chg.trans (h2.weaken (fun _ _ h => h.elim)), fun g o hg ho hw hu => by
    have := h1.rows g o hg ho hw hu
    exact (h2.block g (Array.getElem?_eq_some_iff.1 this).1 (fun h => h)).trans this⟩
/-- A change outside the engine. -/
theorem Got.out {L : Lay} {p : Fp} {rv : Value} {w w1 : World} {st : St} {S : Nat → Prop} (h : EngAt w L p rv st) (hc : Chg S w w1) (hs : ∀ k, p.F k → ¬ S k) : EngAt w1 L p rv st := h.chg hc hs
/-- What a call leaves of an engine: its blocks may have grown, its cells have kept their places. -/
def Left (L : Lay) (p : Fp) (rv : Value) (w : World) (st st' : St) (w' : World) : Prop := ∃ p', Got L rv p w st p' w' st'

section
variable {w w' : World} {L : Lay} {loc : Int → Nat} {av : Int → Value} {wF uF F S : Nat → Prop} {rv : Value} {st : St}
theorem EngP.at_ (h : EngP w L loc av wF uF F rv st) : EngAt w L ⟨loc, wF, uF, F⟩ rv st := ⟨av, h⟩
theorem EngP.gotOwn (h : EngP w L loc av wF uF F rv st) (hc : Chg (fun k => k = L.eb) w w') {st' : St} (hb : Blk w' L.eb 69 (engCs L rv st')) (hi : st'.inputs = st.inputs) (hce : st'.cells = st.cells) (hn : st'.nc = st.nc) (hw : st'.words = st.words)
    (h1 : st'.budget = st.budget) (h2 : st'.charged = st.charged) (h3 : st'.high = st.high) (hu : st'.used = st.used) (hbu : st'.busy = st.busy) (hr0 : 0 ≤ st'.rev) (hr1 : st'.rev ≤ 1000001) : Got L rv ⟨loc, wF, uF, F⟩ w st ⟨loc, wF, uF, F⟩ w' st' :=
  ⟨(h.own hc hb hi hce hn hw h1 h2 h3 hu hbu hr0 hr1).at_, fun k hk => ⟨by rw [hce]; exact hk, rfl⟩, fun k hk => .inl hk, fun k hk => .inl hk, fun k hk => .inl hk, hc.weaken (fun k _ e => e ▸ h.feb),
    rows_of hc (fun g o hg ho _ _ => row_ne_blk hg ho h.eng (by decide))⟩
theorem EngP.gotLedger (h : EngP w L loc av wF uF F rv st) {B C H : Int} (hl : LE.After L.lb B C H w w') (h0 : 0 ≤ C) (h1 : C ≤ B) (h2 : B ≤ 1099511627776) (h3 : 0 ≤ H) (h4 : H ≤ 1099511627776) :
    Got L rv ⟨loc, wF, uF, F⟩ w st ⟨loc, wF, uF, F⟩ w' { st with budget := B, charged := C, high := H } :=
  ⟨(h.ledger hl h0 h1 h2 h3 h4).at_, fun k hk => ⟨hk, rfl⟩, fun k hk => .inl hk, fun k hk => .inl hk, fun k hk => .inl hk, hl.2.1.weaken (fun k _ e => e ▸ h.flb),
    rows_of hl.2.1 (fun g o hg ho _ _ => row_ne_blk hg ho h.led (by decide))⟩
theorem EngP.gotUse (h : EngP w L loc av wF uF F rv st) {us : List Int} (hl : LI.Lst w' L.ub (LI.Ext uF w w') us) (hc : Chg uF w w') :
    Got L rv ⟨loc, wF, uF, F⟩ w st ⟨loc, wF, LI.Ext uF w w', LI.Ext F w w'⟩ w' { st with used := us } :=
  ⟨(h.use hl hc).at_, fun k hk => ⟨hk, rfl⟩, fun k hk => hk.imp id (fun h => h.1), fun k hk => .inl hk, fun k hk => hk.imp id (fun h => h.1), hc.weaken (fun k _ hk => h.fu k hk),
    rows_of hc (fun g o hg ho _ hu => hu)⟩
theorem EngP.gotWord (h : EngP w L loc av wF uF F rv st) {l : List ByteArray} (hl : Tab w' L.wb (fun k => wF k ∨ w.heap.size ≤ k ∧ k < w'.heap.size) l) (hc : Chg wF w w') :
    Got L rv ⟨loc, wF, uF, F⟩ w st ⟨loc, LI.Ext wF w w', uF, LI.Ext F w w'⟩ w' { st with words := l } :=
  ⟨(h.word hl hc).at_, fun k hk => ⟨hk, rfl⟩, fun k hk => hk.imp id (fun h => h.1), fun k hk => hk.imp id (fun h => h.1), fun k hk => .inl hk, hc.weaken (fun k _ hk => h.fw k hk),
    rows_of hc (fun g o hg ho hw _ => hw)⟩
theorem setF_isSome {f : Int → Option Cell} {k x : Int} {c : Cell} (h : (f x).isSome = true) : (setF f k (some c) x).isSome = true := by
  by_cases e : x = k
  · rw [e, setF_same]; rfl
  · rwa [setF_other _ _ e]
theorem EngP.gotCell (h : EngP w L loc av wF uF F rv st) {k : Int} {c0 c : Cell} (hk : st.cells k = some c0) (hc : Chg (fun x => x = loc k) w w') (hb : Blk w' (loc k) 95 (cellCs c (av k))) (ha : c.asked = c0.asked) (hs : c.s.size ≤ 1000000) :
    Got L rv ⟨loc, wF, uF, F⟩ w st ⟨loc, wF, uF, F⟩ w' (st.setCell k c) :=
  ⟨(h.cell hk hc hb ha hs).at_, fun x hx => ⟨setF_isSome hx, rfl⟩, fun k hk => .inl hk, fun k hk => .inl hk, fun k hk => .inl hk, hc.weaken (fun x _ e => e ▸ h.floc k (by rw [hk]; rfl)),
    rows_of hc (fun g o hg ho _ _ => row_ne_blk hg ho (h.cel k c0 hk).1 (by decide))⟩
theorem EngP.gotList (h : EngP w L loc av wF uF F rv st) {k : Int} {c0 c : Cell} (hk : st.cells k = some c0) {v : Value} (hc : Chg (fun x => x = loc k) w w') (hb : Blk w' (loc k) 95 (cellCs c v)) (ho : w.ownsRow 0 3 1 v c.asked.length (c.asked.map (Value.int .i64)))
    (hv : ∀ g, v.ownBlock = some g → ¬ F g) (hs : c.s.size ≤ 1000000) (hq : ∀ d ∈ c.asked, ok d) {w0 : World} (hg0 : ∀ g, v.ownBlock = some g → w0.heap.size ≤ g) {p0 : Fp} {st0 : St} (h0 : Got L rv p0 w0 st0 ⟨loc, wF, uF, F⟩ w st) :
    Got L rv p0 w0 st0 ⟨loc, wF, uF, fun x => F x ∨ v.ownBlock = some x⟩ w' (st.setCell k c) :=
  ⟨(h.list hk hc hb ho hv hs hq).at_, fun x hx => ⟨setF_isSome (h0.loc x hx).1, (h0.loc x hx).2⟩, fun k hk => hk.elim (h0.blocks k) (fun h => .inr (hg0 k h)), h0.blocksW, h0.blocksU,
    h0.chg.into hc (fun x hx e => by
      have := h.floc k (by rw [hk]; rfl)
      rw [← e] at this
      rcases h0.blocks x this with h | h
      · exact h
      · omega),
    fun g o hg hoo hw hu => by
      have := h0.rows g o hg hoo hw hu
      exact (hc.block g (Array.getElem?_eq_some_iff.1 this).1 (row_ne_blk this hoo (h.cel k c0 hk).1 (by decide))).trans this⟩
theorem EngP.gotBusy (h : EngP w L loc av wF uF F rv st) {f : Int → Bool} {n : Nat} (hm : Mp w' enc ok L.bm (busyF f) n) (hc : Chg (fun x => x = L.bm) w w') : Got L rv ⟨loc, wF, uF, F⟩ w st ⟨loc, wF, uF, F⟩ w' { st with busy := f } :=
  ⟨(h.busy hm hc).at_, fun k hk => ⟨hk, rfl⟩, fun k hk => .inl hk, fun k hk => .inl hk, fun k hk => .inl hk, hc.weaken (fun k _ e => e ▸ h.fbm),
    rows_of hc (fun g o hg ho _ _ => by obtain ⟨n, hn⟩ := h.bus; exact row_ne_m hg ho hn)⟩
theorem EngP.gotFresh (h : EngP w L loc av wF uF F rv st) {k : Int} {n b : Nat} (hk : st.cells k = none) (hb : Blk w b 95 (cellCs zeroCell (.slice none 0 0))) (hF : ¬ F b) (hm : Mp w' enc ok L.cm (cellF (setF st.cells k (some zeroCell)) (setF loc k b)) n) (hc : Chg (fun x => x = L.cm) w w')
    {w0 : World} (hb0 : w0.heap.size ≤ b) {p0 : Fp} {st0 : St} (h0 : Got L rv p0 w0 st0 ⟨loc, wF, uF, F⟩ w st) :
    Got L rv p0 w0 st0 ⟨setF loc k b, wF, uF, fun x => F x ∨ x = b⟩ w' { st with cells := setF st.cells k (some zeroCell), nc := n } :=
  ⟨(h.fresh hk hb hF hm hc).at_, fun x hx => ⟨setF_isSome (h0.loc x hx).1, by
      have h1 := h0.loc x hx
      have hne : x ≠ k := fun e => by rw [e] at h1; rw [hk] at h1; cases h1.1
      exact (setF_other _ _ hne).trans h1.2⟩, fun k hk => hk.elim (h0.blocks k) (fun e => .inr (e ▸ hb0)), h0.blocksW, h0.blocksU,
    h0.chg.into hc (fun x hx e => by
      have := h.fcm
      rw [← e] at this
      rcases h0.blocks x this with h | h
      · exact h
      · omega),
    fun g o hg hoo hw hu => by
      have := h0.rows g o hg hoo hw hu
      exact (hc.block g (Array.getElem?_eq_some_iff.1 this).1 (row_ne_m this hoo h.cls)).trans this⟩
end
end Go.Proofs.Ytfkedhclhmbpfaa
