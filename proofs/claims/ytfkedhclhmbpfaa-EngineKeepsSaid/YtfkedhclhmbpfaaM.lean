/-
  What the engine computes, as functions on states (plain Lean, no program in sight).
-/
import Derived.Test.YtfkedhclhmbpfaaTab
import Derived.Test.YtfkedhclhmbpfaaRing
namespace Go.Proofs.Ytfkedhclhmbpfaa
set_option linter.unusedVariables false

/-- A rule, as the document's lists have it. -/
structure Rule where
  kind : Int
  l : List Int

/-- What is kept of a key. -/
structure Cell where
  digest : Int
  asked : List Int
  at_ : Int
  turned : Int
  has : Bool
  s : ByteArray

/-- An engine's state. Counts are unbounded here (the memory holds them wrapped). -/
structure St where
  rev : Int
  inputs : Int → Option (ByteArray × Int)
  cells : Int → Option Cell
  nc : Nat
  words : List ByteArray
  budget : Int
  charged : Int
  high : Int
  used : List Int
  busy : Int → Bool
  cycle : Bool
  steps : Int
  checks : Int
  hits : Int

def noBytes : ByteArray := ⟨#[]⟩
def zeroCell : Cell := ⟨0, [], 0, 0, false, noBytes⟩
def setF {α : Type} (f : Int → α) (k : Int) (v : α) : Int → α := fun x => if x = k then v else f x

/-- byte(n). -/
def byteOf (n : Int) : UInt8 := UInt8.ofNat (n % 256).toNat
/-- A number as a text. -/
def valueF : Nat → Int → ByteArray
  | 0, n => ⟨#[byteOf (48 + n)]⟩
  | f + 1, n => if 9 < n then valueF f (n / 10) ++ ⟨#[byteOf (48 + n % 10)]⟩ else ⟨#[byteOf (48 + n)]⟩
def valueM (n : Int) : ByteArray := valueF 20 n
/-- A text of digits as a number. -/
def numberL : List UInt8 → Int → Int
  | [], n => n
  | b :: r, n => numberL r ((10 * n + (b.toNat : Int) - 48).tmod 1000)
def numberM (s : ByteArray) : Int := numberL s.data.toList 0

section
variable {σ : Type}
/-- A rule's text, from its i-th key on; 'ask' may turn a state. -/
def textGo (kind : Int) (ask : σ → Int → Option (σ × ByteArray)) : List Int → Nat → Int → σ → Option (σ × ByteArray)
  | [], i, sum, st => some (st, valueM (sum.tmod 1000))
  | d :: r, i, sum, st =>
    if kind = 1 ∧ (2 < i ∨ (0 < i ∧ (i : Int) ≠ 1 + sum.tmod 2)) then textGo kind ask r (i + 1) sum st
    else match ask st d with
      | none => none
      | some (st1, t) =>
        if kind = 1 ∧ i = 0 then textGo kind ask r (i + 1) (numberM t) st1
        else if kind = 2 then some (st1, valueM ((numberM t).tmod 2))
        else if kind = 1 then some (st1, valueM ((sum + numberM t).tmod 1000))
        else textGo kind ask r (i + 1) ((sum + numberM t).tmod 1000) st1
def textM (rs : List Rule) (ask : σ → Int → Option (σ × ByteArray)) (st : σ) (k : Int) : Option (σ × ByteArray) :=
  if k < 0 then some (st, ⟨#[48]⟩)
  else match rs[k.toNat]? with
    | none => some (st, ⟨#[48]⟩)
    | some r => textGo r.kind ask r.l 0 k st
end

def cost (s : ByteArray) : Int := 1 + s.size
def St.setCell (st : St) (k : Int) (c : Cell) : St := { st with cells := setF st.cells k (some c) }

/-- A key's value is dropped. -/
def dropM (st : St) (k : Int) : Option St :=
  if k ∈ st.used then
    match st.cells k with
    | none => none
    | some c => if cost c.s ≤ st.charged then some { st with used := dropL st.used k, charged := st.charged - cost c.s, cells := setF st.cells k (some { c with has := false, s := noBytes }) } else none
  else some st
/-- Room is made: is there? -/
def roomM : Nat → St → Int → Option (St × Bool)
  | 0, _, _ => none
  | f + 1, st, n =>
    if n ≤ st.budget - st.charged then some (st, true)
    else match st.used.getLast? with
      | none => some (st, false)
      | some l => match dropM st l with
        | none => none
        | some st1 => roomM f st1 n
def useM (st : St) (k : Int) : Option St := if st.used.length ≤ 90000 then some { st with used := useL st.used k } else none
/-- A value is kept, where there is room. -/
def keptM (st : St) (room : Bool) (k : Int) (s : ByteArray) : Option St :=
  if room = true then
    match st.cells k with
    | none => none
    | some c => useM { st with charged := st.charged + cost s, high := max st.high (st.charged + cost s), cells := setF st.cells k (some { c with has := true, s := s }) } k
  else some st
/-- A value is kept, if there is room. -/
def keepM (st : St) (k : Int) (s : ByteArray) : Option St :=
  match dropM st k with
  | none => none
  | some st1 => match roomM (st1.used.length + 1) st1 (cost s) with
    | none => none
    | some x => keptM x.1 x.2 k s
/-- A text's number. -/
def wordM (st : St) (s : ByteArray) : Option (St × Int) :=
  if s.size ≤ 1000000 ∧ st.words.length ≤ 100000 then
    match pos st.words s with
    | some i => some (st, (i : Int) + 1)
    | none => some ({ st with words := st.words ++ [s] }, (st.words.length : Int) + 1)
  else none

/-- What a rule's closure does: it notes the key, and asks. -/
def noteM (ask : St → Int → Option (St × ByteArray)) (x : St × List Int) (d : Int) : Option ((St × List Int) × ByteArray) :=
  match ask x.1 d with
  | none => none
  | some (st1, t) => some ((st1, if d ∈ x.2 then x.2 else x.2 ++ [d]), t)
/-- A step is counted, and the key has a cell. -/
def freshM (st : St) (k : Int) : St :=
  { st with steps := st.steps + 1, cells := setF st.cells k (some ((st.cells k).getD zeroCell)), nc := if (st.cells k).isSome then st.nc else st.nc + 1 }
/-- What is written of a key's rule. -/
def wroteM (st : St) (k : Int) (asked : List Int) (s : ByteArray) : Option St :=
  match wordM (freshM st k) s with
  | none => none
  | some (st1, d) =>
    let c := (st1.cells k).getD zeroCell
    keepM (st1.setCell k { c with digest := d, turned := if d = c.digest then c.turned else st1.rev, asked := asked, at_ := st1.rev }) k s
/-- A key's rule. -/
def stepM (rs : List Rule) (ask : St → Int → Option (St × ByteArray)) (st : St) (k : Int) : Option (St × ByteArray) :=
  match textM rs (noteM ask) (st, []) k with
  | none => none
  | some ((st1, asked), s) =>
    if st1.cycle = true then some (st1, noBytes)
    else match wroteM st1 k asked s with
      | none => none
      | some st2 => some (st2, s)
/-- Is a cell (k's), checked, from its keys l on? -/
def rightGo (turned : St → Int → Option (St × Int)) (k : Int) : List Int → St → Option (St × Bool)
  | [], st => match st.cells k with
    | none => none
    | some c => some (st.setCell k { c with at_ := st.rev }, true)
  | d :: r, st => match turned st d with
    | none => none
    | some (st1, t) =>
      if st1.cycle = true then some (st1, false)
      else match st1.cells k with
        | none => none
        | some c => if c.at_ < t then some (st1, false) else rightGo turned k r st1
def rightM (turned : St → Int → Option (St × Int)) (k : Int) (st : St) : Option (St × Bool) :=
  match st.cells k with
  | none => none
  | some c => rightGo turned k c.asked { st with checks := st.checks + 1 }

/-- Something is done while a key is under way. -/
def underM {α : Type} (st : St) (k : Int) (no : α) (body : St → Option (St × α)) : Option (St × α) :=
  if st.busy k = true then some ({ st with cycle := true }, no)
  else match body { st with busy := setF st.busy k true } with
    | none => none
    | some (st1, a) => some ({ st1 with busy := setF st1.busy k false }, a)

/-- What 'turned' does under way. -/
def turnedIn (step : St → Int → Option (St × ByteArray)) (turned : St → Int → Option (St × Int)) (k : Int) (st : St) : Option (St × Unit) :=
  match st.cells k with
  | none => if st.cycle = true then some (st, ()) else (step st k).map fun x => (x.1, ())
  | some c =>
    if c.at_ = st.rev then some (st, ())
    else match rightM turned k st with
      | none => none
      | some (st1, true) => some (st1, ())
      | some (st1, false) => if st1.cycle = true then some (st1, ()) else (step st1 k).map fun x => (x.1, ())
/-- What 'ask' does under way, where the cell isn't right. -/
def missIn (step : St → Int → Option (St × ByteArray)) (k : Int) (st : St) : Option (St × ByteArray) :=
  if st.cycle = true then some (st, noBytes) else step st k
/-- What 'ask' does under way, where the cell is right. -/
def foundIn (step : St → Int → Option (St × ByteArray)) (k : Int) (st : St) : Option (St × ByteArray) :=
  match st.cells k with
  | none => none
  | some c => if c.has = true then (useM st k).map fun st1 => (st1, c.s) else missIn step k st
/-- What 'ask' does under way. -/
def askIn (step : St → Int → Option (St × ByteArray)) (turned : St → Int → Option (St × Int)) (k : Int) (st : St) : Option (St × ByteArray) :=
  match st.cells k with
  | none => missIn step k st
  | some c =>
    if c.at_ = st.rev then foundIn step k st
    else match rightM turned k st with
      | none => none
      | some (st1, true) => foundIn step k st1
      | some (st1, false) => missIn step k st1

/-- Is a key's text there as it is? -/
def hitM (st : St) (k : Int) : Bool :=
  match st.cells k with
  | none => false
  | some c => decide (c.at_ = st.rev) && c.has && !st.busy k

mutual
/-- When a key's text turned, made right first. -/
def turnedM (rs : List Rule) : Nat → St → Int → Option (St × Int)
  | 0, _, _ => none
  | n + 1, st, k =>
    match st.inputs k with
    | some x => some (st, x.2)
    | none => match underM st k () (turnedIn (stepM rs (askM rs n)) (turnedM rs n) k) with
      | none => none
      | some (st1, _) => some (st1, match st1.cells k with | none => 0 | some c => c.turned)
/-- A key's text. -/
def askM (rs : List Rule) : Nat → St → Int → Option (St × ByteArray)
  | 0, _, _ => none
  | n + 1, st, k =>
    match st.inputs k with
    | some x => some (st, x.1)
    | none =>
      if st.cycle = true then some (st, noBytes)
      else if hitM st k = true then (useM { st with hits := st.hits + 1 } k).map fun st1 => (st1, ((st.cells k).getD zeroCell).s)
      else underM st k noBytes (askIn (stepM rs (askM rs n)) (turnedM rs n) k)
end

/-- Ask: a key's text, and the error. -/
def askTop (rs : List Rule) (n : Nat) (st : St) (k : Int) : Option (St × ByteArray × Int) :=
  match askM rs n { st with cycle := false } k with
  | none => none
  | some (st1, s) => some (if st1.cycle = true then (st1, noBytes, 8) else (st1, s, 0))
/-- Set. -/
def setM (st : St) (k : Int) (s : ByteArray) : Option St :=
  if (st.inputs k).map (fun x => x.1) = some s then some st
  else match dropM st k with
    | none => none
    | some st1 => if st1.rev ≤ 1000000 then some { st1 with cells := setF st1.cells k none, nc := if (st1.cells k).isSome then st1.nc - 1 else st1.nc, rev := st1.rev + 1, inputs := setF st1.inputs k (some (s, st1.rev + 1)) } else none
/-- Budget (n is one). -/
def budgetGo : Nat → St → Int → Option St
  | 0, _, _ => none
  | f + 1, st, n =>
    if st.charged ≤ n then some { st with budget := n }
    else match st.used.getLast? with
      | none => none
      | some l => match dropM st l with
        | none => none
        | some st1 => budgetGo f st1 n
def budgetM (st : St) (n : Int) : Option St := budgetGo (st.used.length + 1) st n
/-- Forget. -/
def forgetGo : List Int → St → Option St
  | [], st => some st
  | k :: r, st => match dropM st k with
    | none => none
    | some st1 => forgetGo r st1
def forgetM (st : St) : Option St := forgetGo st.used st
/-- New. -/
def newM (budget : Int) : St := ⟨0, fun _ => none, fun _ => none, 0, [], budget, 0, 0, [], fun _ => false, false, 0, 0, 0⟩
end Go.Proofs.Ytfkedhclhmbpfaa
