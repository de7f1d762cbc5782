/- Joined: Syn, Par, PlainN. -/
import Derived.Test.YtekccolabhfopaaGreatDoorProg
import Derived.Deep.RegionHeld3
import Derived.RegionTactic
import Derived.RegionDies
import Derived.Lib.AtoiAll
import Derived.Test.YtekccolabhfopaaGreatDoorJ01
import Derived.Test.YtekccolabhfopaaGreatDoorJ03
set_option linter.unusedVariables false
set_option linter.unusedSimpArgs false
section
/- Plain functions: the parser of the language; no program in sight. -/
namespace Go.Proofs.YtekccolabhfopaaGreatDoor

/-- A syntax tree. -/
inductive Syn where
  | mk (kind : Int) (text : List UInt8) (num : Int) (pos : Int) (kids : List Syn)
def Syn.kind : Syn → Int | .mk k _ _ _ _ => k
def Syn.text : Syn → List UInt8 | .mk _ t _ _ _ => t
def Syn.num : Syn → Int | .mk _ _ n _ _ => n
def Syn.pos : Syn → Int | .mk _ _ _ p _ => p
def Syn.kids : Syn → List Syn | .mk _ _ _ _ l => l
def synNil : Syn := .mk 0 [] 0 0 []

/-- What a reader comes to: no answer (the fuel is spent), an error (place, number), or a result and the next token's index. -/
inductive Out (α : Type) where
  | none
  | err (pos : Int) (e : Nat)
  | ok (a : α) (i : Nat)
def Out.bind {α β : Type} (x : Out α) (f : α → Nat → Out β) : Out β :=
  match x with | .none => .none | .err p e => .err p e | .ok a i => f a i
def Out.map {α β : Type} (x : Out α) (f : α → β) : Out β := x.bind fun a i => .ok (f a) i

theorem Out.bind_ok (o : Out Syn) : o = o.bind fun x j => .ok x j := by cases o <;> rfl
theorem Out.bind_assoc {α β γ : Type} (o : Out α) (f : α → Nat → Out β) (g : β → Nat → Out γ) : (o.bind f).bind g = o.bind fun a i => (f a i).bind g := by cases o <;> rfl
def tkEnd : Tok := ⟨3, [], 0⟩
def tk (T : List Tok) (i : Nat) : Tok := T.getD i tkEnd
def isW (T : List Tok) (ws : List (List UInt8)) (i : Nat) : Bool := (decide ((tk T i).kind = 2) || decide ((tk T i).kind = 0)) && ws.contains (tk T i).text
def nx (T : List Tok) (i : Nat) : Nat := if i + 1 < T.length then i + 1 else i
def fail {α : Type} (T : List Tok) (e : Nat) (i : Nat) : Out α := .err (tk T i).pos e
def need (T : List Tok) (s : List UInt8) (i : Nat) : Out Tok := if isW T [s] i then .ok (tk T i) (nx T i) else fail T 4 i
section
variable (res : List UInt8 → Bool) (T : List Tok)
def name (i : Nat) : Out Syn := if (tk T i).kind ≠ 0 ∨ res (tk T i).text = true then fail T 4 i else .ok (.mk 8 (tk T i).text 0 (tk T i).pos []) (nx T i)
def number (i : Nat) : Out Syn := if (tk T i).kind ≠ 1 then fail T 4 i else .ok (.mk 9 [] (dv 0 (tk T i).text : Nat) (tk T i).pos []) (nx T i)
/-- A reader: of a level and an index. -/
abbrev Rd := Nat → Nat → Out Syn
def within (r : Rd) : Rd := fun lv i => if 128 < lv + 1 then fail T 12 i else r (lv + 1) i
def parens (r : Rd) : Rd := fun lv i => (need T [40] i).bind fun _ i => (within T r lv i).bind fun x i => (need T [41] i).bind fun _ i => .ok x i
/-- Arguments with commas between them. -/
def argsGo : List Rd → Nat → Nat → Out (List Syn)
  | [], _, i => .ok [] i
  | r :: rs, lv, i => (r lv i).bind fun x i => (argsMore rs lv i).bind fun xs i => .ok (x :: xs) i
where
  argsMore : List Rd → Nat → Nat → Out (List Syn)
  | [], _, i => .ok [] i
  | r :: rs, lv, i => (need T [44] i).bind fun _ i => (r lv i).bind fun x i => (argsMore rs lv i).bind fun xs i => .ok (x :: xs) i
def arguments (word : Tok) (rs : List Rd) : Rd := fun lv i =>
  (need T [40] i).bind fun _ i => if 128 < lv + 1 then fail T 12 i else (argsGo T rs (lv + 1) i).bind fun xs i => (need T [41] i).bind fun _ i => .ok (.mk 10 word.text 0 word.pos xs) i
def binary (op : List UInt8) (num : Int) (a b : Syn) : Syn := .mk 11 op num a.pos [a, b]
/-- Operands with operators between them: the loop. -/
def leftLoop (r : Rd) (ops : List (List UInt8)) (lv : Nat) : Nat → Syn → Nat → Out Syn
  | 0, _, _ => .none
  | g + 1, x, i => if isW T ops i then (r lv (nx T i)).bind fun y j => leftLoop r ops lv g (binary (tk T i).text 0 x y) j else .ok x i
def left (r : Rd) (ops : List (List UInt8)) : Rd := fun lv i => (r lv i).bind fun x i => leftLoop T r ops lv (T.length + 1) x i

/-- The readers by name. -/
inductive NT where
  | cond | conj | neg | sum | unit | scheme | term | factor | atom | formula | disj | meet | lit
deriving DecidableEq

def kNot : List UInt8 := [110, 111, 116]
def kOr : List UInt8 := [111, 114]
def kAnd : List UInt8 := [97, 110, 100]
def setLoop : Nat → List Syn → Nat → Out (List Syn)
  | 0, _, _ => .none
  | g + 1, xs, i => if isW T [[44]] i then (number T (nx T i)).bind fun y j => setLoop g (xs ++ [y]) j else .ok xs i
def setR (i : Nat) : Out Syn :=
  if isW T [[101, 118, 101, 114, 121, 111, 110, 101]] i then .ok (.mk 14 (tk T i).text 0 (tk T i).pos []) (nx T i)
  else (need T [123] i).bind fun _ j =>
    if isW T [[125]] j then .ok (.mk 14 [] 0 (tk T i).pos []) (nx T j)
    else (number T j).bind fun x j => (setLoop T (T.length + 1) [x] j).bind fun xs j => (need T [125] j).bind fun _ j => .ok (.mk 14 [] 0 (tk T i).pos xs) j
def notR (r : Rd) : Rd := fun lv i => (within T r lv (nx T i)).bind fun x j => .ok (.mk 12 [] 0 (tk T i).pos [x]) j

def rd : Nat → NT → Rd
  | 0, _ => fun _ _ => .none
  | f + 1, .cond => left T (rd f .conj) [kOr]
  | f + 1, .conj => left T (rd f .neg) [kAnd]
  | f + 1, .neg => fun lv i =>
    if isW T [kNot] i then notR T (rd f .neg) lv i
    else if isW T [[97, 108, 108], [115, 111, 109, 101]] i then
      (name res T (nx T i)).bind fun v j => (need T [58] j).bind fun _ j => (within T (rd f .cond) lv j).bind fun x j => .ok (.mk 13 (tk T i).text 0 (tk T i).pos [v, x]) j
    else (rd f .sum lv i).bind fun x j =>
      if isW T [[61], [33, 61], [60], [60, 61]] j then (rd f .sum lv (nx T j)).bind fun y l => .ok (binary (tk T j).text 0 x y) l
      else .ok x j
  | f + 1, .sum => left T (rd f .unit) [[43], [45]]
  | f + 1, .unit => fun lv i =>
    if (tk T i).kind = 1 then number T i
    else if isW T [[105, 110], [111, 117, 116]] i then arguments T (tk T i) [rd f .sum] lv (nx T i)
    else if isW T [[104, 101, 97, 114, 115]] i then arguments T (tk T i) [rd f .sum, rd f .sum] lv (nx T i)
    else if isW T [[99, 111, 117, 110, 116]] i then
      (name res T (nx T i)).bind fun v j => (parens T (rd f .cond) lv j).bind fun x j => .ok (.mk 13 (tk T i).text 0 (tk T i).pos [v, x]) j
    else if isW T [[40]] i then parens T (rd f .cond) lv i
    else name res T i
  | f + 1, .scheme => left T (rd f .term) [kOr]
  | f + 1, .term => left T (rd f .factor) [kAnd]
  | f + 1, .factor => fun lv i => (rd f .atom lv i).bind fun x j =>
    if isW T [[116, 104, 101, 110]] j then (number T (nx T j)).bind fun n j => (within T (rd f .factor) lv j).bind fun y j => .ok (binary [116, 104, 101, 110] n.num x y) j
    else .ok x j
  | f + 1, .atom => fun lv i =>
    if isW T [[99, 114, 97, 115, 104], [115, 101, 110, 100], [114, 101, 99, 101, 105, 118, 101], [111, 109, 105, 116], [112, 97, 114, 116, 105, 116, 105, 111, 110]] i then arguments T (tk T i) [fun _ => number T] lv (nx T i)
    else if isW T [[115, 110, 97, 112, 115, 104, 111, 116]] i then .ok (.mk 10 (tk T i).text 0 (tk T i).pos []) (nx T i)
    else if isW T [[103, 114, 97, 112, 104, 115]] i then arguments T (tk T i) [rd f .cond] lv (nx T i)
    else if isW T [[40]] i then parens T (rd f .scheme) lv i
    else name res T i
  | f + 1, .formula => fun lv i => (rd f .disj lv i).bind fun x j =>
    if isW T [[117, 110, 116, 105, 108]] j then (within T (rd f .formula) lv (nx T j)).bind fun y j => .ok (binary [117, 110, 116, 105, 108] 0 x y) j
    else .ok x j
  | f + 1, .disj => left T (rd f .meet) [kOr]
  | f + 1, .meet => left T (rd f .lit) [kAnd]
  | f + 1, .lit => fun lv i =>
    if isW T [kNot] i then notR T (rd f .lit) lv i
    else if isW T [[116, 114, 117, 101]] i then .ok (.mk 10 (tk T i).text 0 (tk T i).pos []) (nx T i)
    else if isW T [[40]] i then parens T (rd f .formula) lv i
    else if isW T [[105, 110, 112, 117, 116], [104, 101, 97, 114, 100], [100, 101, 99, 105, 100, 101, 100]] i then arguments T (tk T i) [fun _ => number T, fun _ => number T] lv (nx T i)
    else if isW T [[103, 105, 118, 101, 110], [102, 97, 117, 108, 116, 121], [97, 116]] i then arguments T (tk T i) [fun _ => number T] lv (nx T i)
    else if isW T [[75]] i then arguments T (tk T i) [fun _ => number T, rd f .formula] lv (nx T i)
    else if isW T [[69], [68], [67]] i then arguments T (tk T i) [fun _ => setR T, rd f .formula] lv (nx T i)
    else if isW T [[110, 101, 120, 116], [97, 108, 119, 97, 121, 115], [101, 118, 101, 110, 116, 117, 97, 108, 108, 121]] i then arguments T (tk T i) [rd f .formula] lv (nx T i)
    else fail T 4 i

def wS (s : String) : List UInt8 := s.toUTF8.data.toList
def part (f : Nat) (kind : Int) : Rd := fun lv i => (rd res T f .cond lv (nx T i)).bind fun x j => .ok (.mk kind [] 0 (tk T i).pos [x]) j
def optPart (f : Nat) (w : List UInt8) (kind : Int) (xs : List Syn) : Nat → Nat → Out (List Syn) := fun lv i =>
  if isW T [w] i then (part res T f kind lv i).bind fun x j => .ok (xs ++ [x]) j else .ok xs i
def declaration (f : Nat) : Rd := fun lv i =>
  (if isW T [[116, 97, 115, 107]] i then
    (name res T (nx T i)).bind fun nm j => (need T [105, 110, 112, 117, 116, 115] j).bind fun _ j => (number T j).bind fun a j => (need T [111, 117, 116, 112, 117, 116, 115] j).bind fun _ j =>
    (number T j).bind fun b j => (optPart res T f [119, 104, 101, 114, 101] 2 [b] lv j).bind fun xs j =>
    if isW T [[97, 108, 108, 111, 119]] j then (part res T f 3 lv j).bind fun y j => (optPart res T f [99, 97, 108, 109] 4 (xs ++ [y]) lv j).bind fun ys j => .ok (Syn.mk 1 nm.text a.num (tk T i).pos ys) j
    else fail T 4 j
  else if isW T [[97, 100, 118, 101, 114, 115, 97, 114, 121]] i then
    (name res T (nx T i)).bind fun nm j => (need T [61] j).bind fun _ j => (rd res T f .scheme lv j).bind fun x j => .ok (Syn.mk 5 nm.text 0 (tk T i).pos [x]) j
  else if isW T [[102, 111, 114, 109, 117, 108, 97]] i then
    (name res T (nx T i)).bind fun nm j => (need T [61] j).bind fun _ j => (rd res T f .formula lv j).bind fun x j => .ok (Syn.mk 6 nm.text 0 (tk T i).pos [x]) j
  else if isW T [[112, 114, 111, 98, 108, 101, 109]] i then
    (name res T (nx T i)).bind fun nm j => (need T [61] j).bind fun _ j => (name res T j).bind fun a j => (need T [117, 110, 100, 101, 114] j).bind fun _ j => (name res T j).bind fun b j =>
    (need T [114, 111, 117, 110, 100, 115] j).bind fun _ j => (number T j).bind fun n j => .ok (Syn.mk 7 nm.text n.num (tk T i).pos [a, b]) j
  else fail T 4 i).bind fun x j => (need T [59] j).bind fun _ j => .ok x j
def declLoop (f : Nat) (lv : Nat) : Nat → List Syn → Nat → Out (List Syn)
  | 0, _, _ => .none
  | g + 1, xs, i => if (tk T i).kind = 3 then .ok xs i else (declaration res T f lv i).bind fun x j => declLoop f lv g (xs ++ [x]) j
def program (f : Nat) : Rd := fun lv i =>
  (need T [112, 114, 111, 99, 101, 115, 115, 101, 115] i).bind fun t j => (number T j).bind fun n j => (need T [59] j).bind fun _ j =>
  (declLoop res T f lv (T.length + 1) [] j).bind fun xs j => .ok (.mk 0 [] n.num t.pos xs) j
/-- A whole text's tokens: behind the reader the end stands. -/
def whole (r : Rd) : Out Syn := (r 0 0).bind fun x i => if (tk T i).kind = 3 then .ok x i else fail T 4 i
end
end Go.Proofs.YtekccolabhfopaaGreatDoor
end
section
/- What the parser's walks say of memory: its state, syntax trees, what a reader leaves as it was. -/
set_option maxHeartbeats 1000000
set_option maxRecDepth 100000
namespace Go.Proofs.YtekccolabhfopaaGreatDoor
open Go.RowKit
/-- The tokens at the head of a block. -/
def TokAt (w : World) (g : Nat) (ts : List Tok) : Prop := g < w.heap.size ∧ ∀ k (h : k < ts.length), w.cell? ⟨g, k * 3, none⟩ = some (.int .i64 ts[k].kind) ∧ w.cell? ⟨g, k * 3 + 1, none⟩ = some (.string ⟨ts[k].text.toArray⟩) ∧ w.cell? ⟨g, k * 3 + 2, none⟩ = some (.int .i64 ts[k].pos)
/-- Everything that was there is as it was, but for block p. -/
structure Only (p : Nat) (w w' : World) : Prop where
  os : w'.os = w.os
  tape : w'.tape = w.tape
  output : w'.output = w.output
  size : w.heap.size ≤ w'.heap.size
  block : ∀ k, k < w.heap.size → k ≠ p → w'.heap[k]? = w.heap[k]?
theorem Only.refl (p : Nat) (w : World) : Only p w w := ⟨rfl, rfl, rfl, Nat.le_refl _, fun _ _ _ => rfl⟩
theorem Only.trans {p : Nat} {a b c : World} (h : Only p a b) (k : Only p b c) : Only p a c :=
  ⟨k.os.trans h.os, k.tape.trans h.tape, k.output.trans h.output, Nat.le_trans h.size k.size, fun i hi hp => (k.block i (Nat.lt_of_lt_of_le hi h.size) hp).trans (h.block i hi hp)⟩
theorem Only.of_below {p : Nat} {a b : World} (h : Below a.heap.size a b) : Only p a b := ⟨h.os, h.tape, h.output, h.size, fun k hk _ => h.block k hk⟩
theorem Only.set (p o : Nat) (w : World) (v : Value) : Only p w (w.setCell ⟨p, o, none⟩ v) := ⟨rfl, rfl, rfl, by simp [World.setCell], fun k _ hk => Below.heap_setCell _ _ _ _ hk⟩
theorem Only.alloc (p : Nat) (w : World) (o : Obj) : Only p w (w.alloc o) := Only.of_below ((Below.refl _ _).alloc (Nat.le_refl _) o)
theorem Only.drew (p n : Nat) (w : World) : Only p w (w.drewN n) := Only.of_below ((Below.refl _ _).trans ⟨rfl, rfl, rfl, Nat.le_refl _, fun _ _ => rfl⟩)
/-- A write to a block of the call's own. -/
theorem Only.own {p B o : Nat} {w w' : World} (h : Only p w w') (hB : w.heap.size ≤ B) (v : Value) : Only p w (w'.setCell ⟨B, o, none⟩ v) :=
  ⟨h.os, h.tape, h.output, by simpa [World.setCell] using h.size, fun k hk hp => by rw [Below.heap_setCell _ _ _ _ (by show k ≠ B; omega)]; exact h.block k hk hp⟩
theorem Only.below {p : Nat} {w w' : World} {B : Nat} (h : Only p w w') (hp : B ≤ p) (hB : B ≤ w.heap.size) : Below B w w' := ⟨h.os, h.tape, h.output, h.size, fun k hk => h.block k (by omega) (by omega)⟩
theorem TokAt.only {p : Nat} {w w' : World} {g : Nat} {ts : List Tok} (h : TokAt w g ts) (hb : Only p w w') (hg : g ≠ p) : TokAt w' g ts :=
  ⟨Nat.lt_of_lt_of_le h.1 hb.size, fun k hk => by
    have hc : ∀ o, w'.cell? ⟨g, o, none⟩ = w.cell? ⟨g, o, none⟩ := fun o => by simp only [World.cell?, hb.block g h.1 hg]
    rw [hc, hc, hc]; exact h.2 k hk⟩
theorem SpaceAt.block {w w' : World} (h : SpaceAt w) (hb : w'.heap[4]? = w.heap[4]?) : SpaceAt w' := by
  unfold SpaceAt Lib.TabIs World.var? at *
  rw [show Tryz.prog.globalNamed "strings.asciiSpace" = some 4 from by kernel_rfl] at *
  simp only [Option.bind_some] at *
  rw [hb]; exact h
theorem SpaceAt.lt {w : World} (h : SpaceAt w) : 4 < w.heap.size := by
  unfold SpaceAt Lib.TabIs World.var? at h
  rw [show Tryz.prog.globalNamed "strings.asciiSpace" = some 4 from by kernel_rfl] at h
  simp only [Option.bind_some] at h
  rcases Nat.lt_or_ge 4 w.heap.size with h' | h'
  · exact h'
  · simp [Array.getElem?_eq_none h'] at h
/-- Numbers among tokens are digits, and not great. -/
def NumOk (T : List Tok) : Prop := ∀ t ∈ T, t.kind = 1 → t.text ≠ [] ∧ (∀ c ∈ t.text, isDigit c.toNat = true) ∧ dv 0 t.text ≤ 1048576 ∧ t.text.length ≤ 1000000
/-- The parser's state: its block, the tokens' block, the tokens, the next one's index, the level. -/
structure PS (pb tb c : Nat) (T : List Tok) (i lv : Nat) (w : World) : Prop where
  blk : w.heap[pb]? = some (.cells #[.slice (some ⟨tb, 0, none⟩) T.length c, .int .i64 i, .int .i64 lv] 63 (0, 0))
  toks : TokAt w tb T
  ne : tb ≠ pb
  lt : i < T.length
  size : T.length ≤ 100000
  level : lv ≤ 1000
  nums : NumOk T
  space : SpaceAt w
  gne : 4 < pb
  last : (tk T (T.length - 1)).kind = 3
theorem PS.pos {pb tb c i lv : Nat} {T : List Tok} {w : World} (h : PS pb tb c T i lv w) : pb < w.heap.size := (Array.getElem?_eq_some_iff.1 h.blk).1
theorem PS.below {pb tb c i lv : Nat} {T : List Tok} {w w' : World} (h : PS pb tb c T i lv w) (hb : Below w.heap.size w w') : PS pb tb c T i lv w' :=
  ⟨by rw [hb.block _ h.pos]; exact h.blk, h.toks.only (Only.of_below (p := pb) hb) h.ne, h.ne, h.lt, h.size, h.level, h.nums, h.space.below hb, h.gne, h.last⟩
theorem PS.alloc {pb tb c i lv : Nat} {T : List Tok} {w : World} (h : PS pb tb c T i lv w) (o : Obj) : PS pb tb c T i lv (w.alloc o) := h.below ((Below.refl _ _).alloc (Nat.le_refl _) o)
theorem PS.cells {pb tb c i lv : Nat} {T : List Tok} {w : World} (h : PS pb tb c T i lv w) :
    w.cell? ⟨pb, 0, none⟩ = some (.slice (some ⟨tb, 0, none⟩) T.length c) ∧ w.cell? ⟨pb, 1, none⟩ = some (.int .i64 i) ∧ w.cell? ⟨pb, 2, none⟩ = some (.int .i64 lv) := by
  refine ⟨?_, ?_, ?_⟩ <;> (rw [World.cell?, h.blk]; rfl)
theorem PS.frozen {pb tb c i lv : Nat} {T : List Tok} {w : World} (h : PS pb tb c T i lv w) (o : Nat) : w.frozen? ⟨pb, o, none⟩ = false := Lib.frozen_of_heap h.blk o
theorem PS.tok {pb tb c i lv : Nat} {T : List Tok} {w : World} (h : PS pb tb c T i lv w) :
    w.cell? ⟨tb, i * 3, none⟩ = some (.int .i64 (tk T i).kind) ∧ w.cell? ⟨tb, i * 3 + 1, none⟩ = some (.string ⟨(tk T i).text.toArray⟩) ∧ w.cell? ⟨tb, i * 3 + 2, none⟩ = some (.int .i64 (tk T i).pos) := by
  have := h.toks.2 i h.lt
  have e : tk T i = T[i]'h.lt := by unfold tk; rw [List.getD_eq_getElem?_getD, List.getElem?_eq_getElem h.lt]; rfl
  rw [e]; exact this
theorem PS.own {pb tb c i lv : Nat} {T : List Tok} {w : World} {B o : Nat} {v : Value} (h : PS pb tb c T i lv w) (h1' : pb < B) (h2' : tb < B) : PS pb tb c T i lv (w.setCell ⟨B, o, none⟩ v) := by
  have e : ∀ k, k ≠ B → (w.setCell ⟨B, o, none⟩ v).heap[k]? = w.heap[k]? := fun k hk => Below.heap_setCell _ _ _ _ hk
  have h1 : B ≠ pb := by omega
  have h2 : B ≠ tb := by omega
  refine ⟨by rw [e _ (Ne.symm h1)]; exact h.blk, ⟨by simpa [World.setCell] using h.toks.1, fun k hk => ?_⟩, h.ne, h.lt, h.size, h.level, h.nums, h.space.block (e _ (by have := h.gne; omega)), h.gne, h.last⟩
  have hc : ∀ q, (w.setCell ⟨B, o, none⟩ v).cell? ⟨tb, q, none⟩ = w.cell? ⟨tb, q, none⟩ := fun q => by simp only [World.cell?, e tb (Ne.symm h2)]
  rw [hc, hc, hc]; exact h.toks.2 k hk
theorem PS.setP {pb tb c i lv o : Nat} {T : List Tok} {w : World} {v : Value} {i' lv' : Nat} (h : PS pb tb c T i lv w)
    (hv : (#[Value.slice (some ⟨tb, 0, none⟩) T.length c, .int .i64 i, .int .i64 lv].setIfInBounds o v) = #[.slice (some ⟨tb, 0, none⟩) T.length c, .int .i64 i', .int .i64 lv']) (hi : i' < T.length) (hl : lv' ≤ 1000) : PS pb tb c T i' lv' (w.setCell ⟨pb, o, none⟩ v) := by
  have e : ∀ k, k ≠ pb → (w.setCell ⟨pb, o, none⟩ v).heap[k]? = w.heap[k]? := fun k hk => Below.heap_setCell _ _ _ _ hk
  refine ⟨?_, ⟨by simpa [World.setCell] using h.toks.1, fun k hk => ?_⟩, h.ne, hi, h.size, hl, h.nums, h.space.block (e _ (by have := h.gne; omega)), h.gne, h.last⟩
  · rw [← hv]
    simp [World.setCell, Array.getElem?_modify, h.blk]
  · have hc : ∀ q, (w.setCell ⟨pb, o, none⟩ v).cell? ⟨tb, q, none⟩ = w.cell? ⟨tb, q, none⟩ := fun q => by simp only [World.cell?, e tb h.ne]
    rw [hc, hc, hc]; exact h.toks.2 k hk
theorem PS.drew {pb tb c i lv : Nat} {T : List Tok} {w : World} (h : PS pb tb c T i lv w) (n : Nat) : PS pb tb c T i lv (w.drewN n) := h.below ((Below.refl _ _).trans ⟨rfl, rfl, rfl, Nat.le_refl _, fun _ _ => rfl⟩)
theorem nx_lt {T : List Tok} {i : Nat} (h : i < T.length) : nx T i < T.length := by unfold nx; split <;> omega
/-- A panic of the parser's. -/
def FailChain (pos : Int) (e : Nat) : List PanicEntry := [{ v := .iface 61 (.agg #[.int .i64 pos, .int .i64 e]), recovered := false }]
theorem pfail_any (pb tb c i lv : Nat) (T : List Tok) (w : World) (e : Nat) (h : PS pb tb c T i lv w) :
    Calls Tryz.prog 42 #[.pointer (some ⟨pb, 0, none⟩), .int .i64 e] w fun r w' => r = .panicked (FailChain (tk T i).pos e) ∧ Only pb w w' := by
  obtain ⟨c0, c1, c2⟩ := h.cells
  obtain ⟨t0, t1, t2⟩ := h.tok
  have hlt := h.lt
  have hsz := h.size
  have hi0 : (0 : Int) ≤ (i : Int) := by omega
  have hi1 : (i : Int) < (T.length : Int) := by omega
  clear t0 t1
  generalize (tk T i).pos = ps at *
  replace h := Lib.hid h
  go_enter Tryz.func42, Tryz.ntmps42
  go_wp2_with fail
  go_region_dies
  all_goals exact ⟨rfl, rfl, Only.of_below ((Below.refl _ _).drew)⟩
/-- A token as a value. -/
def tokAgg (t : Tok) : Value := .agg #[.int .i64 t.kind, .string ⟨t.text.toArray⟩, .int .i64 t.pos]
theorem pnext_any (pb tb c i lv : Nat) (T : List Tok) (w : World) (h : PS pb tb c T i lv w) :
    Calls Tryz.prog 57 #[.pointer (some ⟨pb, 0, none⟩)] w fun r w' => r = .returned (tokAgg (tk T i)) ∧ (PS pb tb c T (nx T i) lv w' ∧ Only pb w w') := by
  obtain ⟨c0, c1, c2⟩ := h.cells
  obtain ⟨t0, t1, t2⟩ := h.tok
  have hlt := h.lt
  have hsz := h.size
  have hpos := h.pos
  have htb := h.toks.1
  have f1 := h.frozen 1
  have hi0 : (0 : Int) ≤ (i : Int) := by omega
  have hi1 : (i : Int) < (T.length : Int) := by omega
  generalize htk : tk T i = t at *
  obtain ⟨kd, tx, ps⟩ := t
  simp only at t0 t1 t2
  replace h := Lib.hid h
  by_cases hn : i + 1 < T.length
  · have hb : decide ((i : Int) < (T.length : Int) - 1) = true := by rw [decide_eq_true_eq]; omega
    go_enter Tryz.func57, Tryz.ntmps57
    go_wp2_with fail
    go_region
    go_wp2_with fail
    go_quiet (fail)
    go_wp2_with fail
    refine bodyPost_ret (v := .agg #[.int .i64 kd, .string ⟨tx.toArray⟩, .int .i64 ps]) (by simp [results, Tryz.results57, go_sem]) rfl ⟨rfl, ?_, ?_⟩
    · rw [show nx T i = i + 1 from if_pos hn]
      refine PS.own (PS.own (PS.own (PS.setP (((h.out.alloc _).alloc _).drew _) (i' := i + 1) (lv' := lv) (by simp) hn h.out.level) ?_ ?_) ?_ ?_) ?_ ?_ <;> omega
    · refine Only.own (Only.own (Only.own (Only.trans ((Only.alloc _ _ _).trans ((Only.alloc _ _ _).trans (Only.drew _ _ _))) (Only.set _ _ _ _)) (Nat.le_refl _) _) (Nat.le_refl _) _) (Nat.le_refl _) _
  · have hb : decide ((i : Int) < (T.length : Int) - 1) = false := by rw [decide_eq_false_iff_not]; omega
    go_enter Tryz.func57, Tryz.ntmps57
    go_wp2_with fail
    go_region
    go_wp2_with fail
    go_quiet (fail)
    go_wp2_with fail
    refine bodyPost_ret (v := .agg #[.int .i64 kd, .string ⟨tx.toArray⟩, .int .i64 ps]) (by simp [results, Tryz.results57, go_sem]) rfl ⟨rfl, ?_, ?_⟩
    · rw [show nx T i = i from if_neg hn]
      refine PS.own (PS.own (PS.own (((h.out.alloc _).alloc _).drew _) ?_ ?_) ?_ ?_) ?_ ?_ <;> omega
    · refine Only.own (Only.own (Only.own ((Only.alloc _ _ _).trans ((Only.alloc _ _ _).trans (Only.drew _ _ _))) (Nat.le_refl _) _) (Nat.le_refl _) _) (Nat.le_refl _) _
/-- Words at the head of a block. -/
def WAt (w : World) (b : Nat) (ws : List (List UInt8)) : Prop := b < w.heap.size ∧ ∀ j (h : j < ws.length), w.cell? ⟨b, j, none⟩ = some (.string ⟨ws[j].toArray⟩)
theorem WAt.below {w w' : World} {b : Nat} {ws : List (List UInt8)} (h : WAt w b ws) (hb : Below w.heap.size w w') : WAt w' b ws :=
  ⟨by have := hb.size; have := h.1; omega, fun j hj => by rw [hb.cell h.1]; exact h.2 j hj⟩
theorem contains_words (ws : List (List UInt8)) (x : List UInt8) : Lib.containsS ((ws.map fun l => (⟨l.toArray⟩ : ByteArray)).take ws.length) ⟨x.toArray⟩ = ws.contains x := by
  rw [List.take_of_length_le (by simp), Bool.eq_iff_iff, Lib.containsS_iff, List.contains_iff_mem, List.mem_map]
  constructor
  · rintro ⟨l, hl, e⟩
    have : l = x := by simpa using e
    rw [← this]; exact hl
  · intro h; exact ⟨x, h, rfl⟩
theorem pis_any (pb tb c i lv : Nat) (T : List Tok) (w : World) (wb : Nat) (ws : List (List UInt8)) (h : PS pb tb c T i lv w) (hw : WAt w wb ws) (hl : ws.length ≤ 100) :
    Calls Tryz.prog 56 #[.pointer (some ⟨pb, 0, none⟩), .slice (some ⟨wb, 0, none⟩) ws.length ws.length] w fun r w' => r = .returned (.bool (isW T ws i)) ∧ (PS pb tb c T i lv w' ∧ Only pb w w') := by
  obtain ⟨c0, c1, c2⟩ := h.cells
  obtain ⟨t0, t1, t2⟩ := h.tok
  have hlt := h.lt
  have hsz := h.size
  have hpos := h.pos
  have htb := h.toks.1
  have hi0 : (0 : Int) ≤ (i : Int) := by omega
  have hi1 : (i : Int) < (T.length : Int) := by omega
  have hr : isW T ws i = ((decide ((tk T i).kind = 2) || decide ((tk T i).kind = 0)) && ws.contains (tk T i).text) := rfl
  generalize tk T i = t at *
  obtain ⟨kd, tx, ps⟩ := t
  simp only at t0 t1 t2 hr
  have hC : ∀ W, WAt W wb ws → Calls Tryz.prog 87 #[.slice (some ⟨wb, 0, none⟩) ws.length ws.length, .string ⟨tx.toArray⟩] W fun e w' => e = .returned (.bool (ws.contains tx)) ∧ w' = W := by
    intro W hW
    have := Tryz.slices_Contains_string wb 0 ws.length ws.length (ws.map fun l => (⟨l.toArray⟩ : ByteArray)) ⟨tx.toArray⟩ W (by simp) (by omega) (fun j hj => by
      have hj' : j < ws.length := by simpa using hj
      rw [Nat.zero_add, hW.2 j hj']
      simp [List.getD, hj'])
    rw [contains_words] at this
    exact this
  replace h := Lib.hid h
  replace hw := Lib.hid hw
  generalize ws.contains tx = cb at *
  replace hC := Lib.hid hC
  have hfin : PS pb tb c T i lv ((w.alloc (.cells #[.int .i64 kd, .string ⟨tx.toArray⟩, .int .i64 ps] 38)).drew) := (h.out.alloc _).drew 1
  have hfo : Only pb w ((w.alloc (.cells #[.int .i64 kd, .string ⟨tx.toArray⟩, .int .i64 ps] 38)).drew) := (Only.alloc _ _ _).trans (Only.drew _ 1 _)
  have hfw : WAt ((w.alloc (.cells #[.int .i64 kd, .string ⟨tx.toArray⟩, .int .i64 ps] 38)).drew) wb ws := hw.out.below (((Below.refl _ _).alloc (Nat.le_refl _) _).trans ((Below.refl _ _).drew))
  replace hfin := Lib.hid hfin
  replace hfo := Lib.hid hfo
  replace hfw := Lib.hid hfw
  by_cases h2 : kd = 2
  · have b2 : (kd == 2) = true := by rw [beq_iff_eq]; exact h2
    rw [decide_eq_true h2, Bool.true_or, Bool.true_and] at hr
    replace hr := Lib.hid hr
    replace h2 := Lib.hid h2
    go_enter Tryz.func56, Tryz.ntmps56
    go_wp2_with fail
    go_region
    go_wp2_with fail
    (with_reducible refine (hC.out _ hfw.out).mono ?_); rintro e w1 ⟨rfl, rfl⟩
    go_wp2_with fail
    go_ret
    exact ⟨ret_b hr.out.symm, hfin.out, hfo.out⟩
  · have b2 : (kd == 2) = false := by rw [beq_eq_false_iff_ne]; exact h2
    rw [decide_eq_false h2, Bool.false_or] at hr
    replace h2 := Lib.hid h2
    by_cases h0 : kd = 0
    · have b0 : (kd == 0) = true := by rw [beq_iff_eq]; exact h0
      rw [decide_eq_true h0, Bool.true_and] at hr
      replace hr := Lib.hid hr
      replace h0 := Lib.hid h0
      go_enter Tryz.func56, Tryz.ntmps56
      go_wp2_with fail
      go_region
      go_wp2_with fail
      (with_reducible refine (hC.out _ hfw.out).mono ?_); rintro e w1 ⟨rfl, rfl⟩
      go_wp2_with fail
      go_ret
      exact ⟨ret_b hr.out.symm, hfin.out, hfo.out⟩
    · have b0 : (kd == 0) = false := by rw [beq_eq_false_iff_ne]; exact h0
      rw [decide_eq_false h0, Bool.false_and] at hr
      replace hr := Lib.hid hr
      replace h0 := Lib.hid h0
      go_enter Tryz.func56, Tryz.ntmps56
      go_wp2_with fail
      go_region
      go_wp2_with fail
      go_ret
      exact ⟨ret_b hr.out.symm, hfin.out, hfo.out⟩
end Go.Proofs.YtekccolabhfopaaGreatDoor
end
section
/- Plain facts: the value of a number token. -/
namespace Go.Proofs.YtekccolabhfopaaGreatDoor
theorem parse_dv (l : List UInt8) (hd : ∀ c ∈ l, isDigit c.toNat = true) : ∀ acc, dv acc l ≤ 1048576 → Lib.parseUint10 acc l = .ok (dv acc l) := by
  induction l with
  | nil => intro acc _; rfl
  | cons c r ih =>
    intro acc h
    have hc := hd c (by simp)
    simp only [isDigit, Bool.and_eq_true, decide_eq_true_eq] at hc
    rw [dv_cons] at h
    have h1 := dv_ge r (10 * acc + (c.toNat - 48))
    have h2 : 0 < 10 ^ r.length := Nat.pow_pos (by omega)
    have h3 : 10 * acc + (c.toNat - 48) ≤ (10 * acc + (c.toNat - 48)) * 10 ^ r.length := Nat.le_mul_of_pos_right _ h2
    rw [Lib.parseUint10, if_pos (by omega), if_neg (by omega), if_neg (by omega), Nat.mul_comm acc 10, ih (fun c h => hd c (by simp [h])) _ h, dv_cons]
theorem atoiAll_dv {l : List UInt8} (h0 : l ≠ []) (hd : ∀ c ∈ l, isDigit c.toNat = true) (h : dv 0 l ≤ 1048576) : Lib.atoiAll l = .ok ((dv 0 l : Nat) : Int) := by
  match l, h0 with
  | c :: r, _ =>
    have hc := hd c (by simp)
    simp only [isDigit, Bool.and_eq_true, decide_eq_true_eq] at hc
    have hp : Lib.parseMag (c :: r) = .ok (dv 0 (c :: r)) := by
      unfold Lib.parseMag
      rw [if_neg (by simp)]
      exact parse_dv _ hd 0 h
    have h43 : ¬ (c.toNat = 43 ∨ c.toNat = 45) := by omega
    have h45 : ¬ c.toNat = 45 := by omega
    simp only [Lib.atoiAll, if_neg h43, hp]
    rw [if_neg (by omega), if_neg (by omega), if_neg h45]
end Go.Proofs.YtekccolabhfopaaGreatDoor
end
