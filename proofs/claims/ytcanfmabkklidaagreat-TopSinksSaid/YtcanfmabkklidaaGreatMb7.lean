/- What the engine does, in plain Lean: no program, no memory. -/
import Derived.Test.YtcanfmabkklidaaGreatMb5
import Derived.Test.YtcanfmabkklidaaGreatMb6
import Derived.StillTailTactics
import Derived.Deep.QuietTactic
import Derived.BigQuiet
set_option linter.unusedSimpArgs false
set_option linter.unusedVariables false
set_option linter.unnecessarySimpa false
namespace Go.Proofs.YtcanfmabkklidaaGreat
open Go.RowKit

def orI (a b : Int) : Int := bits BinOp.or IntKind.u64 (bits BinOp.or IntKind.u64 0 a) b
def ofI (n : Nat) : Int := bits BinOp.or IntKind.u64 0 ((2 ^ n : Nat) : Int)
def hasI (m : Int) (n : Nat) : Bool := bits BinOp.and IntKind.u64 m ((2 ^ n : Nat) : Int) != 0
def belowI (a b : Int) : Bool := bits BinOp.andNot IntKind.u64 a b == 0
/-- an aggregate with a set beside it: a pot, a pane -/
@[ext] structure PotV where
  count : Int
  kind : Int
  value : Int
  who : Int
deriving DecidableEq
def PotV.cs (x : PotV) : List Value := [.int .i64 x.count, .int .i64 x.kind, .int .i64 x.value, .int .u64 x.who]
instance : Inhabited PotV := ⟨⟨0, 0, 0, 0⟩⟩
def aggVal (count kind value v : Int) : Int :=
  if kind = 1 then wrap64 (value + 1) else if kind = 2 then wrap64 (value + v)
  else if kind = 3 then (if count = 0 ∨ v < value then v else value) else if kind = 4 then (if count = 0 ∨ value < v then v else value) else value
def PotV.add (p : PotV) (v : Int) : PotV := ⟨wrap64 (p.count + 1), p.kind, aggVal p.count p.kind p.value v, p.who⟩
@[ext] structure ClkV where
  mark : Int
  late : Int
  seen : Int
deriving DecidableEq
def ClkV.on (c : ClkV) (t : Int) : ClkV × Bool :=
  if t < 0 ∨ 1099511627776 < t then (c, false) else if t < c.mark then (⟨c.mark, wrap64 (c.late + 1), wrap64 (c.seen + 1)⟩, false) else (⟨c.mark, c.late, wrap64 (c.seen + 1)⟩, true)
def ClkV.advance (c : ClkV) (t : Int) : ClkV × Bool := if t ≤ c.mark ∨ 1099512676352 < t then (c, false) else (⟨t, c.late, c.seen⟩, true)
@[ext] structure EvV where
  time : Int
  key : Int
  value : Int
  label : Int
deriving DecidableEq
def EvV.cs (x : EvV) : List Value := [.int .i64 x.time, .int .i64 x.key, .int .i64 x.value, .int .u64 x.label]
def applyO (o : OpV) (e : EvV) : Option EvV :=
  if o.kind = 1 then some { e with value := wrap64 (e.value + o.n) }
  else if o.kind = 2 then some { e with value := wrap64 (e.value * o.n) }
  else if o.kind = 3 then some { e with key := if e.value.tmod o.n < 0 then e.value.tmod o.n + o.n else e.value.tmod o.n }
  else if o.kind = 4 then (if o.n < e.value then some e else none)
  else if o.kind = 5 then (if e.value < o.n then some e else none)
  else if e.key = o.n then some e else none
def runO (e : EvV) : List OpV → Option EvV
  | [] => some e
  | o :: l => match applyO o e with
    | some x => runO x l
    | none => none
def startAt (t slide : Int) (k : Nat) : Int := t - t % slide - (k : Int) * slide
/-- the windows that a time is in, from the k-th one before the last on -/
def startsI (t size slide : Int) : Nat → List Int
  | 0 => []
  | k + 1 => (if 0 ≤ startAt t slide k ∧ t - size < startAt t slide k then [startAt t slide k] else []) ++ startsI t size slide k
abbrev PaneL := List ((Int × Int) × PotV)
def pGet : PaneL → Int × Int → Option PotV
  | [], _ => none
  | y :: l, k => if y.1 = k then some y.2 else pGet l k
def pSet : PaneL → Int × Int → PotV → PaneL
  | [], k, x => [(k, x)]
  | y :: l, k, x => if y.1 = k then (k, x) :: l else y :: pSet l k x
def pDel : PaneL → Int × Int → PaneL
  | [], _ => []
  | y :: l, k => if y.1 = k then l else y :: pDel l k
def put1 (kind : Int) (e : EvV) (l : PaneL) (s : Int) : PaneL :=
  let x := (pGet l (s, e.key)).getD ⟨0, kind, 0, 0⟩
  pSet l (s, e.key) { x.add e.value with who := orI x.who e.label }
def leP (a b : Int × Int) : Bool := decide (a.1 < b.1 ∨ (a.1 = b.1 ∧ a.2 ≤ b.2))
def placesL (l : PaneL) : List (Int × Int) := (l.map (·.1)).mergeSort leP
def rowOf (k : Int × Int) (x : PotV) : RowV := ⟨k.1, k.2, x.value, x.count, x.who⟩
/-- closing: over the places, in their order -/
def closeL (size mark : Int) : List (Int × Int) → PaneL → List RowV × PaneL
  | [], l => ([], l)
  | k :: ks, l => if mark < wrap64 (k.1 + size) then closeL size mark ks l else
      let r := closeL size mark ks (pDel l k)
      (rowOf k ((pGet l k).getD ⟨0, 0, 0, 0⟩) :: r.1, r.2)
@[ext] structure PipM where
  ol : List OpV
  size : Int
  slide : Int
  agg : Int
  sink : Int
  feed : Int
deriving DecidableEq
def PipeV.m (p : PipeV) : PipM := ⟨p.ol, p.size, p.slide, p.agg, p.sink, p.feed⟩
structure RunV where
  clk : ClkV
  pipe : PipM
  opn : PaneL
deriving DecidableEq
def mostI (size slide : Int) : Nat := ((size + slide - 1).tdiv slide).toNat
def putL (p : PipM) (e : EvV) (l : PaneL) : PaneL := (startsI e.time p.size p.slide (mostI p.size p.slide)).foldl (put1 p.agg e) l
def RunV.new (p : PipM) : RunV := ⟨⟨0, 0, 0⟩, p, []⟩
def RunV.event (r : RunV) (e : EvV) : RunV :=
  if (r.clk.on e.time).2 then match runO e r.pipe.ol with
    | some x => ⟨(r.clk.on e.time).1, r.pipe, putL r.pipe x r.opn⟩
    | none => ⟨(r.clk.on e.time).1, r.pipe, r.opn⟩
  else ⟨(r.clk.on e.time).1, r.pipe, r.opn⟩
def InpV.ev (i : InpV) : EvV := ⟨i.time, i.key, i.value, i.label⟩
def RunV.take1 (r : RunV) (i : InpV) : RunV × List RowV :=
  if i.mark then
    if (r.clk.advance i.time).2 then (⟨(r.clk.advance i.time).1, r.pipe, (closeL r.pipe.size i.time (placesL r.opn) r.opn).2⟩, (closeL r.pipe.size i.time (placesL r.opn) r.opn).1) else (r, [])
  else (r.event i.ev, [])
def RunV.take (r : RunV) : List InpV → RunV × List RowV
  | [] => (r, [])
  | i :: l => (((r.take1 i).1.take l).1, (r.take1 i).2 ++ ((r.take1 i).1.take l).2)
deriving instance DecidableEq for InpV
structure CellV where
  left : Int
  spent : Int
  refused : Int
  queue : List InpV
  run : RunV
  id : Nat
  rows : List RowV
  taken : List InpV
def CellV.new (id : Nat) (quota : Int) (p : PipM) : CellV := ⟨quota, 0, 0, [], RunV.new p, id, [], []⟩
/-- the own form of an input, and whether it may be -/
def ownI (id : Nat) (i : InpV) : InpV := if i.mark then ⟨true, i.time, 0, 0, 0⟩ else ⟨false, i.time, i.key, i.value, ((2 ^ id : Nat) : Int)⟩
def ownOk (id : Nat) (i : InpV) : Bool := if i.mark then decide (1 ≤ i.time ∧ i.time ≤ 1099512676352) else decide (evR i.time i.key i.value ((2 ^ id : Nat) : Int))
def CellV.refuse (c : CellV) : CellV := { c with refused := wrap64 (c.refused + 1) }
def CellV.offer (c : CellV) (room : Int) (i : InpV) : CellV × Int :=
  if ownOk c.id i = false then (c.refuse, 1)
  else if c.left = 0 then (c.refuse, 4)
  else if room < (c.queue.length : Int) + 1 then (c.refuse, 3)
  else ({ c with queue := c.queue ++ [ownI c.id i], left := c.left - 1, spent := c.spent + 1 }, 0)
def CellV.feed (c : CellV) (e : EvV) : CellV := if evR e.time e.key e.value e.label then { c with queue := c.queue ++ [⟨false, e.time, e.key, e.value, e.label⟩] } else c
def popN (n : Int) (k : Nat) : Nat := (max 0 (min n (k : Int))).toNat
def CellV.serve (c : CellV) (n : Int) : CellV × List RowV :=
  let k := popN n c.queue.length
  let r := c.run.take (c.queue.take k)
  ({ c with queue := c.queue.drop k, taken := c.taken ++ c.queue.take k, run := r.1, rows := c.rows ++ r.2 }, r.2)
/-- a piece of a list, from a number on -/
def cutOk {α : Type} (l : List α) (frm : Int) : Bool := decide (0 ≤ frm ∧ frm ≤ (l.length : Int))
def cutL {α : Type} (l : List α) (frm n : Int) : List α := if cutOk l frm then (l.drop frm.toNat).take (max 0 (min (min n 32) ((l.length : Int) - frm))).toNat else []
def cutE {α : Type} (l : List α) (frm : Int) : Int := if cutOk l frm then 0 else 5
@[ext] structure SinkV where
  frm : Int
  tos : Int
  least : Int
  agg : Int
  ticks : Int
deriving DecidableEq
def SinkV.cs (x : SinkV) : List Value := [.int .u64 x.frm, .int .u64 x.tos, .int .i64 x.least, .int .i64 x.agg, .int .i64 x.ticks]
instance : Inhabited SinkV := ⟨⟨0, 0, 0, 0, 0⟩⟩
def PotV.new (s : SinkV) : PotV := ⟨0, s.agg, 0, 0⟩
def PotV.give1 (s : SinkV) (t : Nat) (p : PotV) (r : RowV) : PotV := if hasI s.frm t && belowI r.label s.frm then { p.add r.value with who := orI p.who (ofI t) } else p
def PotV.give (p : PotV) (s : SinkV) (t : Nat) (rows : List RowV) : PotV := rows.foldl (PotV.give1 s t) p
/-- how many are in a set, as the library reckons it -/
def onesI (x : Int) : Int :=
  let a := IntKind.wrap .u64 (bits BinOp.and .u64 (x / 2) 6148914691236517205 + bits BinOp.and .u64 x 6148914691236517205)
  let b := IntKind.wrap .u64 (bits BinOp.and .u64 (a / 4) 3689348814741910323 + bits BinOp.and .u64 a 3689348814741910323)
  let c := bits BinOp.and .u64 (IntKind.wrap .u64 (b / 16 + b)) 1085102592571150095
  let d := IntKind.wrap .u64 (c + c / 256)
  let e := IntKind.wrap .u64 (d + d / 65536)
  let f := IntKind.wrap .u64 (e + e / 4294967296)
  bits BinOp.and .i64 (wrap64 f) 127
def PotV.tell (p : PotV) (s : SinkV) (id epoch : Int) : RelV := if onesI p.who < s.least then ⟨id, epoch, 0, true⟩ else ⟨id, epoch, p.value, false⟩
def epochOk (s : SinkV) (tick : Int) : Bool := decide (1 ≤ tick ∧ 1 ≤ s.ticks ∧ tick % s.ticks = 0)
def epochI (s : SinkV) (tick : Int) : Int := tick / s.ticks - 1
structure CoreV where
  budget : Int
  room : Int
  quota : Int
  sinks : List SinkV
  cells : Nat → Option CellV
  pots : List PotV
  board : Nat → List RelV
  ticks : Nat
def CoreV.new (budget room quota : Int) (sinks : List SinkV) : CoreV := ⟨budget, room, quota, sinks, fun _ => none, sinks.map PotV.new, fun _ => [], 0⟩
def CoreV.setCell (c : CoreV) (t : Nat) (x : CellV) : CoreV := { c with cells := fun u => if u = t then some x else c.cells u }
def waitingOf (c : CoreV) (t : Nat) : Int := match c.cells t with | some x => (x.queue.length : Int) | none => 0
/-- whose turn is the i-th at a tick -/
def turnI (ticks i : Nat) : Nat := (ticks % 8 + i) % 8
def CoreV.serve1 (w0 : Nat → Int) (c : CoreV) (i : Nat) : CoreV :=
  let t := turnI c.ticks i
  match c.cells t with
  | none => c
  | some x =>
    let r := x.serve (max 0 (min c.budget (w0 t)))
    let d := c.setCell t r.1
    if x.run.pipe.sink = -1 then d else { d with pots := d.pots.set x.run.pipe.sink.toNat ((d.pots.getD x.run.pipe.sink.toNat default).give (d.sinks.getD x.run.pipe.sink.toNat default) t r.2) }
def CoreV.serve (c : CoreV) : CoreV := (List.range 8).foldl (CoreV.serve1 (waitingOf c)) c
def feed1 (s : SinkV) (r : RelV) (t : Nat) (x : CellV) : CellV := if hasI s.tos t && decide (x.run.pipe.feed = r.sink) then x.feed ⟨x.run.clk.mark, r.sink, r.value, s.frm⟩ else x
def CoreV.feed (c : CoreV) (s : SinkV) (r : RelV) : CoreV := { c with cells := fun t => if t < 8 then (c.cells t).map (feed1 s r t) else c.cells t }
def CoreV.tell1 (c : CoreV) (i : Nat) : CoreV :=
  let s := c.sinks.getD i default
  if epochOk s c.ticks then
    let r := (c.pots.getD i default).tell s i (epochI s c.ticks)
    let d := { c with pots := c.pots.set i (PotV.new s), board := fun t => if t < 8 ∧ hasI s.tos t = true then c.board t ++ [r] else c.board t }
    if r.hidden then d else d.feed s r
  else c
def CoreV.tick (c : CoreV) : CoreV := (List.range c.sinks.length).foldl CoreV.tell1 { c.serve with ticks := c.ticks + 1 }
def inI (t : Nat) (at_ : Int) (l : List SinkV) (f : SinkV → Int) : Bool := at_ == -1 || (decide (0 ≤ at_ ∧ at_ < (l.length : Int)) && hasI (f (l.getD at_.toNat default)) t)
def CoreV.mayI (c : CoreV) (t : Nat) (p : PipM) : Bool := inI t p.sink c.sinks SinkV.frm && inI t p.feed c.sinks SinkV.tos
def CoreV.register (c : CoreV) (t : Nat) (p : PipM) : CoreV × Int :=
  match c.cells t with
  | some _ => (c, 6)
  | none => if c.mayI t p then (c.setCell t (CellV.new t c.quota p), 0) else (c, 1)
structure AnsM where
  err : Int
  rows : List RowV
  told : List RelV
deriving DecidableEq
structure ActM where
  kind : Int
  tenant : Nat
  frm : Int
  n : Int
  pipe : PipM
  inp : InpV
def CoreV.act (c : CoreV) (a : ActM) : CoreV × AnsM :=
  if a.kind = 1 then ((c.register a.tenant a.pipe).1, ⟨(c.register a.tenant a.pipe).2, [], []⟩)
  else if a.kind = 3 then (c.tick, ⟨0, [], []⟩)
  else if a.kind = 5 then (c, ⟨cutE (c.board a.tenant) a.frm, [], cutL (c.board a.tenant) a.frm a.n⟩)
  else match c.cells a.tenant with
    | none => (c, ⟨2, [], []⟩)
    | some x => if a.kind = 2 then (c.setCell a.tenant (x.offer c.room a.inp).1, ⟨(x.offer c.room a.inp).2, [], []⟩)
      else (c, ⟨cutE x.rows a.frm, cutL x.rows a.frm a.n, []⟩)
def CoreV.acts (c : CoreV) : List ActM → CoreV × List AnsM
  | [] => (c, [])
  | a :: l => (((c.act a).1.acts l).1, (c.act a).2 :: ((c.act a).1.acts l).2)
def ActV.m (a : ActV) : ActM := ⟨a.kind, a.tenant.toNat, a.frm, a.n, a.pipe.m, ⟨a.mark, a.time, a.key, a.value, a.label⟩⟩
end Go.Proofs.YtcanfmabkklidaaGreat
set_option linter.unusedSimpArgs false
set_option linter.unusedVariables false
set_option linter.unnecessarySimpa false
namespace Go.Proofs.YtcanfmabkklidaaGreat
open Go.RowKit

theorem below_any (a b : Int) (w : World) : Calls Tryz.prog 72 #[.int .u64 a, .int .u64 b] w fun e w' => e = .returned (.bool (belowI a b)) ∧ w' = w := by
  go_enter Tryz.func72, Tryz.ntmps72
  go_wp2
  go_ret
  exact ⟨rfl, rfl⟩
theorem ones_any (x : Int) (w : World) : Calls Tryz.prog 74 #[.int .u64 x] w fun e w' => e = .returned (.int .i64 (onesI x)) ∧ w' = w := by
  go_enter Tryz.func74, Tryz.ntmps74
  go_wp2
  go_ret
  exact ⟨rfl, rfl⟩
theorem count_any (x : Int) (w : World) : Calls Tryz.prog 53 #[.int .u64 x] w fun e w' => e = .returned (.int .i64 (onesI x)) ∧ w' = w := by
  go_enter Tryz.func53, Tryz.ntmps53
  go_wp2_with (go_at_call 74; (with_reducible refine (ones_any x _).mono ?_); rintro e w1 ⟨rfl, rfl⟩)
  go_ret
  exact ⟨rfl, rfl⟩
theorem refuse_any (b : Nat) (n : Int) (w : World) (h : w.cell? ⟨b, 2, none⟩ = some (.int .i64 n)) (hf : w.frozen? ⟨b, 2, none⟩ = false) :
    Calls Tryz.prog 110 #[.pointer (some ⟨b, 0, none⟩)] w fun e w' => (∃ v, e = .returned v) ∧ w' = w.setCell ⟨b, 2, none⟩ (.int .i64 (wrap64 (n + 1))) := by
  go_enter Tryz.func110, Tryz.ntmps110
  go_wp2
  go_end0
  exact ⟨⟨_, rfl⟩, rfl⟩
theorem left_any (a b c : Int) (w : World) : Calls Tryz.prog 85 #[.agg #[.int .i64 a, .int .i64 b, .int .i64 c]] w fun e w' => e = .returned (.int .i64 a) ∧ Below w.heap.size w w' := by
  have HW := Lib.hid (fun (x : Obj) => ((Below.refl _ w).alloc (Nat.le_refl _) x : Below w.heap.size w (w.alloc x)))
  go_enter Tryz.func85, Tryz.ntmps85
  go_wp2
  go_ret
  exact ⟨rfl, HW.out _⟩
theorem mark_any (a b c : Int) (w : World) : Calls Tryz.prog 67 #[.agg #[.int .i64 a, .int .i64 b, .int .i64 c]] w fun e w' => e = .returned (.int .i64 a) ∧ Below w.heap.size w w' := by
  have HW := Lib.hid (fun (x : Obj) => ((Below.refl _ w).alloc (Nat.le_refl _) x : Below w.heap.size w (w.alloc x)))
  go_enter Tryz.func67, Tryz.ntmps67
  go_wp2
  go_ret
  exact ⟨rfl, HW.out _⟩
theorem tick_any (b o : Nat) (n m : Int) (w : World) (h : w.cell? ⟨b, o, none⟩ = some (.int .i64 n)) (hf : w.frozen? ⟨b, o, none⟩ = false) :
    Calls Tryz.prog 100 #[.pointer (some ⟨b, o, none⟩), .int .i64 m] w fun e w' => (∃ v, e = .returned v) ∧ w' = w.setCell ⟨b, o, none⟩ (.int .i64 (wrap64 (n + m))) := by
  go_enter Tryz.func100, Tryz.ntmps100
  go_wp2
  go_end0
  exact ⟨⟨_, rfl⟩, rfl⟩
/-- an aggregate in block b at o: its count, its value set anew -/
def setA (xs : List Value) (o : Nat) (c v : Int) : List Value := (xs.set (o + 2) (.int .i64 v)).set o (.int .i64 c)
structure AddTo (w : World) (b : Nat) (xs : List Value) (o : Nat) (c v : Int) (e : Ending) (w' : World) : Prop where
  e : ∃ u, e = .returned u
  at_ : At w' b (setA xs o c v)
  mod : Mod [b] w w'
theorem setA_same {xs : List Value} {o : Nat} {c v : Int} (h : xs[o + 2]? = some (.int .i64 v)) : setA xs o c v = xs.set o (.int .i64 c) := by
  unfold setA
  congr 1
  apply List.ext_getElem?
  intro i
  rw [List.getElem?_set]
  split
  · rename_i e
    subst e
    rw [h]
    have := (List.getElem?_eq_some_iff.1 h).1
    simp [this]
  · rfl
theorem take_any (b o : Nat) (xs : List Value) (c k v x : Int) (w : World) (h : At w b xs) (h0 : xs[o]? = some (.int .i64 c)) (h1 : xs[o + 1]? = some (.int .i64 k)) (h2 : xs[o + 2]? = some (.int .i64 v))
    (hk1 : 1 ≤ k) (hk2 : k ≤ 4) : Calls Tryz.prog 73 #[.pointer (some ⟨b, o, none⟩), .int .i64 x, .int .i64 1] w (AddTo w b xs o (wrap64 (c + 1)) (aggVal c k v x)) := by
  have c0 := h.c o _ h0
  have c1 := h.c (o + 1) _ h1
  have c2 := h.c (o + 2) _ h2
  have f0 := h.f o
  have f2 := h.f (o + 2)
  have l2 := (List.getElem?_eq_some_iff.1 h2).1
  have l0 := (List.getElem?_eq_some_iff.1 h0).1
  have HT := Lib.hid (fun (z : Int) => ((h.set (o + 2) (.int .i64 z) l2).set o (.int .i64 (wrap64 (c + 1))) (by simp; omega) : At _ b (setA xs o (wrap64 (c + 1)) z)))
  have HN := Lib.hid (show At (w.setCell ⟨b, o, none⟩ (.int .i64 (wrap64 (c + 1)))) b (setA xs o (wrap64 (c + 1)) v) from by rw [setA_same h2]; exact h.set o _ l0)
  have HM := Lib.hid (fun (z : Int) => ((Mod.setCell w b (o + 2) (.int .i64 z)).set b o (.int .i64 (wrap64 (c + 1))) (.inl (by simp))))
  have HMN := Lib.hid (Mod.setCell w b o (.int .i64 (wrap64 (c + 1))))
  clear h h0 h1 h2 l2 l0
  rcases (by omega : k = 1 ∨ k = 2 ∨ k = 3 ∨ k = 4) with rfl | rfl | rfl | rfl
  · rw [show aggVal c 1 v x = wrap64 (v + 1) by simp [aggVal]]
    go_enter Tryz.func73, Tryz.ntmps73
    go_wp2_with (go_at_call 100; (with_reducible refine (tick_any _ _ c 1 _ (by go_simp) (by go_simp)).mono ?_); rintro e w1 ⟨⟨u, rfl⟩, rfl⟩)
    go_end0
    exact ⟨⟨_, rfl⟩, HT.out _, HM.out _⟩
  · rw [show aggVal c 2 v x = wrap64 (v + x) by simp [aggVal]]
    go_enter Tryz.func73, Tryz.ntmps73
    go_wp2_with (go_at_call 100; (with_reducible refine (tick_any _ _ c 1 _ (by go_simp) (by go_simp)).mono ?_); rintro e w1 ⟨⟨u, rfl⟩, rfl⟩)
    go_end0
    exact ⟨⟨_, rfl⟩, HT.out _, HM.out _⟩
  · by_cases hc : c = 0
    · subst hc
      rw [show aggVal 0 3 v x = x by simp [aggVal]]
      go_enter Tryz.func73, Tryz.ntmps73
      go_wp2_with (go_at_call 100; (with_reducible refine (tick_any _ _ 0 1 _ (by go_simp) (by go_simp)).mono ?_); rintro e w1 ⟨⟨u, rfl⟩, rfl⟩)
      go_end0
      exact ⟨⟨_, rfl⟩, HT.out _, HM.out _⟩
    · have hc' : (c == 0) = false := by simp [hc]
      by_cases hx : x < v
      · rw [show aggVal c 3 v x = x by simp [aggVal, hx]]
        clear hc
        go_enter Tryz.func73, Tryz.ntmps73
        go_wp2_with (go_at_call 100; (with_reducible refine (tick_any _ _ c 1 _ (by go_simp) (by go_simp)).mono ?_); rintro e w1 ⟨⟨u, rfl⟩, rfl⟩)
        go_end0
        exact ⟨⟨_, rfl⟩, HT.out _, HM.out _⟩
      · rw [show aggVal c 3 v x = v by simp [aggVal, hx, hc]]
        clear hc
        go_enter Tryz.func73, Tryz.ntmps73
        go_wp2_with (go_at_call 100; (with_reducible refine (tick_any _ _ c 1 _ (by go_simp) (by go_simp)).mono ?_); rintro e w1 ⟨⟨u, rfl⟩, rfl⟩)
        go_end0
        exact ⟨⟨_, rfl⟩, HN.out, HMN.out⟩
  · by_cases hc : c = 0
    · subst hc
      rw [show aggVal 0 4 v x = x by simp [aggVal]]
      go_enter Tryz.func73, Tryz.ntmps73
      go_wp2_with (go_at_call 100; (with_reducible refine (tick_any _ _ 0 1 _ (by go_simp) (by go_simp)).mono ?_); rintro e w1 ⟨⟨u, rfl⟩, rfl⟩)
      go_end0
      exact ⟨⟨_, rfl⟩, HT.out _, HM.out _⟩
    · have hc' : (c == 0) = false := by simp [hc]
      by_cases hx : v < x
      · rw [show aggVal c 4 v x = x by simp [aggVal, hx]]
        clear hc
        go_enter Tryz.func73, Tryz.ntmps73
        go_wp2_with (go_at_call 100; (with_reducible refine (tick_any _ _ c 1 _ (by go_simp) (by go_simp)).mono ?_); rintro e w1 ⟨⟨u, rfl⟩, rfl⟩)
        go_end0
        exact ⟨⟨_, rfl⟩, HT.out _, HM.out _⟩
      · rw [show aggVal c 4 v x = v by simp [aggVal, hx, hc]]
        clear hc
        go_enter Tryz.func73, Tryz.ntmps73
        go_wp2_with (go_at_call 100; (with_reducible refine (tick_any _ _ c 1 _ (by go_simp) (by go_simp)).mono ?_); rintro e w1 ⟨⟨u, rfl⟩, rfl⟩)
        go_end0
        exact ⟨⟨_, rfl⟩, HN.out, HMN.out⟩
/-- one value added -/
theorem add_any (b o : Nat) (xs : List Value) (c k v x : Int) (w : World) (h : At w b xs) (h0 : xs[o]? = some (.int .i64 c)) (h1 : xs[o + 1]? = some (.int .i64 k)) (h2 : xs[o + 2]? = some (.int .i64 v))
    (hk1 : 1 ≤ k) (hk2 : k ≤ 4) (g q : Nat) (hg : w.cell? ⟨g, q, none⟩ = some (.int .i64 x)) (cap : Nat) (hcap : 1 ≤ cap) :
    Calls Tryz.prog 50 #[.pointer (some ⟨b, o, none⟩), .slice (some ⟨g, q, none⟩) 1 cap] w (AddTo w b xs o (wrap64 (c + 1)) (aggVal c k v x)) := by
  have H := Lib.hid (take_any b o xs c k v x w h h0 h1 h2 hk1 hk2)
  clear h h0 h1 h2 hk1 hk2
  go_enter Tryz.func50, Tryz.ntmps50
  go_wp2
  go_loopg [8] 1 (fun n v8 wr => (n = 1 ∧ v8 = .int .i64 0 ∧ wr = w) ∨ (n = 0 ∧ v8 = .int .i64 1 ∧ AddTo w b xs o (wrap64 (c + 1)) (aggVal c k v x) (.returned (.tuple #[])) wr))
  case atStart => exact .inl ⟨rfl, rfl, rfl⟩
  case round =>
    rcases hrel with ⟨rfl, rfl, rfl⟩ | ⟨rfl, rfl, hA⟩
    · go_wp2_with (go_at_call 73; (with_reducible refine H.out.mono ?_); rintro e w1 ⟨⟨u, rfl⟩, ha, hm⟩; have HA := Lib.hid (And.intro ha hm); clear ha hm)
      go_roundg 0
      case measure => omega
      case rel => exact .inr ⟨rfl, rfl, ⟨_, rfl⟩, HA.out.1, HA.out.2⟩
    · have HA := Lib.hid hA
      clear hA
      go_wp2
      go_end0
      exact ⟨⟨_, rfl⟩, HA.out.2, HA.out.3⟩
/-- two sets joined -/
theorem join_any (a b : Int) (g q : Nat) (w : World) (h0 : w.cell? ⟨g, q, none⟩ = some (.int .u64 a)) (h1 : w.cell? ⟨g, q + 1, none⟩ = some (.int .u64 b)) :
    Calls Tryz.prog 51 #[.slice (some ⟨g, q, none⟩) 2 2] w fun e w' => e = .returned (.int .u64 (orI a b)) ∧ w' = w := by
  go_enter Tryz.func51, Tryz.ntmps51
  go_wp2
  go_loopg [3, 8] 2 (fun n v3 v10 wr => wr = w ∧ ((n = 2 ∧ v3 = .int .u64 0 ∧ v10 = .int .i64 0) ∨ (n = 1 ∧ v3 = .int .u64 (bits BinOp.or IntKind.u64 0 a) ∧ v10 = .int .i64 1) ∨ (n = 0 ∧ v3 = .int .u64 (orI a b) ∧ v10 = .int .i64 2)))
  case atStart => exact ⟨rfl, .inl ⟨rfl, rfl, rfl⟩⟩
  case round =>
    obtain ⟨rfl, hrel⟩ := hrel
    rcases hrel with ⟨rfl, rfl, rfl⟩ | ⟨rfl, rfl, rfl⟩ | ⟨rfl, rfl, rfl⟩
    · go_wp2
      go_roundg 1
      case measure => omega
      case rel => exact ⟨rfl, .inr (.inl ⟨rfl, rfl, rfl⟩)⟩
    · go_wp2
      go_roundg 0
      case measure => omega
      case rel => exact ⟨rfl, .inr (.inr ⟨rfl, rfl, rfl⟩)⟩
    · go_wp2
      go_ret
      exact ⟨rfl, rfl⟩
theorem of_any (n : Nat) (hn : n ≤ 7) (g q : Nat) (w : World) (h0 : w.cell? ⟨g, q, none⟩ = some (.int .i64 n)) :
    Calls Tryz.prog 52 #[.slice (some ⟨g, q, none⟩) 1 1] w fun e w' => e = .returned (.int .u64 (ofI n)) ∧ w' = w := by
  go_enter Tryz.func52, Tryz.ntmps52
  go_wp2
  go_loopg [3, 8] 1 (fun m v3 v10 wr => wr = w ∧ ((m = 1 ∧ v3 = .int .u64 0 ∧ v10 = .int .i64 0) ∨ (m = 0 ∧ v3 = .int .u64 (ofI n) ∧ v10 = .int .i64 1)))
  case atStart => exact ⟨rfl, .inl ⟨rfl, rfl, rfl⟩⟩
  case round =>
    obtain ⟨rfl, hrel⟩ := hrel
    rcases hrel with ⟨rfl, rfl, rfl⟩ | ⟨rfl, rfl, rfl⟩
    · go_wp2_with (go_at_call 39; (with_reducible refine (bit_any n hn _).mono ?_); rintro e w1 ⟨rfl, rfl⟩)
      go_roundg 0
      case measure => omega
      case rel => exact ⟨rfl, .inr ⟨rfl, rfl, rfl⟩⟩
    · go_wp2
      go_ret
      exact ⟨rfl, rfl⟩
/-- clocks: an event of a time is seen -/
def clkCs (c : ClkV) : List Value := [.int .i64 c.mark, .int .i64 c.late, .int .i64 c.seen]
structure ClkTo (w : World) (b : Nat) (xs : List Value) (c : ClkV) (r : Bool) (e : Ending) (w' : World) : Prop where
  e : e = .returned (.bool r)
  at_ : At w' b (clkCs c ++ xs)
  mod : Mod [b] w w'
theorem on_any (b : Nat) (c : ClkV) (xs : List Value) (t : Int) (w : World) (h : At w b (clkCs c ++ xs)) :
    Calls Tryz.prog 92 #[.pointer (some ⟨b, 0, none⟩), .int .i64 t] w (ClkTo w b xs (c.on t).1 (c.on t).2) := by
  obtain ⟨m, l, s⟩ := c
  have c0 := h.c 0 _ rfl
  have c1 := h.c 1 _ rfl
  have c2 := h.c 2 _ rfl
  have f1 := h.f 1
  have f2 := h.f 2
  have HA := Lib.hid h
  have H1 := Lib.hid (show At (w.setCell ⟨b, 2, none⟩ (.int .i64 (wrap64 (s + 1)))) b (clkCs ⟨m, l, wrap64 (s + 1)⟩ ++ xs) from h.set 2 _ (by simp [clkCs]))
  have H2 := Lib.hid (show At ((w.setCell ⟨b, 2, none⟩ (.int .i64 (wrap64 (s + 1)))).setCell ⟨b, 1, none⟩ (.int .i64 (wrap64 (l + 1)))) b (clkCs ⟨m, wrap64 (l + 1), wrap64 (s + 1)⟩ ++ xs) from (h.set 2 _ (by simp [clkCs])).set 1 _ (by simp [clkCs]))
  have M1 := Lib.hid (Mod.setCell w b 2 (.int .i64 (wrap64 (s + 1))))
  have M2 := Lib.hid ((Mod.setCell w b 2 (.int .i64 (wrap64 (s + 1)))).set b 1 (.int .i64 (wrap64 (l + 1))) (.inl (by simp)))
  clear h
  by_cases h1 : t < 0
  · rw [show (ClkV.on ⟨m, l, s⟩ t) = (⟨m, l, s⟩, false) by simp [ClkV.on, h1]]
    go_enter Tryz.func92, Tryz.ntmps92
    go_wp2
    go_ret
    exact ⟨rfl, HA.out, Mod.refl _ _⟩
  by_cases h2 : 1099511627776 < t
  · rw [show (ClkV.on ⟨m, l, s⟩ t) = (⟨m, l, s⟩, false) by simp [ClkV.on, h2]]
    have h1' : 0 ≤ t := by omega
    go_enter Tryz.func92, Tryz.ntmps92
    go_wp2
    go_ret
    exact ⟨rfl, HA.out, Mod.refl _ _⟩
  have h1' : 0 ≤ t := by omega
  have h2' : t ≤ 1099511627776 := by omega
  by_cases h3 : t < m
  · rw [show (ClkV.on ⟨m, l, s⟩ t) = (⟨m, wrap64 (l + 1), wrap64 (s + 1)⟩, false) by simp [ClkV.on, h1, h2, h3]]
    clear h1 h2
    go_enter Tryz.func92, Tryz.ntmps92
    go_wp2
    go_ret
    exact ⟨rfl, H2.out, M2.out⟩
  · rw [show (ClkV.on ⟨m, l, s⟩ t) = (⟨m, l, wrap64 (s + 1)⟩, true) by simp [ClkV.on, h1, h2, h3]]
    have h3' : m ≤ t := by omega
    clear h1 h2 h3
    go_enter Tryz.func92, Tryz.ntmps92
    go_wp2
    go_ret
    exact ⟨rfl, H1.out, M1.out⟩
theorem advance_any (b : Nat) (c : ClkV) (xs : List Value) (t : Int) (w : World) (h : At w b (clkCs c ++ xs)) :
    Calls Tryz.prog 65 #[.pointer (some ⟨b, 0, none⟩), .int .i64 t] w (ClkTo w b xs (c.advance t).1 (c.advance t).2) := by
  obtain ⟨m, l, s⟩ := c
  have c0 := h.c 0 _ rfl
  have f0 := h.f 0
  have HA := Lib.hid h
  have H1 := Lib.hid (show At (w.setCell ⟨b, 0, none⟩ (.int .i64 t)) b (clkCs ⟨t, l, s⟩ ++ xs) from h.set 0 _ (by simp [clkCs]))
  have M1 := Lib.hid (Mod.setCell w b 0 (.int .i64 t))
  clear h
  by_cases h1 : t ≤ m
  · rw [show (ClkV.advance ⟨m, l, s⟩ t) = (⟨m, l, s⟩, false) by simp [ClkV.advance, h1]]
    go_enter Tryz.func65, Tryz.ntmps65
    go_wp2
    go_ret
    exact ⟨rfl, HA.out, Mod.refl _ _⟩
  by_cases h2 : 1099512676352 < t
  · rw [show (ClkV.advance ⟨m, l, s⟩ t) = (⟨m, l, s⟩, false) by simp [ClkV.advance, h2]]
    have h1' : m < t := by omega
    clear h1
    go_enter Tryz.func65, Tryz.ntmps65
    go_wp2
    go_ret
    exact ⟨rfl, HA.out, Mod.refl _ _⟩
  · rw [show (ClkV.advance ⟨m, l, s⟩ t) = (⟨t, l, s⟩, true) by simp [ClkV.advance, h1, h2]]
    have h1' : m < t := by omega
    have h2' : t ≤ 1099512676352 := by omega
    clear h1 h2
    go_enter Tryz.func65, Tryz.ntmps65
    go_wp2
    go_ret
    exact ⟨rfl, H1.out, M1.out⟩
end Go.Proofs.YtcanfmabkklidaaGreat
set_option linter.unusedSimpArgs false
set_option linter.unusedVariables false
set_option linter.unnecessarySimpa false
namespace Go.Proofs.YtcanfmabkklidaaGreat
open Go.RowKit

@[reducible] def SinkV.val (x : SinkV) : Value := .agg #[.int .u64 x.frm, .int .u64 x.tos, .int .i64 x.least, .int .i64 x.agg, .int .i64 x.ticks]
@[reducible] def PotV.val (x : PotV) : Value := .agg #[.int .i64 x.count, .int .i64 x.kind, .int .i64 x.value, .int .u64 x.who]
@[reducible] def RelV.val (x : RelV) : Value := .agg #[.int .i64 x.sink, .int .i64 x.epoch, .int .i64 x.value, .bool x.hidden]
@[reducible] def RowV.val (x : RowV) : Value := .agg #[.int .i64 x.start, .int .i64 x.key, .int .i64 x.value, .int .i64 x.count, .int .u64 x.label]
theorem epoch_any (s : SinkV) (k : Nat) (hk : 1 ≤ k) (hk2 : k ≤ 1000000) (hs : 1 ≤ s.ticks) (hs2 : s.ticks ≤ 100) (w : World) :
    Calls Tryz.prog 32 #[s.val, .int .i64 k] w fun e w' => (∃ n : Int, e = .returned (.tuple #[.int .i64 n, .bool (epochOk s k)]) ∧ (epochOk s k = true → n = epochI s k)) ∧ Below w.heap.size w w' := by
  obtain ⟨f, t, l, a, d⟩ := s
  simp only at hs hs2
  have HW := Lib.hid (fun (x : Obj) => ((Below.refl _ w).alloc (Nat.le_refl _) x : Below w.heap.size w (w.alloc x)))
  have hd : (d == 0) = false := by simp; omega
  have h3 : 0 ≤ (k : Int) / d := Int.ediv_nonneg (by omega) (by omega)
  have h4 : (k : Int) / d ≤ k := Int.ediv_le_self _ (by omega)
  by_cases h : (k : Int) % d = 0
  · rw [show epochOk ⟨f, t, l, a, d⟩ k = true by simp [epochOk, h]; omega]
    have h' : ((k : Int) % d != 0) = false := by simp [h]
    clear h
    unfold SinkV.val
    go_enter Tryz.func32, Tryz.ntmps32
    go_wp2
    go_ret2
    exact ⟨⟨_, rfl, fun _ => rfl⟩, HW.out _⟩
  · rw [show epochOk ⟨f, t, l, a, d⟩ k = false by simp [epochOk, h]]
    have h' : ((k : Int) % d != 0) = true := by simp [h]
    clear h
    unfold SinkV.val
    go_enter Tryz.func32, Tryz.ntmps32
    go_wp2
    go_ret2
    exact ⟨⟨_, rfl, fun h => by simp at h⟩, HW.out _⟩
theorem snew_any (s : SinkV) (w : World) : Calls Tryz.prog 28 #[s.val] w fun e w' => e = .returned (PotV.new s).val ∧ Below w.heap.size w w' := by
  obtain ⟨f, t, l, a, d⟩ := s
  have HW := Lib.hid (fun (x y : Obj) => ((Below.refl _ w).alloc (Nat.le_refl _) x).alloc (by simp) y)
  unfold SinkV.val
  go_enter Tryz.func28, Tryz.ntmps28
  go_wp2_with (go_at_call 46; (with_reducible refine (agg_new a _).mono ?_); rintro e w1 ⟨rfl, hb⟩; have HB := Lib.hid hb; obtain ⟨hc, hf⟩ := bcell hb; have hz : w.heap.size + 1 < w1.heap.size := (by have := hb.size; simp at this; omega); clear hb)
  refine bodyPost_ret (v := (PotV.new ⟨f, t, l, a, d⟩).val) (by simp [results, Tryz.results28, go_sem, hc, hz, PotV.new, PotV.val]) rfl ?_
  exact ⟨rfl, by (repeat (first | with_reducible exact Below.refl _ _ | with_reducible refine bel_draw ?_ | with_reducible refine bel_alloc ?_ _ | with_reducible refine bel_set ?_ (by omega) _ | with_reducible refine bel_drawN ?_ _ | with_reducible refine below_step ?_ HB.out))⟩
theorem tell_any (p : PotV) (s : SinkV) (i n : Int) (w : World) : Calls Tryz.prog 34 #[p.val, s.val, .int .i64 i, .int .i64 n] w fun e w' => e = .returned (p.tell s i n).val ∧ Below w.heap.size w w' := by
  obtain ⟨f, t, l, a, d⟩ := s
  obtain ⟨pc, pk, pv, pw⟩ := p
  by_cases h : onesI pw < l
  · rw [show (PotV.tell ⟨pc, pk, pv, pw⟩ ⟨f, t, l, a, d⟩ i n) = ⟨i, n, 0, true⟩ by simp [PotV.tell, h]]
    unfold SinkV.val PotV.val RelV.val
    go_enter Tryz.func34, Tryz.ntmps34
    go_wp2
    go_quiet ((go_at_call 53; exact Calls.quiet_of_same (count_any _ _)))
    go_wp2
    refine bodyPost_ret (v := (RelV.val ⟨i, n, 0, true⟩)) (by simp [results, Tryz.results34, go_sem, RelV.val]) rfl ?_
    exact ⟨rfl, by (repeat (first | with_reducible exact Below.refl _ _ | with_reducible refine bel_draw ?_ | with_reducible refine bel_alloc ?_ _ | with_reducible refine bel_set ?_ (by omega) _ | with_reducible refine bel_drawN ?_ _ | with_reducible refine below_step ?_ HB.out))⟩
  · have h' : l ≤ onesI pw := by omega
    rw [show (PotV.tell ⟨pc, pk, pv, pw⟩ ⟨f, t, l, a, d⟩ i n) = ⟨i, n, pv, false⟩ by simp [PotV.tell, h]]
    unfold SinkV.val PotV.val RelV.val
    clear h
    go_enter Tryz.func34, Tryz.ntmps34
    go_wp2
    go_quiet ((go_at_call 53; exact Calls.quiet_of_same (count_any _ _)))
    go_wp2
    refine bodyPost_ret (v := (RelV.val ⟨i, n, pv, false⟩)) (by simp [results, Tryz.results34, go_sem, RelV.val]) rfl ?_
    exact ⟨rfl, by (repeat (first | with_reducible exact Below.refl _ _ | with_reducible refine bel_draw ?_ | with_reducible refine bel_alloc ?_ _ | with_reducible refine bel_set ?_ (by omega) _ | with_reducible refine bel_drawN ?_ _ | with_reducible refine below_step ?_ HB.out))⟩
end Go.Proofs.YtcanfmabkklidaaGreat
set_option linter.unusedSimpArgs false
set_option linter.unusedVariables false
set_option linter.unnecessarySimpa false
namespace Go.Proofs.YtcanfmabkklidaaGreat
open Go.RowKit

theorem info3 : (Tryz.prog.info? 3).map (fun i => (i.zero, i.size, i.bytes)) = some (some (.int .i64 0), 1, 8) := by kernel_rfl
theorem ints_append (l m : List Int) : ints (l ++ m) = ints l ++ ints m := by simp [ints]
theorem startsI_len (t a b : Int) : ∀ k, (startsI t a b k).length ≤ k
  | 0 => by simp [startsI]
  | k + 1 => by
    have := startsI_len t a b k
    unfold startsI
    split <;> simp <;> omega
theorem startsI_yes (t a b : Int) (n : Nat) (h : 0 ≤ t - t % b - n * b ∧ t - a < t - t % b - n * b) : startsI t a b (n + 1) = [t - t % b - n * b] ++ startsI t a b n := by
  rw [startsI, if_pos (show 0 ≤ startAt t b n ∧ t - a < startAt t b n from h)]
  rfl
theorem startsI_no (t a b : Int) (n : Nat) (h : ¬ (0 ≤ t - t % b - n * b ∧ t - a < t - t % b - n * b)) : startsI t a b (n + 1) = startsI t a b n := by
  rw [startsI, if_neg (show ¬ (0 ≤ startAt t b n ∧ t - a < startAt t b n) from h)]
  rfl
theorem winR_of (a b : Int) (hb1 : 1 ≤ b) (hb2 : b ≤ 12) (ha1 : b ≤ a) (ha2 : a ≤ 4 * b) : winR a b ∧ 1 ≤ (a + b - 1).tdiv b ∧ (a + b - 1).tdiv b ≤ 4 := by
  have e : (a + b - 1).tdiv b = (a + b - 1) / b := Int.tdiv_eq_ediv_of_nonneg (by omega)
  have h1 : 1 ≤ (a + b - 1) / b := (Int.le_ediv_iff_mul_le (by omega)).2 (by omega)
  have h2 : (a + b - 1) / b < 5 := Int.ediv_lt_of_lt_mul (by omega) (by omega)
  refine ⟨⟨hb1, ha1, by omega, ?_⟩, ?_, ?_⟩ <;> rw [e] <;> omega
set_option maxHeartbeats 1000000 in
theorem starts_any (t a b : Int) (w : World) (hb1 : 1 ≤ b) (hb2 : b ≤ 12) (ha1 : b ≤ a) (ha2 : a ≤ 4 * b) (ht0 : 0 ≤ t) (ht1 : t ≤ 1099511627776) :
    Calls Tryz.prog 114 #[.int .i64 t, .int .i64 a, .int .i64 b] w (RetL w (startsI t a b (mostI a b))) := by
  obtain ⟨hw, hm1, hm2⟩ := winR_of a b hb1 hb2 ha1 ha2
  obtain ⟨m, hm⟩ : ∃ m : Nat, (m : Int) = (a + b - 1).tdiv b := ⟨((a + b - 1).tdiv b).toNat, by omega⟩
  have hmm : mostI a b = m := by unfold mostI; omega
  rw [hmm]
  have hwd : decide (winR a b) = true := decide_eq_true hw
  have HWD := Lib.hid hwd
  have HM := Lib.hid hm
  rw [← hm] at hm1 hm2
  have hne : (b == 0) = false := by simp; omega
  obtain ⟨L, hL⟩ : ∃ L, startsI t a b m = L := ⟨_, rfl⟩
  rw [hL]
  have HL := Lib.hid hL
  have hr0 := Int.emod_nonneg t (show b ≠ 0 by omega)
  have hr1 := Int.emod_lt_of_pos t (show 0 < b by omega)
  have hr2 : t % b ≤ t := by
    have h5 := Int.mul_ediv_add_emod t b
    have h6 := Int.mul_nonneg (show 0 ≤ b by omega) (Int.ediv_nonneg ht0 (show 0 ≤ b by omega))
    omega
  obtain ⟨i0, hi3, hz0, hz1, hz2⟩ := info_parts info3
  have HI := Lib.hid (And.intro hi3 (And.intro hz0 (And.intro hz1 hz2)))
  clear hi3 hz0 hz1 hz2 hL hm hmm hw hwd
  go_enter Tryz.func114, Tryz.ntmps114
  go_wp2_with (first
    | (go_at_call 89; (with_reducible refine (win_right _ _ _).mono ?_); rintro e w' ⟨rfl, rfl⟩; rw [HWD.out])
    | (go_at_call 112; (with_reducible refine (most_any _ _ (by omega) (by omega) (by omega) (by omega) _).mono ?_); rintro e w' ⟨rfl, rfl⟩; rw [← HM.out]))
  go_loopg [7, 9] m (fun g v7 v9 wr => ∃ (j : Nat) (n' : Int) (D : List Int), g = j ∧ j ≤ m ∧ n' = j - 1 ∧ v9 = .int .i64 n' ∧ D ++ startsI t a b j = L ∧
    wr.ownsRow w'.heap.size 3 1 v7 D.length (ints D) ∧ Below w'.heap.size w' wr ∧ D.length + j ≤ m)
  case atStart => exact ⟨m, _, [], rfl, by omega, rfl, rfl, by rw [List.nil_append, ← HL.out], World.ownsRow_nil _ _ _ _, Below.refl _ _, by simp⟩
  case round =>
    obtain ⟨j, n', D, rfl, hjm, hn', rfl, hD, hown, hb, hdl⟩ := hrel
    have HB := Lib.hid hb
    have hz := hb.size
    have HO := Lib.hid hown
    have HD := Lib.hid hD
    clear hb hown hD
    cases gk with
    | zero =>
      obtain rfl : n' = -1 := by omega
      clear hn'
      go_wp2
      go_ret
      have hDL : D = L := by have := HD.out; simp [startsI] at this; exact this
      exact ⟨_, rfl, by rw [← hDL]; exact HO.out, HB.out⟩
    | succ n =>
      obtain rfl : n' = n := by omega
      clear hn'
      have hp0 : 0 ≤ (n : Int) * b := Int.mul_nonneg (by omega) (by omega)
      have hp1 : (n : Int) * b ≤ 8 * 1048576 := by
        have h5 : (n : Int) * b ≤ 8 * b := Int.mul_le_mul_of_nonneg_right (by omega) (by omega)
        omega
      by_cases hc : 0 ≤ t - t % b - n * b ∧ t - a < t - t % b - n * b
      · have hD2 : (D ++ [t - t % b - n * b]) ++ startsI t a b n = L := by
          rw [← HD.out]
          rw [startsI_yes t a b n hc, List.append_assoc]
        have HD2 := Lib.hid hD2
        obtain ⟨hc1, hc2⟩ := hc
        clear hD2
        go_wp2_with (at_builtin; refine wpList_append_own _ rfl (.tmp 50) (.tmp 52) 73 rfl w'.heap.size 3 i0 _ 1 8 Tryz.underlying73 HI.out.1 HI.out.2.1 HI.out.2.2.1 HI.out.2.2.2 rfl (by decide) u7 D.length _ rfl (HO.out.alloc _) ⟨wr.heap.size, 0, none⟩ 1 1 [.int .i64 (t - t % b - n * b)] rfl rfl (row_cells _ _ _) (by simp [Value.oneCell']) (by unfold maxLen; omega) (by omega) (by simp; omega) ?_; intro v' w5 hown5 hgrow5 _; have HO5 := Lib.hid hown5; have HB5 := Lib.hid ((HB.out.alloc HB.out.size (.cells #[.int .i64 (t - t % b - n * b)] 3)).grown hgrow5 (by simp; omega) (fun q hq => (HO.out.lt q hq).1)); clear hown5 hgrow5)
        go_roundg n
        case measure => omega
        case rel => exact ⟨n, _, _, rfl, by omega, rfl, rfl, HD2.out, by rw [List.length_append, ints_append]; exact HO5.out, HB5.out, by simp; omega⟩
      · have hnc : ¬ (0 ≤ t - t % b - n * b) ∨ (0 ≤ t - t % b - n * b ∧ ¬ (t - a < t - t % b - n * b)) := by omega
        have hD2 : D ++ startsI t a b n = L := by
          rw [← HD.out]
          rw [startsI_no t a b n hc]
        have HD2 := Lib.hid hD2
        clear hD2 hc
        rcases hnc with hc | ⟨hc, hc2⟩
        all_goals
          go_wp2
          go_roundg n
          case measure => omega
          case rel => exact ⟨n, _, D, rfl, by omega, rfl, rfl, HD2.out, HO.out, HB.out, by omega⟩
end Go.Proofs.YtcanfmabkklidaaGreat
