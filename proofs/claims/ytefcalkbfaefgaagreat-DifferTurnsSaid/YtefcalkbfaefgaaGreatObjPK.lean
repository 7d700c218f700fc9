/- Plain: stamps, operations, items, commits, tags; when they are right; their bytes; how they are read. -/
import Derived.Test.YtefcalkbfaefgaaGreatNumBK
import Derived.Test.YtefcalkbfaefgaaGreatShaCmpK
namespace Go.Proofs.YtefcalkbfaefgaaGreat
set_option linter.unusedVariables false

structure St where
  T : Int
  R : Int
deriving DecidableEq
structure Hd where
  At : St
  Data : ID
structure It where
  Node : St
  At : St
  Name : List UInt8
  Sub : ID
  Heads : List Hd
structure Opn where
  Kind : Int
  At : St
  Node : St
  Parent : St
  Name : List UInt8
  Data : ID
  Over : List St
structure Chg where
  Parents : List ID
  Time : Int
  R : Int
  Ops : List Opn
  Tree : ID
  Msg : List UInt8
structure Lbl where
  Target : ID
  Name : List UInt8
  Msg : List UInt8
def zSt : St := ⟨0, 0⟩
def zOp : Opn := ⟨0, zSt, zSt, zSt, [], zID, []⟩
/-- the order of stamps -/
def cmpS (a b : St) : Int := if a.T < b.T then -1 else if b.T < a.T then 1 else if a.R < b.R then -1 else if b.R < a.R then 1 else 0
def rightS (s : St) : Bool := decide (1 ≤ s.T) && decide (s.T ≤ 1099511627776) && decide (1 ≤ s.R) && decide (s.R ≤ 65536)
def nameOk (l : List UInt8) : Bool := decide (1 ≤ l.length) && decide (l.length ≤ 60) && decide (l ≠ [46]) && decide (l ≠ [46, 46]) && l.all fun b => decide (b ≠ 0) && decide (b ≠ 47) && decide (b ≠ 10)
def fixedS (s : St) : Bool := decide (s.T = 0) && (decide (s.R = 0) || decide (s.R = 1))
/-- does a list rise? -/
def riseB {α : Type} (cf : α → α → Int) : List α → Bool
  | x :: y :: l => decide (cf x y < 0) && riseB cf (y :: l)
  | _ => true
def moveOk (o : Opn) : Bool := decide (cmpS o.Node o.At ≤ 0) && (rightS o.Parent || fixedS o.Parent) && nameOk o.Name && decide (o.Data = zID) && decide (o.Over.length = 0)
def editOk (o : Opn) : Bool := decide (cmpS o.Node o.At < 0) && decide (o.Parent = zSt) && decide (o.Name = []) && decide (o.Data ≠ zID) && decide (o.Over.length ≤ 64) && (o.Over.all fun s => rightS s && decide (cmpS s o.At < 0)) && riseB cmpS o.Over
def goodOp (o : Opn) : Bool := rightS o.At && rightS o.Node && (if o.Kind = 1 then moveOk o else if o.Kind = 2 then editOk o else false)
def rightIt (x : It) : Bool := rightS x.Node && rightS x.At && decide (0 ≤ cmpS x.At x.Node) && nameOk x.Name && decide (x.Heads.length ≤ 1000) && (x.Heads.all fun h => rightS h.At && decide (0 < cmpS h.At x.Node) && decide (h.Data ≠ zID)) && riseB (fun a b : Hd => cmpS a.At b.At) x.Heads
def rightDr (l : List It) : Bool := decide (l.length ≤ 1000) && l.all rightIt && riseB (fun a b : It => cmpS a.Node b.Node) l
def rightCh (c : Chg) : Bool := decide (c.Parents.length ≤ 2) && (c.Parents.all fun p => decide (p ≠ zID)) && riseB cmpI c.Parents && rightS ⟨c.Time, c.R⟩ && decide (c.Msg.length ≤ 200) && decide (c.Tree ≠ zID) && decide (c.Ops.length ≤ 64) && !(decide (c.Parents.length = 2) && decide (0 < c.Ops.length)) &&
  (c.Ops.all fun o => goodOp o && decide (o.At.T ≤ c.Time) && decide (o.At.R = c.R)) && riseB (fun a b : Opn => cmpS a.At b.At) c.Ops
def rightLb (l : Lbl) : Bool := decide (l.Target ≠ zID) && nameOk l.Name && decide (l.Msg.length ≤ 200)
/-! bytes -/
def stB (s : St) : List UInt8 := numB s.T.toNat ++ numB s.R.toNat
def txB (l : List UInt8) : List UInt8 := numB l.length ++ l
def hdB (h : Hd) : List UInt8 := stB h.At ++ h.Data.1
def itB (x : It) : List UInt8 := stB x.Node ++ stB x.At ++ txB x.Name ++ x.Sub.1 ++ numB x.Heads.length ++ x.Heads.flatMap hdB
def drB (l : List It) : List UInt8 := 2 :: numB l.length ++ l.flatMap itB
def opB (o : Opn) : List UInt8 := if goodOp o then numB o.Kind.toNat ++ stB o.At ++ stB o.Node ++ (if o.Kind = 1 then stB o.Parent ++ txB o.Name else o.Data.1 ++ numB o.Over.length ++ o.Over.flatMap stB) else []
def chB (c : Chg) : List UInt8 := 3 :: numB c.Parents.length ++ c.Parents.flatMap (·.1) ++ numB c.Time.toNat ++ numB c.R.toNat ++ numB c.Ops.length ++ c.Ops.flatMap opB ++ c.Tree.1 ++ txB c.Msg
def lbB (l : Lbl) : List UInt8 := 4 :: l.Target.1 ++ txB l.Name ++ txB l.Msg
/-! reading -/
def rdTake (n : Nat) (s : RS) : List UInt8 × RS := if s.2 = true ∨ s.1.length < n then ([], ([], true)) else (s.1.take n, (s.1.drop n, false))
def rdText (most : Nat) (s : RS) : List UInt8 × RS := rdTake (rdNum most s).1 (rdNum most s).2
def idOf (l : List UInt8) : ID := if h : l.length = 32 then ⟨l, h⟩ else zID
def rdId (s : RS) : ID × RS := (idOf (rdTake 32 s).1, (rdTake 32 s).2)
def rdSt (s : RS) : St × RS := (⟨(rdNum 1099511627776 s).1, (rdNum 65536 (rdNum 1099511627776 s).2).1⟩, (rdNum 65536 (rdNum 1099511627776 s).2).2)
/-- n things, as long as the reader is good -/
def rdMany {α : Type} (f : RS → α × RS) : Nat → RS → List α × RS
  | 0, s => ([], s)
  | n + 1, s => if (f s).2.2 = true then ([(f s).1], (f s).2) else ((f s).1 :: (rdMany f n (f s).2).1, (rdMany f n (f s).2).2)
/-- n things -/
def rdAll {α : Type} (f : RS → α × RS) : Nat → RS → List α × RS
  | 0, s => ([], s)
  | n + 1, s => ((f s).1 :: (rdAll f n (f s).2).1, (rdAll f n (f s).2).2)
def rdHd (s : RS) : Hd × RS := (⟨(rdSt s).1, (rdId (rdSt s).2).1⟩, (rdId (rdSt s).2).2)
def rdIt (s : RS) : It × RS :=
  let a := rdSt s
  let b := rdSt a.2
  let c := rdText 60 b.2
  let d := rdId c.2
  let n := rdNum 1000 d.2
  let hs := rdMany rdHd n.1 n.2
  (⟨a.1, b.1, c.1, d.1, hs.1⟩, hs.2)
def openR (b : List UInt8) (k : UInt8) : RS := match b with
  | [] => ([], true)
  | c :: l => if c = k then (l, false) else ([], true)
def rdDr (b : List UInt8) : Option (List It) :=
  let n := rdNum 1000 (openR b 2)
  let x := rdMany rdIt n.1 n.2
  if x.2 = ([], false) ∧ rightDr x.1 = true then some x.1 else none
/-- an operation but for its check -/
def rdOp0 (s : RS) : Opn × RS :=
  let k := rdNum 2 s
  let a := rdSt k.2
  let b := rdSt a.2
  if k.1 = 1 then
    let p := rdSt b.2
    let t := rdText 60 p.2
    (⟨k.1, a.1, b.1, p.1, t.1, zID, []⟩, t.2)
  else
    let d := rdId b.2
    let n := rdNum 64 d.2
    let l := rdAll rdSt n.1 n.2
    (⟨k.1, a.1, b.1, zSt, [], d.1, l.1⟩, l.2)
def rdOp (s : RS) : Opn × RS := if (rdOp0 s).2.2 = true ∨ goodOp (rdOp0 s).1 = false then (zOp, ([], true)) else rdOp0 s
def rdCh (b : List UInt8) : Option Chg :=
  let n := rdNum 2 (openR b 3)
  let ps := rdAll rdId n.1 n.2
  let t := rdNum 1099511627776 ps.2
  let r := rdNum 65536 t.2
  let k := rdNum 64 r.2
  let os := rdAll rdOp k.1 k.2
  let tr := rdId os.2
  let m := rdText 200 tr.2
  let c : Chg := ⟨ps.1, t.1, r.1, os.1, tr.1, m.1⟩
  if m.2 = ([], false) ∧ rightCh c = true then some c else none
def rdLb (b : List UInt8) : Option Lbl :=
  let t := rdId (openR b 4)
  let n := rdText 60 t.2
  let m := rdText 200 n.2
  let l : Lbl := ⟨t.1, n.1, m.1⟩
  if m.2 = ([], false) ∧ rightLb l = true then some l else none
def rdBl (b : List UInt8) : Option (List UInt8) := match b with
  | [] => none
  | c :: l => if c = 1 ∧ l.length ≤ 4096 then some l else none
def kindO (b : List UInt8) : Nat := if (rdBl b).isSome then 1 else if (rdDr b).isSome then 2 else if (rdCh b).isSome then 3 else if (rdLb b).isSome then 4 else 0
end Go.Proofs.YtefcalkbfaefgaaGreat
