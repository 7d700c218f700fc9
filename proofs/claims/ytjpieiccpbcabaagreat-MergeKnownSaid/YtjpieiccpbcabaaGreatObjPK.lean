/- Plain: stamps, operations, items, commits, tags; when they are right; their bytes; how they are read. -/
import Derived.Test.YtjpieiccpbcabaaGreatNumBK
import Derived.Test.YtjpieiccpbcabaaGreatShaCmpK
namespace Go.Proofs.YtjpieiccpbcabaaGreat
set_option linter.unusedVariables false

structure St where
 T:Int
 R:Int
deriving DecidableEq
structure Hd where
 At:St
 Data:ID
structure It where
 Node:St
 At:St
 Name:List UInt8
 Sub:ID
 Heads:List Hd
structure Opn where
 Kind:Int
 At:St
 Node:St
 Parent:St
 Name:List UInt8
 Data:ID
 Over:List St
structure Chg where
 Parents:List ID
 Time:Int
 R:Int
 Ops:List Opn
 Tree:ID
 Msg:List UInt8
def zSt:St:=⟨0,0⟩
def cmpS (a b:St):Int:=if a.T < b.T then -1 else if b.T < a.T then 1 else if a.R < b.R then -1 else if b.R < a.R then 1 else 0
def rightS (s:St):Bool:=decide (1 ≤ s.T) && decide (s.T ≤ 1099511627776) && decide (1 ≤ s.R) && decide (s.R ≤ 65536)
def nameOk (l:List UInt8):Bool:=decide (1 ≤ l.length) && decide (l.length ≤ 60) && decide (l ≠ [46]) && decide (l ≠ [46,46]) && l.all fun b=>decide (b ≠ 0) && decide (b ≠ 47) && decide (b ≠ 10)
def fixedS (s:St):Bool:=decide (s.T = 0) && (decide (s.R = 0) || decide (s.R = 1))
def riseB {α:Type} (cf:α → α → Int):List α → Bool
 | x :: y :: l=>decide (cf x y < 0) && riseB cf (y :: l)
 | _=>true
def moveOk (o:Opn):Bool:=decide (cmpS o.Node o.At ≤ 0) && (rightS o.Parent || fixedS o.Parent) && nameOk o.Name && decide (o.Data = zID) && decide (o.Over.length = 0)
def editOk (o:Opn):Bool:=decide (cmpS o.Node o.At < 0) && decide (o.Parent = zSt) && decide (o.Name = []) && decide (o.Data ≠ zID) && decide (o.Over.length ≤ 64) && (o.Over.all fun s=>rightS s && decide (cmpS s o.At < 0)) && riseB cmpS o.Over
def goodOp (o:Opn):Bool:=rightS o.At && rightS o.Node && (if o.Kind = 1 then moveOk o else if o.Kind = 2 then editOk o else false)
def rightCh (c:Chg):Bool:=decide (c.Parents.length ≤ 2) && (c.Parents.all fun p=>decide (p ≠ zID)) && riseB cmpI c.Parents && rightS ⟨c.Time,c.R⟩ && decide (c.Msg.length ≤ 200) && decide (c.Tree ≠ zID) && decide (c.Ops.length ≤ 64) && !(decide (c.Parents.length = 2) && decide (0 < c.Ops.length)) &&
 (c.Ops.all fun o=>goodOp o && decide (o.At.T ≤ c.Time) && decide (o.At.R = c.R)) && riseB (fun a b:Opn=>cmpS a.At b.At) c.Ops
/-! bytes -/
def stB (s:St):List UInt8:=numB s.T.toNat ++ numB s.R.toNat
def txB (l:List UInt8):List UInt8:=numB l.length ++ l
def opB (o:Opn):List UInt8:=if goodOp o then numB o.Kind.toNat ++ stB o.At ++ stB o.Node ++ (if o.Kind = 1 then stB o.Parent ++ txB o.Name else o.Data.1 ++ numB o.Over.length ++ o.Over.flatMap stB) else []
def chB (c:Chg):List UInt8:=3 :: numB c.Parents.length ++ c.Parents.flatMap (·.1) ++ numB c.Time.toNat ++ numB c.R.toNat ++ numB c.Ops.length ++ c.Ops.flatMap opB ++ c.Tree.1 ++ txB c.Msg
/-! reading -/
def rdTake (n:Nat) (s:RS):List UInt8 × RS:=if s.2 = true ∨ s.1.length < n then ([],([],true)) else (s.1.take n,(s.1.drop n,false))
def rdAll {α:Type} (f:RS → α × RS):Nat → RS → List α × RS
 | 0,s=>([],s)
 | n + 1,s=>((f s).1 :: (rdAll f n (f s).2).1,(rdAll f n (f s).2).2)
def openR (b:List UInt8) (k:UInt8):RS:=match b with
 | []=>([],true)
 | c :: l=>if c = k then (l,false) else ([],true)
end Go.Proofs.YtjpieiccpbcabaaGreat
