/-
  What the type table says, type by type (laid by my own program).
-/
import Derived.Test.YtjbokbikkcfjjaaGreatAak
import Derived.Test.YtjbokbikkcfjjaaGreatProg
set_option maxRecDepth 16000
set_option maxHeartbeats 8000000
set_option linter.all false
namespace Go.Proofs.YtjbokbikkcfjjaaGreat
open Go.Cap
instance : Xe Tryz.prog 3 [.v (.int .i64 0)] := ⟨by rfl⟩
instance : QB Tryz.prog 22 (.v (.int .i64 0)) 8 := ⟨by rfl⟩
instance : Xe Tryz.prog 25 [.v (.int .i64 0)] := ⟨by rfl⟩
instance : QB Tryz.prog 33 (.v (.string .empty)) 16 := ⟨by rfl⟩
instance : Xe Tryz.prog 34 [.v (.slice none 0 0)] := ⟨by rfl⟩
instance : Zv Tryz.prog 34 1 := ⟨by rfl⟩
instance : QB Tryz.prog 34 (.v (.int .u8 0)) 1 := ⟨by rfl⟩
instance : Zv Tryz.prog 41 3 := ⟨by rfl⟩
instance : QB Tryz.prog 41 (.agg [.v (.int .i64 0), .v (.int .i64 0), .v (.string .empty)]) 32 := ⟨by rfl⟩
instance : U4 Tryz.prog 42 5 := ⟨by rfl, by rfl⟩
instance : B0 Tryz.prog 42 5 1 := ⟨by rfl⟩
instance : Xe Tryz.prog 44 [.v (.int .i64 0), .v (.int .i64 0), .v (.int .i64 0), .v (.int .i64 0), .v (.int .i64 0), .v (.int .i64 0), .v (.string .empty), .v (.slice none 0 0), .v (.int .i64 0), .v (.int .i64 0), .v (.int .i64 0), .v (.int .i64 0), .v (.int .i64 0), .v (.int .i64 0), .v (.int .i64 0), .v (.int .i64 0), .v (.int .i64 0), .v (.int .i64 0), .v (.int .i64 0), .v (.int .i64 0), .v (.int .i64 0), .v (.int .i64 0)] := ⟨by rfl⟩
instance : U4 Tryz.prog 44 22 := ⟨by rfl, by rfl⟩
instance : QX Tryz.prog 44 0 0 1 false := ⟨by rfl⟩
instance : QX Tryz.prog 44 1 1 1 false := ⟨by rfl⟩
instance : QX Tryz.prog 44 2 2 1 false := ⟨by rfl⟩
instance : QX Tryz.prog 44 3 3 1 false := ⟨by rfl⟩
instance : QX Tryz.prog 44 4 4 1 false := ⟨by rfl⟩
instance : QX Tryz.prog 44 5 5 1 false := ⟨by rfl⟩
instance : QX Tryz.prog 44 6 6 1 false := ⟨by rfl⟩
instance : QX Tryz.prog 44 7 7 1 false := ⟨by rfl⟩
instance : QX Tryz.prog 44 8 8 1 false := ⟨by rfl⟩
instance : QX Tryz.prog 44 9 9 1 false := ⟨by rfl⟩
instance : QX Tryz.prog 44 10 10 1 false := ⟨by rfl⟩
instance : QX Tryz.prog 44 11 11 1 false := ⟨by rfl⟩
instance : QX Tryz.prog 44 12 12 5 true := ⟨by rfl⟩
instance : QX Tryz.prog 44 13 17 5 true := ⟨by rfl⟩
instance : QX Tryz.prog 59 0 0 1 false := ⟨by rfl⟩
instance : QX Tryz.prog 59 1 1 1 false := ⟨by rfl⟩
instance : QX Tryz.prog 59 2 2 1 false := ⟨by rfl⟩
instance : QX Tryz.prog 59 3 3 1 false := ⟨by rfl⟩
instance : NU Tryz.prog 66 3 4 (.int .i64) (.v (.bool false)) := ⟨by rfl, by rfl, by rfl⟩
instance : Xe Tryz.prog 68 [.v (.pointer none), .v (.pointer none)] := ⟨by rfl⟩
instance : U4 Tryz.prog 68 2 := ⟨by rfl, by rfl⟩
instance : QX Tryz.prog 68 0 0 1 false := ⟨by rfl⟩
instance : QX Tryz.prog 68 1 1 1 false := ⟨by rfl⟩
instance : B0 Tryz.prog 69 5 2 := ⟨by rfl⟩
instance : Zv Tryz.prog 70 11 := ⟨by rfl⟩
instance : QB Tryz.prog 70 (.agg [.v (.int .i64 0), .v (.int .i64 0), .v (.int .i64 0), .v (.int .i64 0), .v (.int .i64 0), .v (.int .i64 0), .v (.int .i64 0), .v (.int .i64 0), .v (.bool false), .v (.slice none 0 0), .v (.string .empty)]) 112 := ⟨by rfl⟩
instance : Xe Tryz.prog 72 [.v (.int .i64 0), .v (.pointer none), .v (.pointer none), .v (.pointer none), .v (.pointer none), .v (.pointer none), .v (.pointer none), .v (.pointer none), .v (.pointer none), .v (.pointer none), .v (.pointer none), .v (.map none), .v (.slice none 0 0)] := ⟨by rfl⟩
instance : QX Tryz.prog 72 0 0 1 false := ⟨by rfl⟩
instance : QX Tryz.prog 72 1 1 10 true := ⟨by rfl⟩
instance : QX Tryz.prog 72 2 11 1 false := ⟨by rfl⟩
instance : QX Tryz.prog 72 3 12 1 false := ⟨by rfl⟩
instance : Xe Tryz.prog 76 [.v (.int .i64 0), .v (.int .i64 0), .v (.int .i64 0), .v (.int .i64 0), .v (.int .i64 0), .v (.int .i64 0), .v (.int .i64 0), .v (.int .i64 0), .v (.bool false), .v (.slice none 0 0), .v (.string .empty)] := ⟨by rfl⟩
instance : U4 Tryz.prog 76 11 := ⟨by rfl, by rfl⟩
instance : QX Tryz.prog 76 0 0 1 false := ⟨by rfl⟩
instance : QX Tryz.prog 76 1 1 1 false := ⟨by rfl⟩
instance : QX Tryz.prog 76 2 2 1 false := ⟨by rfl⟩
instance : QX Tryz.prog 76 3 3 1 false := ⟨by rfl⟩
instance : QX Tryz.prog 76 4 4 1 false := ⟨by rfl⟩
instance : QX Tryz.prog 76 5 5 1 false := ⟨by rfl⟩
instance : QX Tryz.prog 76 6 6 1 false := ⟨by rfl⟩
instance : QX Tryz.prog 76 7 7 1 false := ⟨by rfl⟩
instance : QX Tryz.prog 76 8 8 1 false := ⟨by rfl⟩
instance : QX Tryz.prog 76 9 9 1 false := ⟨by rfl⟩
instance : QX Tryz.prog 76 10 10 1 false := ⟨by rfl⟩
instance : Xe Tryz.prog 84 [.v (.int .i64 0), .v (.int .i64 0), .v (.string .empty)] := ⟨by rfl⟩
instance : U4 Tryz.prog 84 3 := ⟨by rfl, by rfl⟩
instance : QX Tryz.prog 84 0 0 1 false := ⟨by rfl⟩
instance : QX Tryz.prog 84 1 1 1 false := ⟨by rfl⟩
instance : QX Tryz.prog 84 2 2 1 false := ⟨by rfl⟩
instance : Xe Tryz.prog 87 [.v (.int .i64 0), .v (.int .i64 0), .v (.bool false)] := ⟨by rfl⟩
instance : QX Tryz.prog 87 0 0 1 false := ⟨by rfl⟩
instance : QX Tryz.prog 87 1 1 1 false := ⟨by rfl⟩
instance : QX Tryz.prog 87 2 2 1 false := ⟨by rfl⟩
instance : Xe Tryz.prog 89 [.v (.int .i64 0), .v (.int .i64 0), .v (.bool false), .v (.slice none 0 0), .v (.int .i64 0), .v (.slice none 0 0), .v (.int .i64 0)] := ⟨by rfl⟩
instance : QX Tryz.prog 89 0 0 3 true := ⟨by rfl⟩
instance : QX Tryz.prog 89 1 3 1 false := ⟨by rfl⟩
instance : QX Tryz.prog 89 2 4 1 false := ⟨by rfl⟩
instance : QX Tryz.prog 89 3 5 1 false := ⟨by rfl⟩
instance : QX Tryz.prog 89 4 6 1 false := ⟨by rfl⟩
instance : Xe Tryz.prog 91 [.v (.pointer none)] := ⟨by rfl⟩
instance : Xe Tryz.prog 93 [.v (.pointer none), .v (.int .i64 0), .v (.int .i64 0), .v (.int .i64 0), .v (.int .i64 0), .v (.int .i64 0), .v (.int .i64 0), .v (.string .empty), .v (.slice none 0 0), .v (.int .i64 0), .v (.int .i64 0), .v (.int .i64 0), .v (.int .i64 0), .v (.int .i64 0), .v (.int .i64 0), .v (.int .i64 0), .v (.int .i64 0), .v (.int .i64 0), .v (.int .i64 0), .v (.int .i64 0), .v (.int .i64 0), .v (.int .i64 0), .v (.int .i64 0)] := ⟨by rfl⟩
instance : QX Tryz.prog 93 0 0 1 false := ⟨by rfl⟩
instance : QX Tryz.prog 93 1 1 22 true := ⟨by rfl⟩
instance : Xe Tryz.prog 95 [.v (.pointer none), .v (.int .i64 0), .v (.int .i64 0), .v (.int .i64 0), .v (.int .i64 0), .v (.int .i64 0), .v (.int .i64 0), .v (.string .empty), .v (.slice none 0 0), .v (.int .i64 0), .v (.int .i64 0), .v (.int .i64 0), .v (.int .i64 0), .v (.int .i64 0), .v (.int .i64 0), .v (.int .i64 0), .v (.int .i64 0), .v (.int .i64 0), .v (.int .i64 0), .v (.int .i64 0), .v (.int .i64 0), .v (.int .i64 0), .v (.int .i64 0)] := ⟨by rfl⟩
instance : QX Tryz.prog 95 0 0 23 true := ⟨by rfl⟩
instance : Zv Tryz.prog 102 3 := ⟨by rfl⟩
instance : QB Tryz.prog 102 (.agg [.v (.int .i64 0), .v (.int .i64 0), .v (.string .empty)]) 32 := ⟨by rfl⟩
instance : Xe Tryz.prog 104 [.v (.int .i64 0), .v (.int .i64 0), .v (.int .i64 0), .v (.int .i64 0), .v (.int .i64 0), .v (.int .i64 0), .v (.string .empty), .v (.slice none 0 0), .v (.int .i64 0), .v (.int .i64 0), .v (.int .i64 0), .v (.int .i64 0), .v (.int .i64 0), .v (.int .i64 0), .v (.int .i64 0), .v (.int .i64 0), .v (.int .i64 0), .v (.int .i64 0), .v (.int .i64 0), .v (.int .i64 0), .v (.int .i64 0), .v (.int .i64 0)] := ⟨by rfl⟩
instance : U4 Tryz.prog 104 22 := ⟨by rfl, by rfl⟩
instance : QX Tryz.prog 104 0 0 1 false := ⟨by rfl⟩
instance : QX Tryz.prog 104 1 1 1 false := ⟨by rfl⟩
instance : QX Tryz.prog 104 2 2 1 false := ⟨by rfl⟩
instance : QX Tryz.prog 104 3 3 1 false := ⟨by rfl⟩
instance : QX Tryz.prog 104 4 4 1 false := ⟨by rfl⟩
instance : QX Tryz.prog 104 5 5 1 false := ⟨by rfl⟩
instance : QX Tryz.prog 104 6 6 1 false := ⟨by rfl⟩
instance : QX Tryz.prog 104 7 7 1 false := ⟨by rfl⟩
instance : QX Tryz.prog 104 8 8 1 false := ⟨by rfl⟩
instance : QX Tryz.prog 104 9 9 1 false := ⟨by rfl⟩
instance : QX Tryz.prog 104 10 10 1 false := ⟨by rfl⟩
instance : QX Tryz.prog 104 11 11 1 false := ⟨by rfl⟩
instance : QX Tryz.prog 104 12 12 5 true := ⟨by rfl⟩
instance : QX Tryz.prog 104 13 17 5 true := ⟨by rfl⟩
instance : B0 Tryz.prog 105 5 22 := ⟨by rfl⟩
instance : B0 Tryz.prog 106 5 1 := ⟨by rfl⟩
instance : Zv Tryz.prog 107 11 := ⟨by rfl⟩
instance : QB Tryz.prog 107 (.agg [.v (.int .i64 0), .v (.int .i64 0), .v (.int .i64 0), .v (.int .i64 0), .v (.int .i64 0), .v (.int .i64 0), .v (.int .i64 0), .v (.int .i64 0), .v (.bool false), .v (.slice none 0 0), .v (.string .empty)]) 112 := ⟨by rfl⟩
instance : Xe Tryz.prog 109 [.v (.int .i64 0), .v (.int .i64 0), .v (.int .i64 0), .v (.int .i64 0), .v (.int .i64 0), .v (.int .i64 0), .v (.string .empty), .v (.slice none 0 0), .v (.int .i64 0), .v (.int .i64 0), .v (.int .i64 0), .v (.int .i64 0), .v (.int .i64 0), .v (.int .i64 0), .v (.int .i64 0), .v (.int .i64 0), .v (.int .i64 0), .v (.int .i64 0), .v (.int .i64 0), .v (.int .i64 0), .v (.int .i64 0), .v (.int .i64 0), .v (.int .i64 0), .v (.int .i64 0), .v (.int .i64 0), .v (.int .i64 0), .v (.int .i64 0), .v (.int .i64 0), .v (.string .empty), .v (.slice none 0 0), .v (.int .i64 0), .v (.int .i64 0), .v (.int .i64 0), .v (.int .i64 0), .v (.int .i64 0), .v (.int .i64 0), .v (.int .i64 0), .v (.int .i64 0), .v (.int .i64 0), .v (.int .i64 0), .v (.int .i64 0), .v (.int .i64 0), .v (.int .i64 0), .v (.int .i64 0), .v (.int .i64 0), .v (.int .i64 0), .v (.int .i64 0), .v (.int .i64 0), .v (.int .i64 0), .v (.int .i64 0), .v (.string .empty), .v (.slice none 0 0), .v (.int .i64 0), .v (.int .i64 0), .v (.int .i64 0), .v (.int .i64 0), .v (.int .i64 0), .v (.int .i64 0), .v (.int .i64 0), .v (.int .i64 0), .v (.int .i64 0), .v (.int .i64 0), .v (.int .i64 0), .v (.int .i64 0), .v (.int .i64 0), .v (.int .i64 0), .v (.int .i64 0), .v (.int .i64 0), .v (.int .i64 0), .v (.int .i64 0), .v (.int .i64 0), .v (.int .i64 0), .v (.string .empty), .v (.slice none 0 0), .v (.int .i64 0), .v (.int .i64 0), .v (.int .i64 0), .v (.int .i64 0), .v (.int .i64 0), .v (.int .i64 0), .v (.int .i64 0), .v (.int .i64 0), .v (.int .i64 0), .v (.int .i64 0), .v (.int .i64 0), .v (.int .i64 0), .v (.int .i64 0), .v (.int .i64 0), .v (.int .i64 0), .v (.int .i64 0), .v (.int .i64 0), .v (.int .i64 0), .v (.int .i64 0), .v (.int .i64 0), .v (.string .empty), .v (.slice none 0 0), .v (.int .i64 0), .v (.int .i64 0), .v (.int .i64 0), .v (.int .i64 0), .v (.int .i64 0), .v (.int .i64 0), .v (.int .i64 0), .v (.int .i64 0), .v (.int .i64 0), .v (.int .i64 0), .v (.int .i64 0), .v (.int .i64 0), .v (.int .i64 0), .v (.int .i64 0), .v (.bool false), .v (.bool false), .v (.bool false), .v (.bool false), .v (.bool false), .v (.slice none 0 0)] := ⟨by rfl⟩
instance : QX Tryz.prog 109 0 0 110 true := ⟨by rfl⟩
instance : QX Tryz.prog 109 1 110 5 true := ⟨by rfl⟩
instance : QX Tryz.prog 109 2 115 1 false := ⟨by rfl⟩
instance : Xe Tryz.prog 117 [.v (.slice none 0 0)] := ⟨by rfl⟩
instance : QB Tryz.prog 117 (.v (.slice none 0 0)) 24 := ⟨by rfl⟩
instance : Xe Tryz.prog 136 [.v (.int .i64 0), .v (.int .i64 0), .v (.int .i64 0), .v (.int .i64 0), .v (.int .i64 0), .v (.int .i64 0), .v (.int .i64 0), .v (.int .i64 0), .v (.bool false), .v (.slice none 0 0), .v (.string .empty)] := ⟨by rfl⟩
instance : U4 Tryz.prog 136 11 := ⟨by rfl, by rfl⟩
instance : QX Tryz.prog 136 0 0 1 false := ⟨by rfl⟩
instance : QX Tryz.prog 136 1 1 1 false := ⟨by rfl⟩
instance : QX Tryz.prog 136 2 2 1 false := ⟨by rfl⟩
instance : QX Tryz.prog 136 3 3 1 false := ⟨by rfl⟩
instance : QX Tryz.prog 136 4 4 1 false := ⟨by rfl⟩
instance : QX Tryz.prog 136 5 5 1 false := ⟨by rfl⟩
instance : QX Tryz.prog 136 6 6 1 false := ⟨by rfl⟩
instance : QX Tryz.prog 136 7 7 1 false := ⟨by rfl⟩
instance : QX Tryz.prog 136 8 8 1 false := ⟨by rfl⟩
instance : QX Tryz.prog 136 9 9 1 false := ⟨by rfl⟩
instance : QX Tryz.prog 136 10 10 1 false := ⟨by rfl⟩
instance : Xe Tryz.prog 146 [.v (.int .i64 0), .v (.int .i64 0), .v (.string .empty)] := ⟨by rfl⟩
instance : U4 Tryz.prog 146 3 := ⟨by rfl, by rfl⟩
instance : QX Tryz.prog 146 0 0 1 false := ⟨by rfl⟩
instance : QX Tryz.prog 146 1 1 1 false := ⟨by rfl⟩
instance : QX Tryz.prog 146 2 2 1 false := ⟨by rfl⟩
instance : Xe Tryz.prog 157 [.v (.pointer none), .v (.int .i64 0)] := ⟨by rfl⟩
instance : QX Tryz.prog 157 0 0 1 false := ⟨by rfl⟩
instance : QX Tryz.prog 157 1 1 1 false := ⟨by rfl⟩
instance : Xe Tryz.prog 167 [.v (.int .i64 0), .v (.int .i64 0), .v (.int .i64 0), .v (.int .i64 0), .v (.int .i64 0), .v (.int .i64 0), .v (.string .empty), .v (.slice none 0 0), .v (.int .i64 0), .v (.int .i64 0), .v (.int .i64 0), .v (.int .i64 0), .v (.int .i64 0), .v (.int .i64 0), .v (.int .i64 0), .v (.int .i64 0), .v (.int .i64 0), .v (.int .i64 0), .v (.int .i64 0), .v (.int .i64 0), .v (.int .i64 0), .v (.int .i64 0), .v (.slice none 0 0)] := ⟨by rfl⟩
instance : QX Tryz.prog 167 0 0 22 true := ⟨by rfl⟩
instance : QX Tryz.prog 167 1 22 1 false := ⟨by rfl⟩
instance : Xe Tryz.prog 179 [.v (.slice none 0 0), .v (.int .i64 0)] := ⟨by rfl⟩
instance : QX Tryz.prog 179 0 0 1 false := ⟨by rfl⟩
instance : QX Tryz.prog 179 1 1 1 false := ⟨by rfl⟩
instance : Xe Tryz.prog 191 [.v (.int .u32 0)] := ⟨by rfl⟩
instance : Xe Tryz.prog 200 [.v (.int .i64 0), .v (.int .i64 0), .v (.int .i64 0), .v (.int .i64 0), .v (.int .i64 0), .v (.int .i64 0), .v (.int .i64 0), .v (.int .i64 0), .v (.int .i64 0), .v (.int .i64 0), .v (.int .i64 0), .v (.int .i64 0), .v (.int .i64 0), .v (.int .i64 0), .v (.int .i64 0), .v (.int .i64 0), .v (.int .i64 0), .v (.int .i64 0), .v (.int .i64 0), .v (.int .i64 0)] := ⟨by rfl⟩
instance : U4 Tryz.prog 200 20 := ⟨by rfl, by rfl⟩
def ei (n : Int) : T := .v (.int .i64 n)
def es (s : List UInt8) : T := .v (.string (bs s))
def eB (b : Bool) : T := .v (.bool b)
structure En where
 term : Int
 conf : Int
 cmd : List UInt8
 deriving DecidableEq, Inhabited
def een (e : En) : T := .agg [ei e.term, ei e.conf, es e.cmd]
def XZ (l : List En) : T := .sl false (l.map een)
structure F5 where
 a : Int
 b : Int
 c : Int
 d : Int
 e : Int
 deriving DecidableEq, Inhabited
def F5.get (f : F5) : Nat → Int
 | 0 => f.a
 | 1 => f.b
 | 2 => f.c
 | 3 => f.d
 | _ => f.e
def F5.set (f : F5) (i : Nat) (v : Int) : F5 := match i with
 | 0 => { f with a := v }
 | 1 => { f with b := v }
 | 2 => { f with c := v }
 | 3 => { f with d := v }
 | _ => { f with e := v }
def F5.all (v : Int) : F5 := ⟨v, v, v, v, v⟩
structure Nd where
 id : Int
 term : Int
 vote : Int
 base : Int
 baseTerm : Int
 baseConf : Int
 snap : List UInt8
 log : List En
 commit : Int
 role : Int
 wait : Int
 votes : Int
 next : F5
 mtch : F5
 deriving DecidableEq, Inhabited
def Qg (n : Nd) (lg : T) : List T := [ei n.id, ei n.term, ei n.vote, ei n.base, ei n.baseTerm, ei n.baseConf, es n.snap, lg, ei n.commit, ei n.role, ei n.wait, ei n.votes,
 ei n.next.a, ei n.next.b, ei n.next.c, ei n.next.d, ei n.next.e, ei n.mtch.a, ei n.mtch.b, ei n.mtch.c, ei n.mtch.d, ei n.mtch.e]
def nd (n : Nd) : T := .agg (Qg n (XZ n.log))
structure Ms where
 kind : Int
 frm : Int
 to : Int
 term : Int
 index : Int
 logTerm : Int
 commit : Int
 conf : Int
 yes : Bool
 entries : List En
 snap : List UInt8
 deriving DecidableEq, Inhabited
def msC (m : Ms) (es' : T) : List T := [ei m.kind, ei m.frm, ei m.to, ei m.term, ei m.index, ei m.logTerm, ei m.commit, ei m.conf, eB m.yes, es', es m.snap]
def ms (m : Ms) : T := .agg (msC m (XZ m.entries))
def mss (l : List Ms) : T := .sl false (l.map ms)
def lc (l : List En) : Nat → Option (Nat × Int)
 | 0 => none
 | k + 1 => if (l.getD k default).conf ≠ 0 then some (k, (l.getD k default).conf) else lc l k
def QA (n : Nd) : Int × Int := match lc n.log n.log.length with
 | some (k, c) => (n.base + k + 1, c)
 | none => (n.base, n.baseConf)
def MH (l : List En) (k : Nat) : List (Nat × En) := (List.range k).map fun j => (l.length - 1 - j, l.getD (l.length - 1 - j) default)
theorem Z9 (l : List En) (k : Nat) : MH l (k + 1) = MH l k ++ [(l.length - 1 - k, l.getD (l.length - 1 - k) default)] := by simp [MH, List.range_succ]
theorem Ey (l : List En) : ∀ (m k : Nat), m + k = l.length → (∀ p ∈ MH l k, p.2.conf = 0) → lc l l.length = lc l m
 | m, 0, h, _ => by
  have : m = l.length := by omega
  rw [this]
 | m, k + 1, h, h0 => by
  have h1 := Ey l (m + 1) k (by omega) (fun p hp => h0 p (by rw [Z9]; exact List.mem_append_left _ hp))
  have h2 := h0 _ (by rw [Z9]; exact List.mem_append_right _ (List.mem_singleton.2 rfl))
  have e : l.length - 1 - k = m := by omega
  rw [e] at h2
  rw [h1, lc, if_neg (by simpa using h2)]
end Go.Proofs.YtjbokbikkcfjjaaGreat
namespace Go.Cap
section
variable {K : Ctx} {P : Program} {t : Env} {H : Qd} {dst : Option Tmp} {tp : TypeId} {pos : String} {aft : Array Edge} {g : Option (Nat × Bool)} {N : Env → Qd → Prop} {ty ty' : TypeId}
theorem Lk {x y : Operand} {p : Option Addr} {n c : Nat} {f : Bool} {dy : T} {d : T} {by_ : Nat} (hx : t.ev x = .v (.slice p n c)) (hy : t.ev y = dy) (hyl : Le dy (.sl f [])) [hz : QB P ty d by_] (hs : QE P ty' = true) (hc1 : n ≤ c) :
  POp P t H ⟨dst, .call ⟨.builtin .append, #[x, y], #[ty, ty']⟩, tp, pos, aft, g⟩ (.v (.slice p n c)) :=
 POp.run fun S w a hw _ hr => by
  have h1 := hr x (by simp [Op.operands, Call.operands]); rw [hx] at h1
  have h2 := hr y (by simp [Op.operands, Call.operands]); rw [hy] at h2
  replace h2 := hyl _ _ _ h2
  obtain ⟨e, i, z, hu, hi, hzz, hsz, hp, rfl, hby⟩ := Yp hz.h
  obtain ⟨e', _, hu', _⟩ := YL hs
  have hl := Xo z
  have hk0 : 0 < (T.ofVal z).cells.length := by omega
  have e1 : (execOp a.eval ⟨dst, .call ⟨.builtin .append, #[x, y], #[ty, ty']⟩, tp, pos, aft, g⟩).run P w = ((Builtin.append_ #[ty, ty'] tp #[a.eval x, a.eval y]).run P w).andThen fun v w' => .ok (.value v) w' := by
   simp [execOp, resolve, invoke, builtin]
  rw [e1, h1.v_eq]
  have hlen := Zh (P := P) h2
  obtain ⟨us, hus, hrel, hul⟩ := Yn (P := P) h2 (fun x hx => absurd hx (by simp)) hk0 0 (Nat.zero_le _)
  have hus0 : us = [] := List.length_eq_zero_iff.1 (by omega)
  subst hus0
  rw [ZV hu hu' hi hlen hc1 (by rw [hsz, ← hl]; exact hus)]
  exact ⟨_, w, S, rfl, Q9.refl _ hw, .v _⟩
theorem OSl.capV {e : TypeId} {k : Nat} {xs : List T} {v : Value} {Hs : Qd} (h : OSl e k xs v Hs) : ∃ p c, v = .slice p xs.length c ∧ xs.length ≤ c := by
 obtain ⟨p, c, rfl⟩ := h.len
 exact ⟨p, c, rfl, h.cap⟩
theorem MD {x y : Operand} {e : TypeId} {k : Nat} {xs ys : List T} {v : Value} {A B Hs : Qd} {f : Bool} {dy d : T} {by_ : Nat} [hz : QB K.P ty d by_] (ho : OSl e k xs v Hs) (hH : H = A ++ (Hs ++ B)) (hx : t.ev x = .v v) (hy : t.ev y = dy) (hyl : Le dy (.sl f ys))
  (hkd : d.cells.length = k) (hk0 : Xc K.P ty = e) (hs : QE K.P ty' = true) (hkx : ∀ x ∈ xs, x.cells.length = k) (hky : ∀ x ∈ ys, x.cells.length = k) (hyleaf : ∀ x ∈ ys, Qx x.cells = true) (hb : (xs.length + ys.length) * by_ ≤ 140737488355328) (hm : xs.length + ys.length ≤ 9223372036854775807)
  {kd : Tmp} (hd : Nat.blt kd K.n = true) (h : ∀ v' Hs', OSl e k (xs ++ ys) v' Hs' → N ((kd, .v v') :: t) (A ++ (Hs' ++ B))) : EOp K t H ⟨some kd, .call ⟨.builtin .append, #[x, y], #[ty, ty']⟩, tp, pos, aft, g⟩ N := by
 cases ys with
 | nil =>
  obtain ⟨p, c, rfl, hc⟩ := ho.capV
  have := h _ _ (by rw [List.append_nil]; exact ho)
  rw [← hH] at this
  exact EOp.of_pop (Lk hx hy hyl hs hc) hd this
 | cons y0 ys => exact Ye ho hH hx hy hyl (by simp) hkd hk0 hs hkx hky hyleaf hb hm hd h
variable {ops : Array Oper} {i : Nat} {l : List Oper} {kd : Tmp}
theorem MG {x y : Operand} {e : TypeId} {k : Nat} {xs ys : List T} {v : Value} {A B Hs : Qd} {f : Bool} {dy d : T} {by_ : Nat} [hz : QB K.P ty d by_] (ho : OSl e k xs v Hs) (hkx : ∀ x ∈ xs, x.cells.length = k)
  (h : ∀ v' Hs', OSl e k (xs ++ ys) v' Hs' → Qi K ops (i + 1) l ((kd, .v v') :: t) (A ++ (Hs' ++ B)) N) (hH : H = A ++ (Hs ++ B) := by rfl) (hx : t.ev x = .v v := by exact zl) (hy : t.ev y = dy := by exact zl) (hyl : Le dy (.sl f ys) := by exact zL)
  (hkd : d.cells.length = k := by rfl) (hk0 : Xc K.P ty = e := by rfl) (hs : QE K.P ty' = true := by rfl) (hky : ∀ x ∈ ys, x.cells.length = k := by exact zk) (hyleaf : ∀ x ∈ ys, Qx x.cells = true := by exact zf)
  (hb : (xs.length + ys.length) * by_ ≤ 140737488355328 := by exact zo) (hm : xs.length + ys.length ≤ 9223372036854775807 := by exact zo) (hd : Nat.blt kd K.n = true := by rfl) :
  Qi K ops i (⟨some kd, .call ⟨.builtin .append, #[x, y], #[ty, ty']⟩, tp, pos, aft, none⟩ :: l) t H N := Yw (MD ho hH hx hy hyl hkd hk0 hs hkx hky hyleaf hb hm hd h)
theorem Ll {x y : Operand} {n : Nat} {k : IntKind} {d : T} {by_ : Nat} (hx : t.ev x = .v (.slice none 0 0)) (hy : t.ev y = .v (.int .i64 n)) [hz : QB K.P ty d by_] (hs : P.underlying ty' = some (.int k)) (hP : P = K.P) (h0 : 0 < n) (hb : n * by_ ≤ 140737488355328) (hm : n ≤ 9223372036854775807)
  {kd : Tmp} (hd : Nat.blt kd K.n = true)
  (h : ∀ b c, (∀ c ∈ keys H, ¬ c = b) → n ≤ c → N ((kd, .v (.slice (some ⟨b, 0, none⟩) n c)) :: t) ((b, ⟨Xc K.P ty, [], c * d.cells.length⟩) :: H)) :
  EOp K t H ⟨some kd, .call ⟨.builtin .append, #[x, y], #[ty, ty']⟩, tp, pos, aft, g⟩ N := by
 subst hP
 refine EOp.of_w (fun c e => by cases e) ?_
 intro a w ⟨S, hr⟩ Kc Q hk
 have h1 := hr.env.ev x; rw [hx] at h1
 have h2 := hr.env.ev y; rw [hy] at h2
 obtain ⟨e, i, z, hu, hi, hzz, hsz, hp, rfl, hby⟩ := Yp hz.h
 have hl := Xo z
 have hee : Xc K.P ty = e := by unfold Xc; rw [hu]
 have e1 : (execOp a.eval ⟨some kd, .call ⟨.builtin .append, #[x, y], #[ty, ty']⟩, tp, pos, aft, g⟩).run K.P w = ((Builtin.append_ #[ty, ty'] tp #[a.eval x, a.eval y]).run K.P w).andThen fun v w' => .ok (.value v) w' := by
  simp [execOp, resolve, invoke, builtin]
 have hrun : (Builtin.append_ #[ty, ty'] tp #[.slice none 0 0, .int .i64 n]).run K.P w = .ok (.slice (some ⟨w.heap.size, 0, none⟩) n (grownCap w n 0 e))
   (w.drew.alloc (.cells (Builtin.zeroCells z.cells n ++ Builtin.zeroCells z.cells (grownCap w n 0 e - n)) e)) := by
  have hw64 : IntKind.i64.wrap (n : Int) = n := by simp [IntKind.wrap, IntKind.bits, IntKind.signed]; omega
  have h1' : ¬ (n = 0) := by omega
  have hz0 : 0 < z.cells.size := by omega
  have h48 : ¬ (281474976710656 < (n : Int) * (i.bytes : Int)) := by
   have : n * i.bytes ≤ 140737488355328 := by rw [hby]; exact hb
   have h3 : ((n * i.bytes : Nat) : Int) = (n : Int) * (i.bytes : Int) := by push_cast; rfl
   omega
  have h48' : ¬ (281474976710656 < Builtin.nextslicecap n 0 * i.bytes) := by
   unfold Builtin.nextslicecap
   rw [if_pos (by omega)]
   have : n * i.bytes ≤ 140737488355328 := by rw [hby]; exact hb
   omega
  have h63 : ¬ (9223372036854775807 < (n : Int)) := by omega
  have hsz0 : ¬ (i.size = 0) := by omega
  have hneg : ¬ ((n : Int) < 0) := by omega
  simp [Builtin.append_, run_underlying hu, run_underlying hs, sizeOf, typeInfo, zeroValue, asInt, asIntOf, hi, hzz, hw64, h1', h48, h48', h63, hsz0, hneg, Question.forced, Builtin.firstCells, newRow, grownCap]
  intro h; exact absurd h (by have : 0 < n * i.size := Nat.mul_pos h0 (by omega); omega)
 unfold Oper.wp
 rw [e1, h1.v_eq, h2.v_eq, hrun]
 have hcap : n ≤ grownCap w n 0 e := Nat.le_add_right _ _
 have hrd : R1 K t H a w.drew S := ⟨hr.size, hr.defers.step Xz (fun _ _ h _ => h) (Nat.le_refl _), hr.step.trans (Yk hr.wf []) (by simp), hr.own.step (Yk hr.wf []) hr.wf (by simp) (by simp), hr.mine, hr.env.mono Xz⟩
 have hcm : n * (T.ofVal z).cells.length ≤ grownCap w n 0 e * (T.ofVal z).cells.length := Nat.mul_le_mul_right _ hcap
 have hzs : (grownCap w n 0 e - n) * (T.ofVal z).cells.length = grownCap w n 0 e * (T.ofVal z).cells.length - n * (T.ofVal z).cells.length := Nat.sub_mul _ _ _
 have hfr := hrd.fresh (dst := some kd) (d := .v (.slice (some ⟨w.heap.size, 0, none⟩) n (grownCap w n 0 e)))
  (k := ⟨Xc K.P ty, [], grownCap w n 0 e * (T.ofVal z).cells.length⟩)
  (cs := Builtin.zeroCells z.cells n ++ Builtin.zeroCells z.cells (grownCap w n 0 e - n))
  (by simp only [Array.size_append, Zm, ← hl]; omega) (by simp) (by simp; exact .nil) hd (.v _)
 rw [hee] at hfr
 have hh := h w.heap.size _ (Y6 hr) hcap
 rw [hee] at hh
 exact hk _ _ _ _ hh ⟨S, hfr⟩
theorem Sv {x y : Operand} {n : Nat} {k : IntKind} {d : T} {by_ : Nat} [hz : QB K.P ty d by_] (h : ∀ b c, (∀ c ∈ keys H, ¬ c = b) → n ≤ c → Qi K ops (i + 1) l ((kd, .v (.slice (some ⟨b, 0, none⟩) n c)) :: t) ((b, ⟨Xc K.P ty, [], c * d.cells.length⟩) :: H) N) (hx : t.ev x = .v (.slice none 0 0) := by exact zl) (hy : t.ev y = .v (.int .i64 n) := by exact zl)
  (hs : K.P.underlying ty' = some (.int k) := by rfl) (h0 : 0 < n := by exact zo) (hb : n * by_ ≤ 140737488355328 := by exact zo) (hm : n ≤ 9223372036854775807 := by exact zo) (hd : Nat.blt kd K.n = true := by rfl) :
  Qi K ops i (⟨some kd, .call ⟨.builtin .append, #[x, y], #[ty, ty']⟩, tp, pos, aft, none⟩ :: l) t H N := Yw (Ll hx hy hs rfl h0 hb hm hd h)
theorem HQ {x : Operand} {p : Option Addr} {n c : Nat} {ats : Array TypeId} (hx : t.ev x = .v (.slice p n c) := by exact zl) (ha : ats = #[ty] := by rfl) (hs : QE P ty = true := by rfl) : POp P t H ⟨dst, .call ⟨.builtin .cap, #[x], ats⟩, tp, pos, aft, g⟩ (.v (.int .i64 c)) :=
 POp.still fun S w a _ _ hr => by
  have h1 := hr x (by simp [Op.operands, Call.operands]); rw [hx] at h1
  subst ha
  refine ⟨_, ?_, .v _⟩
  obtain ⟨e, _, hu, _⟩ := YL hs
  simp [execOp, resolve, invoke, builtin, h1.v_eq, Builtin.cap_, run_underlying hu, goInt]
theorem CB (w : World) (cs : Array Value) (e : TypeId) : (markStringish ⟨w.heap.size, 0, none⟩).run P (w.alloc (.cells cs e)) = .ok () ((w.alloc (.cells cs e)).freeze ⟨w.heap.size, cs.size, none⟩ 1) := by
 have h : (w.alloc (.cells cs e)).shape? w.heap.size = some (e, cs.size) := by
  unfold World.shape?
  rw [ZO]
 simp [markStringish, h]
theorem Oi (w : World) (cs : Array Value) (e : TypeId) (b : Nat) : ((w.alloc (.cells cs e)).freeze ⟨w.heap.size, cs.size, none⟩ 1).heap[b]? = if b = w.heap.size then some (.cells cs e (cs.size, cs.size + 1)) else w.heap[b]? := by
 unfold World.freeze
 rw [if_neg (by simp)]
 simp only [Array.getElem?_modify]
 by_cases hb : b = w.heap.size
 ·subst hb
  rw [if_pos rfl, ZO]
  simp
 ·rw [if_neg (fun h => hb h.symm), if_neg hb]
  by_cases h : b < w.heap.size
  ·exact YO w _ h
  ·rw [Array.getElem?_eq_none (by simp; omega), Array.getElem?_eq_none (by omega)]
theorem Dc {S : Nat → Prop} {w : World} : ∀ (l : List UInt8), QF S w (l.map eb) (l.map fun b => Value.int .u8 b.toNat)
 | [] => .nil
 | b :: l => .cons _ _ _ _ (.v _) (Dc l)
theorem I0 : ∀ (l : List UInt8), (l.map fun b => Value.int .u8 b.toNat).flatMap (fun v => v.cells.toList) = l.map fun b => Value.int .u8 b.toNat
 | [] => rfl
 | b :: l => by rw [List.map_cons, List.flatMap_cons, I0 l]; rfl
theorem CS {x : Operand} {l : List UInt8} (hx : t.ev x = .v (.string (bs l))) (h1 : Wk P ty = true) (h2 : Z7 P ty' = true) : POp P t H ⟨dst, .convert ty ty' x, tp, pos, aft, g⟩ (.sl false (l.map eb)) :=
 POp.run fun S w a hw _ hr => by
  have hv := hr x (by simp [Op.operands]); rw [hx] at hv
  obtain ⟨e, he, he2⟩ := OF h2
  have hs := Az h1
  have hlen : (bs l).size = l.length := by simp [bs, ByteArray.size]
  have hsz : (((bs l).data.map fun b => Value.int .u8 b.toNat) ++ Array.replicate (grownCap w l.length 0 e - l.length) (Value.int .u8 0)).size = grownCap w l.length 0 e := by
   have h1 : l.length ≤ grownCap w l.length 0 e := Nat.le_add_right _ _
   have h2 : (bs l).data.size = l.length := hlen
   simp [h2]; omega
  have hl0 : (((bs l).data.map fun b => Value.int .u8 b.toNat) ++ Array.replicate (grownCap w l.length 0 e - l.length) (Value.int .u8 0)).toList = (l.map fun b => Value.int .u8 b.toNat) ++ List.replicate (grownCap w l.length 0 e - l.length) (Value.int .u8 0) := by
   simp [bs]
  have hcap : l.length ≤ grownCap w l.length 0 e := Nat.le_add_right _ _
  have hrun : ∀ cs, cs = ((bs l).data.map fun b => Value.int .u8 b.toNat) ++ Array.replicate (grownCap w l.length 0 e - l.length) (Value.int .u8 0) → (Conv.stringToBytes e (bs l)).run P w = .ok (.slice (some ⟨w.heap.size, 0, none⟩) l.length (grownCap w l.length 0 e)) ((w.drew.alloc (.cells cs e)).freeze ⟨w.drew.heap.size, cs.size, none⟩ 1) := by
   intro cs hcs
   have hm := CB (P := P) w.drew cs e
   rw [show w.drew.heap.size = w.heap.size from rfl] at hm ⊢
   have hcut : (choose (.appendCap l.length 0 e)).run P w = .ok (grownCap w l.length 0 e) w.drew := by simp [Question.forced, grownCap]
   have hnew : (newRow e cs).run P w.drew = .ok ⟨w.heap.size, 0, none⟩ (w.drew.alloc (.cells cs e)) := by simp [newRow]
   have hm' : (markStringish ⟨w.heap.size, 0, none⟩).run P (w.drew.alloc (.cells cs e)) = .ok () ((w.drew.alloc (.cells cs e)).freeze ⟨w.heap.size, cs.size, none⟩ 1) := hm
   unfold Conv.stringToBytes
   rw [Sem.run_bind, hlen, hcut, Result.andThen_ok]
   show ((do let a ← newRow e (((bs l).data.map fun b => Value.int .u8 b.toNat) ++ Array.replicate (grownCap w l.length 0 e - (bs l).size) (Value.int .u8 0)); markStringish a; pure (Value.slice (some a) (bs l).size (grownCap w l.length 0 e)) : Sem Value)).run P w.drew = _
   rw [hlen, ← hcs]
   rw [Sem.run_bind, hnew, Result.andThen_ok, Sem.run_bind, hm', Result.andThen_ok]
   rfl
  generalize ((bs l).data.map fun b => Value.int .u8 b.toNat) ++ Array.replicate (grownCap w l.length 0 e - l.length) (Value.int .u8 0) = cs at hsz hl0 hrun
  have hrun := hrun cs rfl
  have hh := Oi w.drew cs e
  have hnew := (hh w.drew.heap.size).trans (if_pos rfl)
  have hold : ∀ b, b < w.heap.size → ((w.drew.alloc (.cells cs e)).freeze ⟨w.drew.heap.size, cs.size, none⟩ 1).heap[b]? = w.heap[b]? := fun b hb => (hh b).trans (if_neg (by have : w.drew.heap.size = w.heap.size := rfl; omega))
  have hfs : ((w.drew.alloc (.cells cs e)).freeze ⟨w.drew.heap.size, cs.size, none⟩ 1).heap.size = w.heap.size + 1 := by
   unfold World.freeze
   rw [if_neg (by simp)]
   simp only [Array.size_modify]
   simp
  have hst : Q9 [] S w (Ju S w) ((w.drew.alloc (.cells cs e)).freeze ⟨w.drew.heap.size, cs.size, none⟩ 1) :=
   ⟨rfl, rfl, rfl, by omega, fun b hb _ => hold b hb, fun b hb => .inl hb, fun b hb => hb.elim .inl fun e => .inr (.inl (Nat.le_of_eq e.symm)), fun b hb => by
    rw [hfs]; rcases hb with hb | hb
    ·exact Nat.lt_succ_of_lt (hw b hb)
    ·omega⟩
  refine ⟨.slice (some ⟨w.heap.size, 0, none⟩) l.length (grownCap w l.length 0 e), _, Ju S w, ?_, hst, ?_⟩
  rotate_left
  ·have := Rel.sl (S := Ju S w) (w := (w.drew.alloc (.cells cs e)).freeze ⟨w.drew.heap.size, cs.size, none⟩ 1) false (l.map eb) w.heap.size 0 (grownCap w l.length 0 e) (l.map fun b => Value.int .u8 b.toNat) 1 cs e _ (.inr rfl) hnew (Dc l)
    ⟨by simp [Value.cells], by
     rw [hl0]
     simp only [List.drop_zero, List.length_map, Nat.mul_one]
     rw [List.take_left' (by simp)]
     exact (I0 l).symm⟩ (fun h => by cases h) (by simpa using hcap)
   simpa using this
  ·have hcv : (convert ty ty' (a.eval x)).run P w = .ok (.slice (some ⟨w.heap.size, 0, none⟩) l.length (grownCap w l.length 0 e)) ((w.drew.alloc (.cells cs e)).freeze ⟨w.drew.heap.size, cs.size, none⟩ 1) := by
    unfold convert
    rw [hv.v_eq]
    simp [run_underlying he, run_underlying hs, run_underlying he2, hrun]
   simp [execOp, hcv]
theorem SW {x : Operand} {l : List UInt8} (hx : t.ev x = .v (.string (bs l)) := by exact zl) (h1 : Wk P ty = true := by rfl) (h2 : Z7 P ty' = true := by rfl) : POp P t H ⟨dst, .convert ty ty' x, tp, pos, aft, g⟩ (.sl false (l.map eb)) := CS hx h1 h2
end
section
variable {P : Program}
def Lv (K : Ctx) (Φ : T → Qd → Prop) (e : Ending) (w' : World) : Prop :=
 ∃ u S' r H', e = .returned u ∧ Φ r H' ∧ Rel S' w' r u ∧ Own S' w' H' ∧ Q9 K.F0 K.S0 K.w0 S' w' ∧ ∀ b ∈ keys H', b ∈ K.F0 ∨ K.w0.heap.size ≤ b
def M2 (K : Ctx) (fn : Func) (c : Code) (t : Env) (H : Qd) (Φ : T → Qd → Prop) : Prop :=
 ∀ a w, R K t H a w → c.wpIn (RF K.rd) 0 K.P (bodyPostM (RF K.rd) 0 K.P fn (Lv K Φ)) a w
theorem Vj {f : FuncId} {fn : Func} {c : Code} {args : List T} {H : Qd} {Φ : T → Qd → Prop} (hf : P.funcs[f]? = some fn) (hb : fn.body = some c)
  (hn : Nat.ble args.length fn.ntmps = true)
  (h : ∀ (S0 : Nat → Prop) (w0 : World), Wf S0 w0 → M2 ⟨P, fn.ntmps, S0, w0, keys H, none, Uy.none, w0.heap.size, []⟩ fn c ((List.range args.length).zip args) H Φ) : FnH P f args H Φ := by
 intro S w vs hw ho hr
 have hl := hr.length
 have hn' : args.length ≤ fn.ntmps := Nat.le_of_ble_eq_true hn
 refine (callsIn_wide (n := 0)).1 (callsIn_of_wp_marks hf hb trivial ?_)
 exact h S w hw { tmps := vs.toArray ++ Array.replicate (fn.ntmps - vs.toArray.size) undef, defers := [] } w
  ⟨S, by simp; omega, ⟨Nat.le_refl _, Mks.zero, fun _ _ => trivial⟩, Q9.refl _ hw, ho, fun b hb => .inl hb, Ws hr fn.ntmps⟩
section
variable {K : Ctx} {fn : Func} {t : Env} {H : Qd} {Φ : T → Qd → Prop} {x y : Code}
theorem UI (h : Sim K x t H (fun e t' H' => e = .normal ∧ M2 K fn y t' H' Φ)) : M2 K fn (.seq x y) t H Φ := by
 intro a w hr
 refine wpIn_seq (wpIn_mono (h a w hr) ?_)
 rintro e a' w' ⟨t', H', ⟨rfl, hp⟩, hr'⟩
 exact hp a' w' hr'
def J9 (K : Ctx) (fn : Func) (ops : Array Oper) (y : Code) (Φ : T → Qd → Prop) (i : Nat) (l : List Oper) (t : Env) (H : Qd) : Prop :=
 (∀ j, l[j]? = ops[i + j]?) → ∀ a w, R K t H a w → wpOpsIn (RF K.rd) 0 K.P ops (Exit.then (y.wpIn (RF K.rd) 0 K.P (bodyPostM (RF K.rd) 0 K.P fn (Lv K Φ))) (bodyPostM (RF K.rd) 0 K.P fn (Lv K Φ))) (List.range' i l.length) a w
theorem Jy {id : Nat} {ops : Array Oper} (h : J9 K fn ops y Φ 0 ops.toList t H) : M2 K fn (.seq (.region id ops false) y) t H Φ := by
 intro a w hr
 refine wpIn_seq (wpIn_region ?_)
 have := h (fun j => by simp) a w hr
 rw [List.range_eq_range']
 simpa using this
theorem d_e {ops : Array Oper} {i : Nat} {o : Oper} {l : List Oper} (hg : o.guard = none) (h : EOp K t H o (fun t' H' => J9 K fn ops y Φ (i + 1) l t' H')) : J9 K fn ops y Φ i (o :: l) t H := by
 intro hl a w hr
 rw [UD]
 unfold wpOpIn
 simp only [ML hl, Xl hg a, if_true]
 exact h a w hr _ _ fun t' H' a' w' hn hr' => hn (WD hl) a' w' hr'
theorem d_s {ops : Array Oper} {i kd : Nat} {op : Op} {tp : TypeId} {pos : String} {aft : Array Edge} {l : List Oper} {d : T} (hp : POp K.P t H ⟨some kd, op, tp, pos, aft, none⟩ d) (h : J9 K fn ops y Φ (i + 1) l ((kd, d) :: t) H) (hd : Nat.blt kd K.n = true := by rfl) :
  J9 K fn ops y Φ i (⟨some kd, op, tp, pos, aft, none⟩ :: l) t H := d_e rfl (EOp.of_pop hp hd h)
theorem Gj {S : Nat → Prop} {w : World} : ∀ {vs ys : List Value}, QF S w (vs.map T.v) ys → ys = vs
 | [], _, h => by cases h; rfl
 | v :: vs, _, h => by
  cases h with
  | cons _ y _ ys h1 h2 => rw [Gj h2, h1.v_eq]
theorem LE {ops : Array Oper} {i : Nat} {x : Operand} {tp : TypeId} {pos : String} {aft : Array Edge} {f : FuncId} (vs : List Value) (h : M2 { K with D := [⟨.fn (.func f) vs.toArray, #[]⟩] } fn y t H Φ) (hD : K.D = []) (hrd : K.rd = none)
  (hx : t.ev x = .clo f [] (vs.map T.v)) : J9 K fn ops y Φ i [⟨none, .defer ⟨.value x, #[], #[]⟩, tp, pos, aft, none⟩] t H := by
 intro hl a w hr
 rw [UD]
 unfold wpOpIn
 simp only [ML hl, Xl (o := ⟨none, .defer ⟨.value x, #[], #[]⟩, tp, pos, aft, none⟩) rfl a, if_true]
 obtain ⟨S, hr1⟩ := hr
 have hv : a.eval x = .func (.func f) #[] vs.toArray := by
  have h1 := hr1.env.ev x
  rw [hx] at h1
  generalize a.eval x = z at h1
  cases h1 with
  | clo _ _ _ us ws h2 h3 =>
   cases h2
   rw [Gj h3]
 have he : (execOp a.eval ⟨none, .defer ⟨.value x, #[], #[]⟩, tp, pos, aft, none⟩).run K.P w = .ok (.defer ⟨.fn (.func f) vs.toArray, #[]⟩) w := by
  show (do let d ← resolve a.eval ⟨.value x, #[], #[]⟩ tp; pure (.defer d) : Sem Next).run K.P w = _
  unfold resolve
  simp [hv, Deferred.ofValue]
 refine ⟨fun _ _ => trivial, ?_⟩
 rw [show (RF K.rd).round = none from hrd, Oper.semAt_none, he, Oper.uponIn_defer]
 show wpOpsIn _ _ _ _ _ (List.range' (i + 1) 0) _ _
 refine h _ _ ⟨S, hr1.size, ⟨hr1.defers.low, ?_, hr1.defers.flags⟩, hr1.step, hr1.own, hr1.mine, hr1.env⟩
 obtain ⟨ms, ms0, h0, h1, h2⟩ := hr1.defers.marks
 rw [hD, List.nil_append] at h0
 refine ⟨[], ms ++ ms0, ?_, by simpa using h1, by simpa using h2⟩
 show (⟨.fn (.func f) vs.toArray, #[]⟩ : Deferred) :: a.defers = _
 rw [h0]
 rfl
theorem JI {fn : Func} {tmps : Array Value} {Q : Ending → World → Prop} {rest : List Deferred} {rd : Option Nat} : ∀ (ds : List Deferred) (w : World), ds.Nodup → (∀ d ∈ ds, ∃ D, d = ⟨.collected D, #[]⟩ ∧ w.heap[D]? = some (.deferred (some []))) →
  (∀ w', w'.os = w.os → w'.tape = w.tape → w'.output = w.output → w'.heap.size = w.heap.size → (∀ b, (⟨.collected b, #[]⟩ : Deferred) ∉ ds → w'.heap[b]? = w.heap[b]?) → LeavesInM (RF rd) 0 P fn tmps Q rest .returning w') →
  LeavesInM (RF rd) 0 P fn tmps Q (ds ++ rest) .returning w
 | [], w, _, _, h => h w rfl rfl rfl rfl fun _ _ => rfl
 | d :: ds, w, hn, hm, h => by
  obtain ⟨D, rfl, hk⟩ := hm d List.mem_cons_self
  have hn' := List.nodup_cons.1 hn
  refine ⟨by simp, .inl ⟨D, w.putObj D (.deferred none), rfl, run_takeDeferred hk, ?_⟩⟩
  refine JI ds _ hn'.2 (fun e he => ?_) fun w' h1 h2 h3 h4 h5 => ?_
  ·obtain ⟨E, rfl, hke⟩ := hm e (List.mem_cons_of_mem _ he)
   refine ⟨E, rfl, ?_⟩
   rw [World.putObj_heap_other (fun e => hn'.1 (by rw [← e]; exact he))]; exact hke
  ·refine h w' (h1.trans rfl) (h2.trans rfl) (h3.trans rfl) (by rw [h4]; simp) fun b hb => ?_
   rw [h5 b (fun hm => hb (List.mem_cons_of_mem _ hm)), World.putObj_heap_other (fun e => hb (by rw [e]; exact List.mem_cons_self))]
end
def DfH (P : Program) (f : FuncId) (vs : Array Value) (H : Qd) (Φ : Qd → Prop) : Prop :=
 ∀ (S : Nat → Prop) (w : World), Wf S w → Own S w H → CallsDIn (RF none) 0 P f vs .returning w fun e u' w' =>
  u' = .returning ∧ ∃ v S' H', e = .returned v ∧ Φ H' ∧ Own S' w' H' ∧ Q9 (keys H) S w S' w' ∧ ∀ b ∈ keys H', b ∈ keys H ∨ w.heap.size ≤ b
def SZ (P : Program) (fn : Func) (f : FuncId) (vs : Array Value) (Φ : T → Qd → Prop) (e : Exit) (t : Env) (H : Qd) : Prop :=
 match e with
 | .normal | .ret => ∃ Φ1 : Qd → Prop, DfH P f vs H Φ1 ∧ ∀ H1, Φ1 H1 → ∃ ds r H2, ZE P t H1 fn.results.toList ds ∧ Le (Yv ds) r ∧ Φ r H2 ∧ ((keys H1).Nodup → X2 H1 H2)
 | _ => False
theorem V5 {K : Ctx} {fn : Func} {t : Env} {H : Qd} {Φ : T → Qd → Prop} {c : Code} {f : FuncId} {vs : Array Value} (hw0 : Wf K.S0 K.w0) (h : Sim K c t H (SZ K.P fn f vs Φ)) (hf : QT K.P f = true := by kernel_rfl) (hD : K.D = [⟨.fn (.func f) vs, #[]⟩] := by rfl)
  (hrd : K.rd = none := by rfl) (hmb : K.mb = K.w0.heap.size := by rfl) : M2 K fn c t H Φ := by
 intro a w hr
 refine wpIn_mono (h a w hr) ?_
 rintro e a' w' ⟨t', H', hp, S', hr'⟩
 have fin : (∃ Φ1 : Qd → Prop, DfH K.P f vs H' Φ1 ∧ ∀ H1, Φ1 H1 → ∃ ds r H2, ZE K.P t' H1 fn.results.toList ds ∧ Le (Yv ds) r ∧ Φ r H2 ∧ ((keys H1).Nodup → X2 H1 H2)) → LeavesInM (RF K.rd) 0 K.P fn a'.tmps (Lv K Φ) a'.defers .returning w' := by
  rintro ⟨Φ1, hdf, hres⟩
  obtain ⟨ms, ms0, hds, hnd, hmk⟩ := hr'.defers.marks
  rw [hds, hD]
  obtain ⟨hn1, hn2, hdisj⟩ := List.nodup_append.1 hnd
  let B : Nat → Prop := fun b => (⟨.collected b, #[]⟩ : Deferred) ∈ ms ++ ms0
  have hB : ∀ b, B b → K.w0.heap.size ≤ b ∧ w'.heap[b]? = some (.deferred (some [])) := fun b hb => by
   obtain ⟨D, h0, h1, h2⟩ := hmk _ hb
   cases h0
   exact ⟨hmb ▸ h1, h2⟩
  have hBc : ∀ b, B b → ∀ cs ty fz, w'.heap[b]? ≠ some (.cells cs ty fz) := fun b hb cs ty fz => by rw [(hB b hb).2]; simp
  refine JI ms w' hn1 (fun d hd => let ⟨D, h1, _, h3⟩ := hmk d (List.mem_append_left _ hd); ⟨D, h1, h3⟩) fun w2 e1 e2 e3 e4 e5 => ?_
  have e5' : ∀ b, ¬ B b → w2.heap[b]? = w'.heap[b]? := fun b hb => e5 b fun h => hb (List.mem_append_left _ h)
  have hm : ∀ b, (S' b ∧ ¬ B b) → (S' b ∧ ¬ B b) ∧ w2.heap[b]? = w'.heap[b]? := fun b hb => ⟨hb, e5' b hb.2⟩
  have henv2 : Jq (fun b => S' b ∧ ¬ B b) w2 t' a' := fun k => (Rel.shrink hBc (hr'.env k)).mono hm
  have hown2 : Own (fun b => S' b ∧ ¬ B b) w2 H' := ⟨hr'.own.nodup, fun b hb hS => hr'.own.apart b hb hS.1, fun p hp => by
   exact (hr'.own.has p hp).shrunk hBc (fun b hb ms c => by rw [(hB b hb).2]; simp) (fun hnb => e5' p.1 hnb) hm⟩
  have hst2 : Q9 K.F0 K.S0 K.w0 (fun b => S' b ∧ ¬ B b) w2 := ⟨e1.trans hr'.step.os, e2.trans hr'.step.tape, e3.trans hr'.step.output, by rw [e4]; exact hr'.step.size,
   fun b hb hn => (e5' b (fun hbm => absurd hb (Nat.not_lt.2 (hB b hbm).1))).trans (hr'.step.keep b hb hn), fun b hb => ⟨hr'.step.sub b hb, fun hbm => absurd (hw0 b hb) (Nat.not_lt.2 (hB b hbm).1)⟩, fun b hb => hr'.step.new b hb.1, fun b hb => by rw [e4]; exact hr'.step.wf b hb.1⟩
  refine ⟨by simp, .inr ⟨fun hh => Bool.noConfusion (show false = true from hh), .func f, vs, f, vs, rfl, ?_, fun _ _ => trivial, ?_⟩⟩
  ·show (callFunc f (#[] ++ vs)).run K.P w2 = _
   rw [Array.empty_append]
   exact ZK hf vs w2
  rw [hrd]
  refine CallsDIn.mono (hdf _ w2 hst2.wf hown2) ?_
  rintro e u' w3 ⟨rfl, v, S3, H1, rfl, hΦ1, hown3, hst3, hkeys⟩
  show LeavesInM (RF none) 0 K.P fn a'.tmps (Lv K Φ) ([] ++ ms0) .returning w3
  rw [List.nil_append]
  have hmk3 : ∀ d ∈ ms0, ∃ D, d = ⟨.collected D, #[]⟩ ∧ w3.heap[D]? = some (.deferred (some [])) := fun d hd => by
   obtain ⟨D, rfl, h1, h2⟩ := hmk d (List.mem_append_right _ hd)
   refine ⟨D, rfl, ?_⟩
   have h3 : w2.heap[D]? = some (.deferred (some [])) := (e5 D fun hh => hdisj _ hh _ hd rfl).trans h2
   exact (hst3.keep D (Array.getElem?_eq_some_iff.1 h3).1 (hown2.obj h3 rfl)).trans h3
  have := JI (P := K.P) (fn := fn) (tmps := a'.tmps) (Q := Lv K Φ) (rest := []) (rd := none) ms0 w3 hn2 hmk3 fun w4 f1 f2 f3 f4 f5 => ?_
  ·rwa [List.append_nil] at this
  have hS3 : ∀ b, S3 b → (⟨.collected b, #[]⟩ : Deferred) ∉ ms0 := fun b hb hm0 => by
   have hBb : B b := List.mem_append_right _ hm0
   have hlt := (Array.getElem?_eq_some_iff.1 (hB b hBb).2).1
   rcases hst3.new b hb with h | h | h
   ·exact h.2 hBb
   ·omega
   ·exact hr'.own.obj (hB b hBb).2 rfl h
  have hm4 : ∀ b, S3 b → S3 b ∧ w4.heap[b]? = w3.heap[b]? := fun b hb => ⟨hb, f5 b (hS3 b hb)⟩
  have henv4 : Jq S3 w4 t' a' := (henv2.mono (hst3.mono hst2.wf hown2.apart)).mono hm4
  obtain ⟨ds, r, H2, r1, r2, r3, r4⟩ := hres H1 hΦ1
  have hle := r4 hown3.nodup
  have hown4 : Own S3 w4 H1 := ⟨hown3.nodup, hown3.apart, fun p hp => by
   obtain ⟨o, h1, h2⟩ := (hown3.has p hp).isMem
   refine (hown3.has p hp).mono (f5 p.1 fun hm0 => ?_) hm4
   obtain ⟨D, hD0, hD1⟩ := hmk3 _ hm0
   cases hD0
   rw [h1] at hD1; cases hD1; cases h2⟩
  obtain ⟨u, hu, hrel⟩ := W7 (P := K.P) henv4 hown4 r1
  have hs := hst2.trans hst3 hr'.mine
  have hst4 : Q9 K.F0 K.S0 K.w0 S3 w4 := ⟨f1.trans hs.os, f2.trans hs.tape, f3.trans hs.output, by rw [f4]; exact hs.size,
   fun b hb hn => (f5 b (fun hbm => absurd hb (Nat.not_lt.2 (hB b (List.mem_append_right _ hbm)).1))).trans (hs.keep b hb hn), hs.sub, hs.new, fun b hb => by rw [f4]; exact hs.wf b hb⟩
  refine ⟨u, hu, u, S3, r, H2, rfl, r3, r2 _ _ _ hrel, hown4.le hle, hst4, fun b hb => ?_⟩
  rcases hkeys b (hle.sub b hb) with h | h
  ·exact hr'.mine b h
  ·exact .inr (Nat.le_trans hst2.size h)
 cases e with
 | normal => exact fin hp
 | ret => exact fin hp
 | _ => exact hp.elim
theorem C4 {fr : Frame} {cs : List Frame} (hm : fr.mode = .returning) : ∀ (ds : List Deferred) (w : World), fr.defers = ds → ds.Nodup → (∀ d ∈ ds, ∃ D, d = ⟨.collected D, #[]⟩ ∧ w.heap[D]? = some (.deferred (some []))) →
  ∃ w', StepsIn (Machine.fenced P (RF none)) P (lone fr cs w) (lone { fr with defers := [] } cs w') ∧ w'.os = w.os ∧ w'.tape = w.tape ∧ w'.output = w.output ∧ w'.heap.size = w.heap.size ∧ ∀ b, (⟨.collected b, #[]⟩ : Deferred) ∉ ds → w'.heap[b]? = w.heap[b]? := by
 intro ds
 induction ds generalizing fr with
 | nil => exact fun w hd _ _ => ⟨w, by rw [← hd]; exact StepsIn.refl _, rfl, rfl, rfl, rfl, fun _ _ => rfl⟩
 | cons d ds ih =>
  intro w hd hn hk
  obtain ⟨D, rfl, hk0⟩ := hk d List.mem_cons_self
  have hn' := List.nodup_cons.1 hn
  have hrun : fr.mode ≠ .run := by rw [hm]; simp
  have h1 := step_collected (P := P) (cs := cs) hrun hd rfl (run_takeDeferred hk0)
  have i1 : (lone fr cs w).fenced P (RF none) := fenced_out (n := 0) trivial (Ut _ _) hrun hd (fun g hg => by simp [Target.leads] at hg)
  obtain ⟨w', s1, s2, s3, s4, s5, s6⟩ := ih (fr := { fr with defers := [] ++ ds }) hm (w.putObj D (.deferred none)) rfl hn'.2 (fun e he => by
   obtain ⟨E, rfl, hE⟩ := hk e (List.mem_cons_of_mem _ he)
   refine ⟨E, rfl, ?_⟩
   rw [World.putObj_heap_other (fun e => hn'.1 (by rw [← e]; exact he))]; exact hE)
  refine ⟨w', .head i1 h1 s1, s2, s3, s4, by rw [s5]; simp, fun b hb => ?_⟩
  rw [s6 b fun h => hb (List.mem_cons_of_mem _ h), World.putObj_heap_other (fun e => hb (by rw [e]; exact List.mem_cons_self))]
theorem DN {f : FuncId} {fn : Func} {c : Code} {vs : List Value} {H : Qd} {Φ : Qd → Prop} (hf : P.funcs[f]? = some fn) (hb : fn.body = some c) (hn : Nat.ble vs.length fn.ntmps = true) (hres : fn.results = #[])
  (h : ∀ (S0 : Nat → Prop) (w0 : World), Sim ⟨P, fn.ntmps, S0, w0, keys H, none, Uy.none, w0.heap.size, []⟩ c ((List.range vs.length).zip (vs.map T.v)) H (fun e _ H' => (e = .normal ∨ e = .ret) ∧ ∃ H2, Qp H' H2 ∧ Φ H2)) : DfH P f vs.toArray H Φ := by
 intro S w hw ho
 refine ⟨trivial, fun c₀ cs hu _ => ?_⟩
 let b : Frame := { (default : Frame) with fn := f, kind := .deferred, roundOf := none }
 have hn' : vs.length ≤ fn.ntmps := Nat.le_of_ble_eq_true hn
 have henter : Frame.enter P f vs.toArray .deferred = b.atR { tmps := vs.toArray ++ Array.replicate (fn.ntmps - vs.toArray.size) undef, defers := [] } [.code c] := by simp [Frame.enter, Frame.atR, hf, hb, b]
 have hc : ({ c₀ with mode := .returning } : Frame) = c₀ := by rw [← hu]
 have hraw : ∀ vs : List Value, QF S w (vs.map T.v) vs := fun vs => by
  induction vs with
  | nil => exact .nil
  | cons v vs ih => exact .cons _ _ _ _ (.v v) ih
 have henv := Ws (hraw vs) fn.ntmps
 rw [List.length_map] at henv
 obtain ⟨e, a', w', ⟨t', H', ⟨he, H2, hfr, hΦ⟩, S', hr'⟩, harr⟩ := h S w { tmps := vs.toArray ++ Array.replicate (fn.ntmps - vs.toArray.size) undef, defers := [] } w
  ⟨S, by simp; omega, ⟨Nat.le_refl _, Mks.zero, fun _ _ => trivial⟩, Q9.refl _ hw, ho, fun b hb => .inl hb, henv⟩ b [] (c₀ :: cs) rfl trivial (Ut _ _)
 rw [← henter] at harr
 obtain ⟨hnd, hmk⟩ := hr'.defers.marks.nil
 have fin : ∀ todo, StepsIn (Machine.fenced P (RF none)) P (lone (Frame.enter P f vs.toArray .deferred) (c₀ :: cs) w) (lone { b.atR a' todo with mode := .returning } (c₀ :: cs) w') →
   ∃ e u' w' fr, (u' = .returning ∧ ∃ v S' H', e = Ending.returned v ∧ Φ H' ∧ Own S' w' H' ∧ Q9 (keys H) S w S' w' ∧ ∀ b ∈ keys H', b ∈ keys H ∨ w.heap.size ≤ b) ∧
    ComesIn (Machine.fenced P (RF none)) P (lone (Frame.enter P f vs.toArray .deferred) (c₀ :: cs) w) (lone fr ({ c₀ with mode := u' } :: cs) w') e ∧ fr.kind = .deferred ∧ fr.fn = f ∧ fr.going P w' e := by
  intro todo hsteps
  obtain ⟨w2, s1, e1, e2, e3, e4, e5⟩ := C4 (P := P) (fr := { b.atR a' todo with mode := .returning }) (cs := c₀ :: cs) rfl a'.defers w' rfl hnd (fun d hd => let ⟨D, h1, _, h3⟩ := hmk d hd; ⟨D, h1, h3⟩)
  let B : Nat → Prop := fun b => (⟨.collected b, #[]⟩ : Deferred) ∈ a'.defers
  have hB : ∀ b, B b → w.heap.size ≤ b ∧ (∀ cs ty fz, w'.heap[b]? ≠ some (.cells cs ty fz)) ∧ ∀ ms c, w'.heap[b]? ≠ some (.map ms c) := fun b hbm => by
   obtain ⟨D, hD, h0, h1⟩ := hmk _ hbm
   cases hD
   exact ⟨h0, fun cs ty fz => by rw [h1]; simp, fun ms c => by rw [h1]; simp⟩
  have hm : ∀ b, (S' b ∧ ¬ B b) → (S' b ∧ ¬ B b) ∧ w2.heap[b]? = w'.heap[b]? := fun b hb => ⟨hb, e5 b hb.2⟩
  have hle := hfr.le hr'.own.nodup
  have hown : Own (fun b => S' b ∧ ¬ B b) w2 H' := ⟨hr'.own.nodup, fun b hb hS => hr'.own.apart b hb hS.1, fun p hp => by
   exact (hr'.own.has p hp).shrunk (fun b hb => (hB b hb).2.1) (fun b hb => (hB b hb).2.2) (fun hnb => e5 p.1 hnb) hm⟩
  have hst : Q9 (keys H) S w (fun b => S' b ∧ ¬ B b) w2 := ⟨e1.trans hr'.step.os, e2.trans hr'.step.tape, e3.trans hr'.step.output, by rw [e4]; exact hr'.step.size,
   fun b hb hn => (e5 b (fun hbm => absurd hb (Nat.not_lt.2 (hB b hbm).1))).trans (hr'.step.keep b hb hn), fun b hb => ⟨hr'.step.sub b hb, fun hbm => absurd (hw b hb) (Nat.not_lt.2 (hB b hbm).1)⟩, fun b hb => hr'.step.new b hb.1, fun b hb => by rw [e4]; exact hr'.step.wf b hb.1⟩
  refine ⟨.returned (.tuple #[]), .returning, w2, _, ⟨rfl, .tuple #[], _, H2, rfl, hΦ, hown.le hle, hst, fun b hb => hr'.mine b (hle.sub b hb)⟩, by rw [hc]; exact StepsIn.trans hsteps s1, rfl, rfl, rfl, rfl, fn, hf, ?_⟩
  simp [results, hres]
 rcases he with rfl | rfl
 ·exact fin [] (StepsIn.trans harr (.one (fenced_calm (fr := b.atR a' []) (n := 0) trivial (Ut _ _) rfl) (stepR_end rfl)))
 ·obtain ⟨todo, hs⟩ := harr.1 rfl
  exact fin todo hs
section
variable {b : Frame} {a : Act} {k : List Item} {cs : List Frame} {w w' : World} {ops : Array Oper} {i : Nat} {rest : List Nat} {o : Oper}
theorem LR (ho : ops[i]? = some o) (hg : o.guard = none) (hro : b.roundOf = none) {v : Value} (hr : (execOp a.eval o).run P w = .ok (.value v) w') :
  step P (lone (b.atR a (.inRegion ops (i :: rest) :: k)) cs w) = .next (lone (b.atR (a.put o.dst v) (.inRegion ops rest :: k)) cs w') := by
 refine step_lone_go ?_
 have hg' := stepGR_op (P := P) (b := b) (k := k) (cs := cs) (w := w) (rest := rest) ho (Xl hg a)
 rw [hro, Oper.semAt_none] at hg'
 have hfin : (b.atR a (.inRegion ops (i :: rest) :: k)).finish v = b.atR (a.put o.dst v) (.inRegion ops rest :: k) := by rw [Frame.finish_atR, ho]; rfl
 rw [hg', ← hfin]
 simp [stepG.apply, hr]
theorem V1 (ho : ops[i]? = some o) (hg : o.guard = none) (hro : b.roundOf = none) (hk : b.kind = .deferred) (hcs : recoverD cs = none) (hr : (execOp a.eval o).run P w = .ok .recover w') :
  step P (lone (b.atR a (.inRegion ops (i :: rest) :: k)) cs w) = .next (lone (b.atR (a.put o.dst .nilIface) (.inRegion ops rest :: k)) cs w') := by
 refine step_lone_go ?_
 have hg' := stepGR_op (P := P) (b := b) (k := k) (cs := cs) (w := w) (rest := rest) ho (Xl hg a)
 rw [hro, Oper.semAt_none] at hg'
 have hfin : (b.atR a (.inRegion ops (i :: rest) :: k)).finish .nilIface = b.atR (a.put o.dst .nilIface) (.inRegion ops rest :: k) := by rw [Frame.finish_atR, ho]; rfl
 have htr := (tryRecover_deferred (fr := b.atR a (.inRegion ops (i :: rest) :: k)) hk cs).trans hcs
 rw [hg', ← hfin]
 simp only [Frame.atR, hro] at htr ⊢
 simp [stepG.apply, hr, htr]
end
theorem D5 {S : Nat → Prop} {w : World} {H : Qd} {a : Act} (ho : Own S w H) {i bl : Nat} {kb : Blk} (hi : H[i]? = some (bl, kb)) {rp : Value} (hd : kb.cells[0]? = some (.v rp)) {ty tp : TypeId} (hk : Q8 P ty = true) {x : Operand} {dst : Option Tmp} {pos : String} {aft : Array Edge} {g : Option (Nat × Bool)}
  (hv : a.eval x = .pointer (some ⟨bl, 0, none⟩)) : (execOp a.eval ⟨dst, .load ty x, tp, pos, aft, g⟩).run P w = .ok (.value rp) w := by
 obtain ⟨ty1, hT, cs, hb, hsz, hl, hrl⟩ := (ho.at hi).cases.resolve_right (by rintro ⟨_, _, rfl, _⟩; simp at hd)
 obtain ⟨y, hy, hr'⟩ := hrl.get hd
 rw [List.getElem?_take] at hy
 split at hy
 ·have hcell' : w.cell? ⟨bl, 0, none⟩ = some y := by rw [ZC hb]; simpa using hy
  rw [hr'.v_eq] at hcell'
  simp [execOp, hv, Instr.loadAt, Instr.sureAddr, loadVar, Ul hk w, run_load, hcell']
 ·cases hy
theorem I3 {f g : FuncId} {fn : Func} {id : Nat} {ty tp0 tp1 tp2 : TypeId} {p0 p1 p2 : String} {e0 e1 e2 : Array Edge} {ats at1 : Array TypeId} {d2 : Option Tmp} {H : Qd} {i bl : Nat} {kb : Blk} {rp : Value}
  (hf : P.funcs[f]? = some fn) (hb : fn.body = some (.region id #[⟨some 1, .load ty (.tmp 0), tp0, p0, e0, none⟩, ⟨some 2, .call ⟨.builtin .recover, #[], at1⟩, tp1, p1, e1, none⟩, ⟨d2, .call ⟨.value (.func g), #[.tmp 1, .tmp 2], ats⟩, tp2, p2, e2, none⟩] true))
  (hn : fn.ntmps = 4) (hres : fn.results = #[]) (hH : H[i]? = some (bl, kb)) (hd : kb.cells[0]? = some (.v rp)) (hk : Q8 P ty = true) (hc : QT P g = true) (hg : FnP P g [.v rp, .v .nilIface] (fun r => r = .tup []))
  (hord : ∀ t, Region.schedule (P.follows .mixedOrders) #[⟨some 1, .load ty (.tmp 0), tp0, p0, e0, none⟩, ⟨some 2, .call ⟨.builtin .recover, #[], at1⟩, tp1, p1, e1, none⟩, ⟨d2, .call ⟨.value (.func g), #[.tmp 1, .tmp 2], ats⟩, tp2, p2, e2, none⟩] t = [0, 1, 2] ∨
   Region.schedule (P.follows .mixedOrders) #[⟨some 1, .load ty (.tmp 0), tp0, p0, e0, none⟩, ⟨some 2, .call ⟨.builtin .recover, #[], at1⟩, tp1, p1, e1, none⟩, ⟨d2, .call ⟨.value (.func g), #[.tmp 1, .tmp 2], ats⟩, tp2, p2, e2, none⟩] t = [1, 0, 2]) :
  DfH P f #[.pointer (some ⟨bl, 0, none⟩)] H (fun H' => H' = H) := by
 intro S w hw ho
 refine ⟨trivial, fun c₀ cs hu _ => ?_⟩
 generalize hops : (#[⟨some 1, .load ty (.tmp 0), tp0, p0, e0, none⟩, ⟨some 2, .call ⟨.builtin .recover, #[], at1⟩, tp1, p1, e1, none⟩, ⟨d2, .call ⟨.value (.func g), #[.tmp 1, .tmp 2], ats⟩, tp2, p2, e2, none⟩] : Array Oper) = ops at hb hord
 have g0 : ops[0]? = some ⟨some 1, .load ty (.tmp 0), tp0, p0, e0, none⟩ := by rw [← hops]; rfl
 have g1 : ops[1]? = some ⟨some 2, .call ⟨.builtin .recover, #[], at1⟩, tp1, p1, e1, none⟩ := by rw [← hops]; rfl
 have g2 : ops[2]? = some ⟨d2, .call ⟨.value (.func g), #[.tmp 1, .tmp 2], ats⟩, tp2, p2, e2, none⟩ := by rw [← hops]; rfl
 let b : Frame := { (default : Frame) with fn := f, kind := .deferred, roundOf := none }
 have henter : Frame.enter P f #[.pointer (some ⟨bl, 0, none⟩)] .deferred = b.atR { tmps := #[.pointer (some ⟨bl, 0, none⟩), undef, undef, undef], defers := [] } [.code (.region id ops true)] := by
  simp [Frame.enter, Frame.atR, hf, hb, hn, b]
 have hc0 : ({ c₀ with mode := .returning } : Frame) = c₀ := by rw [← hu]
 have hrec : recoverD (c₀ :: cs) = none := by simp [recoverD, hu]
 have s0 := stepR_region_draw (P := P) (b := b) (a := { tmps := #[.pointer (some ⟨bl, 0, none⟩), undef, undef, undef], defers := [] }) (k := []) (cs := c₀ :: cs) (w := w) (ops := ops) (id := id)
 have ho1 : Own S w.drew H := ho.step (Yk hw []) hw (by simp) (by simp)
 have hload : ∀ a : Act, a.eval (.tmp 0) = .pointer (some ⟨bl, 0, none⟩) → (execOp a.eval ⟨some 1, .load ty (.tmp 0), tp0, p0, e0, none⟩).run P w.drew = .ok (.value rp) w.drew := fun a h => D5 ho1 hH hd hk h
 have hrecv : ∀ a : Act, (execOp a.eval ⟨some 2, .call ⟨.builtin .recover, #[], at1⟩, tp1, p1, e1, none⟩).run P w.drew = .ok .recover w.drew := fun a => by rfl
 have fen : ∀ (a : Act) (j : Nat) (rest : List Nat) (o : Oper), ops[j]? = some o → (lone (b.atR a (.inRegion ops (j :: rest) :: [])) (c₀ :: cs) w.drew).fenced P (RF none) := fun a j rest o h => fenced_oper (n := 0) trivial (Ut _ _) h fun _ _ => trivial
 have reach : ∀ l, (l = [0, 1, 2] ∨ l = [1, 0, 2]) → StepsIn (Machine.fenced P (RF none)) P (lone (b.atR { tmps := #[.pointer (some ⟨bl, 0, none⟩), undef, undef, undef], defers := [] } (.inRegion ops l :: [])) (c₀ :: cs) w.drew)
   (lone (b.atR { tmps := #[.pointer (some ⟨bl, 0, none⟩), rp, .nilIface, undef], defers := [] } (.inRegion ops [2] :: [])) (c₀ :: cs) w.drew) := by
  rintro l (rfl | rfl)
  ·exact .head (fen _ _ _ _ g0) (LR g0 rfl rfl (hload _ rfl)) (.one (fen _ _ _ _ g1) (V1 g1 rfl rfl rfl hrec (hrecv _)))
  ·exact .head (fen _ _ _ _ g1) (V1 g1 rfl rfl rfl hrec (hrecv _)) (.one (fen _ _ _ _ g0) (LR g0 rfl rfl (hload _ rfl)))
 have hp := GD (P := P) (t := [(1, .v rp), (2, .v .nilIface)]) (H := H) (dst := d2) (tp := tp2) (pos := p2) (aft := e2) (g := none) (xs := #[.tmp 1, .tmp 2]) (ats := ats) (args := [.v rp, .v .nilIface]) hc (Qu rfl (Qu rfl Xh)) hg
 have hw2 : wpOpsIn (RF none) 0 P ops (fun e a' w' => e = .normal ∧ a'.defers = [] ∧ ∃ S', Q9 [] S w.drew S' w') [2] { tmps := #[.pointer (some ⟨bl, 0, none⟩), rp, .nilIface, undef], defers := [] } w.drew := by
  rw [wpOpsIn_cons]
  unfold wpOpIn
  simp only [g2, Xl (o := ⟨d2, .call ⟨.value (.func g), #[.tmp 1, .tmp 2], ats⟩, tp2, p2, e2, none⟩) rfl, if_true]
  refine VB none (fun c h => by cases h) (hp S w.drew _ hw ho1 (fun x hx => ?_) _ _ fun S' w' v hst _ => ?_)
  ·simp [Op.operands, Call.operands] at hx
   rcases hx with rfl | rfl | rfl <;> exact .v _
  ·exact ⟨rfl, by simp, S', hst⟩
 obtain ⟨e, a', w', ⟨rfl, hdf, S', hst⟩, harr⟩ := wp_opsIn [2] _ w.drew hw2 b [] (c₀ :: cs) rfl trivial (Ut _ _)
 have hstart : StepsIn (Machine.fenced P (RF none)) P (lone (Frame.enter P f #[.pointer (some ⟨bl, 0, none⟩)] .deferred) (c₀ :: cs) w) (lone (b.atR { tmps := #[.pointer (some ⟨bl, 0, none⟩), rp, .nilIface, undef], defers := [] } (.inRegion ops [2] :: [])) (c₀ :: cs) w.drew) := by
  rw [henter]
  exact .head (fenced_calm (n := 0) trivial (Ut _ _) rfl) s0 (reach _ (hord _))
 have hend := StepsIn.trans hstart (StepsIn.trans harr (.one (fenced_calm (fr := b.atR a' []) (n := 0) trivial (Ut _ _) rfl) (stepR_end rfl)))
 have hst' : Q9 (keys H) S w S' w' := ((Yk hw (keys H)).trans hst (by simp))
 refine ⟨.returned (.tuple #[]), .returning, w', _, ⟨rfl, .tuple #[], S', H, rfl, rfl, ho1.step hst hw (by simp) (by simp), hst', fun b hb => .inl hb⟩, by rw [hc0]; exact hend, rfl, rfl, rfl, hdf, fn, hf, ?_⟩
 simp [results, hres]
end
end Go.Cap
