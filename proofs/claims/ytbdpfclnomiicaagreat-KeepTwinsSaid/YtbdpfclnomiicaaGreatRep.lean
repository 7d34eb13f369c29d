/-
  Replicas as data: entries, nodes, messages.
-/
import Derived.Test.YtbdpfclnomiicaaGreatTypes
import Derived.Test.YtbdpfclnomiicaaGreatIter
set_option maxRecDepth 4000
namespace Go.Proofs.YtbdpfclnomiicaaGreat
open Go.Cap
def ei (n : Int) : T := .v (.int .i64 n)
def es (s : List UInt8) : T := .v (.string (bs s))
def eB (b : Bool) : T := .v (.bool b)
structure En where
  term : Int
  conf : Int
  cmd : List UInt8
  deriving DecidableEq, Inhabited
def een (e : En) : T := .agg [ei e.term, ei e.conf, es e.cmd]
def eens (l : List En) : T := .sl false (l.map een)
structure F5 where
  a : Int
  b : Int
  c : Int
  d : Int
  e : Int
  deriving DecidableEq, Inhabited
def F5.get (f : F5) : Nat → Int
  | 0 => f.a
  | 1 => f.b
  | 2 => f.c
  | 3 => f.d
  | _ => f.e
def F5.set (f : F5) (i : Nat) (v : Int) : F5 := match i with
  | 0 => { f with a := v }
  | 1 => { f with b := v }
  | 2 => { f with c := v }
  | 3 => { f with d := v }
  | _ => { f with e := v }
def F5.all (v : Int) : F5 := ⟨v, v, v, v, v⟩
structure Nd where
  id : Int
  term : Int
  vote : Int
  base : Int
  baseTerm : Int
  baseConf : Int
  snap : List UInt8
  log : List En
  commit : Int
  role : Int
  wait : Int
  votes : Int
  next : F5
  mtch : F5
  deriving DecidableEq, Inhabited
def nodeC (n : Nd) (lg : T) : List T := [ei n.id, ei n.term, ei n.vote, ei n.base, ei n.baseTerm, ei n.baseConf, es n.snap, lg, ei n.commit, ei n.role, ei n.wait, ei n.votes,
  ei n.next.a, ei n.next.b, ei n.next.c, ei n.next.d, ei n.next.e, ei n.mtch.a, ei n.mtch.b, ei n.mtch.c, ei n.mtch.d, ei n.mtch.e]
def nd (n : Nd) : T := .agg (nodeC n (eens n.log))
structure Ms where
  kind : Int
  frm : Int
  to : Int
  term : Int
  index : Int
  logTerm : Int
  commit : Int
  conf : Int
  yes : Bool
  entries : List En
  snap : List UInt8
  deriving DecidableEq, Inhabited
def msC (m : Ms) (es' : T) : List T := [ei m.kind, ei m.frm, ei m.to, ei m.term, ei m.index, ei m.logTerm, ei m.commit, ei m.conf, eB m.yes, es', es m.snap]
def ms (m : Ms) : T := .agg (msC m (eens m.entries))
def mss (l : List Ms) : T := .sl false (l.map ms)
-- the last entry with members
def lc (l : List En) : Nat → Option (Nat × Int)
  | 0 => none
  | k + 1 => if (l.getD k default).conf ≠ 0 then some (k, (l.getD k default).conf) else lc l k
def confF (n : Nd) : Int × Int := match lc n.log n.log.length with
  | some (k, c) => (n.base + k + 1, c)
  | none => (n.base, n.baseConf)
def down (l : List En) (k : Nat) : List (Nat × En) := (List.range k).map fun j => (l.length - 1 - j, l.getD (l.length - 1 - j) default)
theorem down_succ (l : List En) (k : Nat) : down l (k + 1) = down l k ++ [(l.length - 1 - k, l.getD (l.length - 1 - k) default)] := by simp [down, List.range_succ]
theorem lc_down (l : List En) : ∀ (m k : Nat), m + k = l.length → (∀ p ∈ down l k, p.2.conf = 0) → lc l l.length = lc l m
  | m, 0, h, _ => by have : m = l.length := by omega
                     rw [this]
  | m, k + 1, h, h0 => by
    have h1 := lc_down l (m + 1) k (by omega) (fun p hp => h0 p (by rw [down_succ]; exact List.mem_append_left _ hp))
    have h2 := h0 _ (by rw [down_succ]; exact List.mem_append_right _ (List.mem_singleton.2 rfl))
    have e : l.length - 1 - k = m := by omega
    rw [e] at h2
    rw [h1, lc, if_neg (by simpa using h2)]
end Go.Proofs.YtbdpfclnomiicaaGreat
