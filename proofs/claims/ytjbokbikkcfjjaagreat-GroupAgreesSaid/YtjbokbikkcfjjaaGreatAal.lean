/-
  What the type table says, type by type (laid by my own program).
-/
import Derived.Test.YtjbokbikkcfjjaaGreatAak
import Derived.Test.YtjbokbikkcfjjaaGreatProg
set_option maxRecDepth 16000
set_option maxHeartbeats 8000000
set_option linter.all false
namespace Go.Proofs.YtjbokbikkcfjjaaGreat
open Go.Cap
instance : Q4 Tryz.prog 3 [.v (.int .i64 0)] := ⟨by rfl⟩
instance : QF Tryz.prog 22 (.v (.int .i64 0)) 8 := ⟨by rfl⟩
instance : Q4 Tryz.prog 25 [.v (.int .i64 0)] := ⟨by rfl⟩
instance : QF Tryz.prog 33 (.v (.string .empty)) 16 := ⟨by rfl⟩
instance : Q4 Tryz.prog 34 [.v (.slice none 0 0)] := ⟨by rfl⟩
instance : Zq Tryz.prog 34 1 := ⟨by rfl⟩
instance : QF Tryz.prog 34 (.v (.int .u8 0)) 1 := ⟨by rfl⟩
instance : Zq Tryz.prog 41 3 := ⟨by rfl⟩
instance : QF Tryz.prog 41 (.agg [.v (.int .i64 0), .v (.int .i64 0), .v (.string .empty)]) 32 := ⟨by rfl⟩
instance : VN Tryz.prog 42 5 := ⟨by rfl, by rfl⟩
instance : B6 Tryz.prog 42 5 1 := ⟨by rfl⟩
instance : Q4 Tryz.prog 44 [.v (.int .i64 0), .v (.int .i64 0), .v (.int .i64 0), .v (.int .i64 0), .v (.int .i64 0), .v (.int .i64 0), .v (.string .empty), .v (.slice none 0 0), .v (.int .i64 0), .v (.int .i64 0), .v (.int .i64 0), .v (.int .i64 0), .v (.int .i64 0), .v (.int .i64 0), .v (.int .i64 0), .v (.int .i64 0), .v (.int .i64 0), .v (.int .i64 0), .v (.int .i64 0), .v (.int .i64 0), .v (.int .i64 0), .v (.int .i64 0)] := ⟨by rfl⟩
instance : VN Tryz.prog 44 22 := ⟨by rfl, by rfl⟩
instance : Q7 Tryz.prog 44 0 0 1 false := ⟨by rfl⟩
instance : Q7 Tryz.prog 44 1 1 1 false := ⟨by rfl⟩
instance : Q7 Tryz.prog 44 2 2 1 false := ⟨by rfl⟩
instance : Q7 Tryz.prog 44 3 3 1 false := ⟨by rfl⟩
instance : Q7 Tryz.prog 44 4 4 1 false := ⟨by rfl⟩
instance : Q7 Tryz.prog 44 5 5 1 false := ⟨by rfl⟩
instance : Q7 Tryz.prog 44 6 6 1 false := ⟨by rfl⟩
instance : Q7 Tryz.prog 44 7 7 1 false := ⟨by rfl⟩
instance : Q7 Tryz.prog 44 8 8 1 false := ⟨by rfl⟩
instance : Q7 Tryz.prog 44 9 9 1 false := ⟨by rfl⟩
instance : Q7 Tryz.prog 44 10 10 1 false := ⟨by rfl⟩
instance : Q7 Tryz.prog 44 11 11 1 false := ⟨by rfl⟩
instance : Q7 Tryz.prog 44 12 12 5 true := ⟨by rfl⟩
instance : Q7 Tryz.prog 44 13 17 5 true := ⟨by rfl⟩
instance : Q4 Tryz.prog 59 [.v (.int .i64 0), .v (.int .i64 0), .v (.int .i64 0), .v (.string .empty)] := ⟨by rfl⟩
instance : Q7 Tryz.prog 59 0 0 1 false := ⟨by rfl⟩
instance : Q7 Tryz.prog 59 1 1 1 false := ⟨by rfl⟩
instance : Q7 Tryz.prog 59 2 2 1 false := ⟨by rfl⟩
instance : Q7 Tryz.prog 59 3 3 1 false := ⟨by rfl⟩
instance : Q4 Tryz.prog 62 [.v (.slice none 0 0), .v (.slice none 0 0), .v (.slice none 0 0), .v (.slice none 0 0), .v (.slice none 0 0)] := ⟨by rfl⟩
instance : B6 Tryz.prog 62 5 1 := ⟨by rfl⟩
instance : B3 Tryz.prog 66 3 4 (.int .i64) (.v (.bool false)) := ⟨by rfl, by rfl, by rfl⟩
instance : Q4 Tryz.prog 68 [.v (.pointer none), .v (.pointer none)] := ⟨by rfl⟩
instance : VN Tryz.prog 68 2 := ⟨by rfl, by rfl⟩
instance : Q7 Tryz.prog 68 0 0 1 false := ⟨by rfl⟩
instance : Q7 Tryz.prog 68 1 1 1 false := ⟨by rfl⟩
instance : B6 Tryz.prog 69 5 2 := ⟨by rfl⟩
instance : Zq Tryz.prog 70 11 := ⟨by rfl⟩
instance : QF Tryz.prog 70 (.agg [.v (.int .i64 0), .v (.int .i64 0), .v (.int .i64 0), .v (.int .i64 0), .v (.int .i64 0), .v (.int .i64 0), .v (.int .i64 0), .v (.int .i64 0), .v (.bool false), .v (.slice none 0 0), .v (.string .empty)]) 112 := ⟨by rfl⟩
instance : Q4 Tryz.prog 72 [.v (.int .i64 0), .v (.pointer none), .v (.pointer none), .v (.pointer none), .v (.pointer none), .v (.pointer none), .v (.pointer none), .v (.pointer none), .v (.pointer none), .v (.pointer none), .v (.pointer none), .v (.map none), .v (.slice none 0 0)] := ⟨by rfl⟩
instance : Q7 Tryz.prog 72 0 0 1 false := ⟨by rfl⟩
instance : Q7 Tryz.prog 72 1 1 10 true := ⟨by rfl⟩
instance : Q7 Tryz.prog 72 2 11 1 false := ⟨by rfl⟩
instance : Q7 Tryz.prog 72 3 12 1 false := ⟨by rfl⟩
instance : Q4 Tryz.prog 76 [.v (.int .i64 0), .v (.int .i64 0), .v (.int .i64 0), .v (.int .i64 0), .v (.int .i64 0), .v (.int .i64 0), .v (.int .i64 0), .v (.int .i64 0), .v (.bool false), .v (.slice none 0 0), .v (.string .empty)] := ⟨by rfl⟩
instance : VN Tryz.prog 76 11 := ⟨by rfl, by rfl⟩
instance : Q7 Tryz.prog 76 0 0 1 false := ⟨by rfl⟩
instance : Q7 Tryz.prog 76 1 1 1 false := ⟨by rfl⟩
instance : Q7 Tryz.prog 76 2 2 1 false := ⟨by rfl⟩
instance : Q7 Tryz.prog 76 3 3 1 false := ⟨by rfl⟩
instance : Q7 Tryz.prog 76 4 4 1 false := ⟨by rfl⟩
instance : Q7 Tryz.prog 76 5 5 1 false := ⟨by rfl⟩
instance : Q7 Tryz.prog 76 6 6 1 false := ⟨by rfl⟩
instance : Q7 Tryz.prog 76 7 7 1 false := ⟨by rfl⟩
instance : Q7 Tryz.prog 76 8 8 1 false := ⟨by rfl⟩
instance : Q7 Tryz.prog 76 9 9 1 false := ⟨by rfl⟩
instance : Q7 Tryz.prog 76 10 10 1 false := ⟨by rfl⟩
instance : Q4 Tryz.prog 84 [.v (.int .i64 0), .v (.int .i64 0), .v (.string .empty)] := ⟨by rfl⟩
instance : VN Tryz.prog 84 3 := ⟨by rfl, by rfl⟩
instance : Q7 Tryz.prog 84 0 0 1 false := ⟨by rfl⟩
instance : Q7 Tryz.prog 84 1 1 1 false := ⟨by rfl⟩
instance : Q7 Tryz.prog 84 2 2 1 false := ⟨by rfl⟩
instance : Q4 Tryz.prog 87 [.v (.int .i64 0), .v (.int .i64 0), .v (.bool false)] := ⟨by rfl⟩
instance : Q7 Tryz.prog 87 0 0 1 false := ⟨by rfl⟩
instance : Q7 Tryz.prog 87 1 1 1 false := ⟨by rfl⟩
instance : Q7 Tryz.prog 87 2 2 1 false := ⟨by rfl⟩
instance : Q4 Tryz.prog 89 [.v (.int .i64 0), .v (.int .i64 0), .v (.bool false), .v (.slice none 0 0), .v (.int .i64 0), .v (.slice none 0 0), .v (.int .i64 0)] := ⟨by rfl⟩
instance : Q7 Tryz.prog 89 0 0 3 true := ⟨by rfl⟩
instance : Q7 Tryz.prog 89 1 3 1 false := ⟨by rfl⟩
instance : Q7 Tryz.prog 89 2 4 1 false := ⟨by rfl⟩
instance : Q7 Tryz.prog 89 3 5 1 false := ⟨by rfl⟩
instance : Q7 Tryz.prog 89 4 6 1 false := ⟨by rfl⟩
instance : Q4 Tryz.prog 91 [.v (.pointer none)] := ⟨by rfl⟩
instance : Q4 Tryz.prog 93 [.v (.pointer none), .v (.int .i64 0), .v (.int .i64 0), .v (.int .i64 0), .v (.int .i64 0), .v (.int .i64 0), .v (.int .i64 0), .v (.string .empty), .v (.slice none 0 0), .v (.int .i64 0), .v (.int .i64 0), .v (.int .i64 0), .v (.int .i64 0), .v (.int .i64 0), .v (.int .i64 0), .v (.int .i64 0), .v (.int .i64 0), .v (.int .i64 0), .v (.int .i64 0), .v (.int .i64 0), .v (.int .i64 0), .v (.int .i64 0), .v (.int .i64 0)] := ⟨by rfl⟩
instance : Q7 Tryz.prog 93 0 0 1 false := ⟨by rfl⟩
instance : Q7 Tryz.prog 93 1 1 22 true := ⟨by rfl⟩
instance : Q4 Tryz.prog 95 [.v (.pointer none), .v (.int .i64 0), .v (.int .i64 0), .v (.int .i64 0), .v (.int .i64 0), .v (.int .i64 0), .v (.int .i64 0), .v (.string .empty), .v (.slice none 0 0), .v (.int .i64 0), .v (.int .i64 0), .v (.int .i64 0), .v (.int .i64 0), .v (.int .i64 0), .v (.int .i64 0), .v (.int .i64 0), .v (.int .i64 0), .v (.int .i64 0), .v (.int .i64 0), .v (.int .i64 0), .v (.int .i64 0), .v (.int .i64 0), .v (.int .i64 0)] := ⟨by rfl⟩
instance : Q7 Tryz.prog 95 0 0 23 true := ⟨by rfl⟩
instance : Q4 Tryz.prog 117 [.v (.slice none 0 0)] := ⟨by rfl⟩
instance : QF Tryz.prog 117 (.v (.slice none 0 0)) 24 := ⟨by rfl⟩
instance : Q4 Tryz.prog 157 [.v (.pointer none), .v (.int .i64 0)] := ⟨by rfl⟩
instance : Q7 Tryz.prog 157 0 0 1 false := ⟨by rfl⟩
instance : Q7 Tryz.prog 157 1 1 1 false := ⟨by rfl⟩
instance : Q4 Tryz.prog 167 [.v (.int .i64 0), .v (.int .i64 0), .v (.int .i64 0), .v (.int .i64 0), .v (.int .i64 0), .v (.int .i64 0), .v (.string .empty), .v (.slice none 0 0), .v (.int .i64 0), .v (.int .i64 0), .v (.int .i64 0), .v (.int .i64 0), .v (.int .i64 0), .v (.int .i64 0), .v (.int .i64 0), .v (.int .i64 0), .v (.int .i64 0), .v (.int .i64 0), .v (.int .i64 0), .v (.int .i64 0), .v (.int .i64 0), .v (.int .i64 0), .v (.slice none 0 0)] := ⟨by rfl⟩
instance : Q7 Tryz.prog 167 0 0 22 true := ⟨by rfl⟩
instance : Q7 Tryz.prog 167 1 22 1 false := ⟨by rfl⟩
instance : Q4 Tryz.prog 179 [.v (.slice none 0 0), .v (.int .i64 0)] := ⟨by rfl⟩
instance : Q7 Tryz.prog 179 0 0 1 false := ⟨by rfl⟩
instance : Q7 Tryz.prog 179 1 1 1 false := ⟨by rfl⟩
instance : Q4 Tryz.prog 191 [.v (.int .u32 0)] := ⟨by rfl⟩
instance : Q4 Tryz.prog 200 [.v (.int .i64 0), .v (.int .i64 0), .v (.int .i64 0), .v (.int .i64 0), .v (.int .i64 0), .v (.int .i64 0), .v (.int .i64 0), .v (.int .i64 0), .v (.int .i64 0), .v (.int .i64 0), .v (.int .i64 0), .v (.int .i64 0), .v (.int .i64 0), .v (.int .i64 0), .v (.int .i64 0), .v (.int .i64 0), .v (.int .i64 0), .v (.int .i64 0), .v (.int .i64 0), .v (.int .i64 0)] := ⟨by rfl⟩
instance : VN Tryz.prog 200 20 := ⟨by rfl, by rfl⟩
def ei (n : Int) : T := .v (.int .i64 n)
def es (s : List UInt8) : T := .v (.string (bs s))
def eB (b : Bool) : T := .v (.bool b)
structure En where
 term : Int
 conf : Int
 cmd : List UInt8
 deriving DecidableEq, Inhabited
def een (e : En) : T := .agg [ei e.term, ei e.conf, es e.cmd]
def ZM (l : List En) : T := .sl false (l.map een)
structure F5 where
 a : Int
 b : Int
 c : Int
 d : Int
 e : Int
 deriving DecidableEq, Inhabited
def F5.get (f : F5) : Nat → Int
 | 0 => f.a
 | 1 => f.b
 | 2 => f.c
 | 3 => f.d
 | _ => f.e
def F5.set (f : F5) (i : Nat) (v : Int) : F5 := match i with
 | 0 => { f with a := v }
 | 1 => { f with b := v }
 | 2 => { f with c := v }
 | 3 => { f with d := v }
 | _ => { f with e := v }
def F5.all (v : Int) : F5 := ⟨v, v, v, v, v⟩
structure Nd where
 id : Int
 term : Int
 vote : Int
 base : Int
 baseTerm : Int
 baseConf : Int
 snap : List UInt8
 log : List En
 commit : Int
 role : Int
 wait : Int
 votes : Int
 next : F5
 mtch : F5
 deriving DecidableEq, Inhabited
def Qs (n : Nd) (lg : T) : List T := [ei n.id, ei n.term, ei n.vote, ei n.base, ei n.baseTerm, ei n.baseConf, es n.snap, lg, ei n.commit, ei n.role, ei n.wait, ei n.votes,
 ei n.next.a, ei n.next.b, ei n.next.c, ei n.next.d, ei n.next.e, ei n.mtch.a, ei n.mtch.b, ei n.mtch.c, ei n.mtch.d, ei n.mtch.e]
def nd (n : Nd) : T := .agg (Qs n (ZM n.log))
structure Ms where
 kind : Int
 frm : Int
 to : Int
 term : Int
 index : Int
 logTerm : Int
 commit : Int
 conf : Int
 yes : Bool
 entries : List En
 snap : List UInt8
 deriving DecidableEq, Inhabited
def msC (m : Ms) (es' : T) : List T := [ei m.kind, ei m.frm, ei m.to, ei m.term, ei m.index, ei m.logTerm, ei m.commit, ei m.conf, eB m.yes, es', es m.snap]
def ms (m : Ms) : T := .agg (msC m (ZM m.entries))
def mss (l : List Ms) : T := .sl false (l.map ms)
def lc (l : List En) : Nat → Option (Nat × Int)
 | 0 => none
 | k + 1 => if (l.getD k default).conf ≠ 0 then some (k, (l.getD k default).conf) else lc l k
def Qx (n : Nd) : Int × Int := match lc n.log n.log.length with
 | some (k, c) => (n.base + k + 1, c)
 | none => (n.base, n.baseConf)
def Ld (l : List En) (k : Nat) : List (Nat × En) := (List.range k).map fun j => (l.length - 1 - j, l.getD (l.length - 1 - j) default)
theorem Zy (l : List En) (k : Nat) : Ld l (k + 1) = Ld l k ++ [(l.length - 1 - k, l.getD (l.length - 1 - k) default)] := by simp [Ld, List.range_succ]
theorem Dg (l : List En) : ∀ (m k : Nat), m + k = l.length → (∀ p ∈ Ld l k, p.2.conf = 0) → lc l l.length = lc l m
 | m, 0, h, _ => by
  have : m = l.length := by omega
  rw [this]
 | m, k + 1, h, h0 => by
  have h1 := Dg l (m + 1) k (by omega) (fun p hp => h0 p (by rw [Zy]; exact List.mem_append_left _ hp))
  have h2 := h0 _ (by rw [Zy]; exact List.mem_append_right _ (List.mem_singleton.2 rfl))
  have e : l.length - 1 - k = m := by omega
  rw [e] at h2
  rw [h1, lc, if_neg (by simpa using h2)]
end Go.Proofs.YtjbokbikkcfjjaaGreat
namespace Go.Proofs.YtjbokbikkcfjjaaGreat
open Go.Cap
attribute [local irreducible] POp Qf Pw EOp Sim FnH T.gp
theorem Ti (l : List En) (hl : l.length ≤ 4611686018427387904) : ItC Tryz.prog 124 [.adr (ZM l)] (fun p : Nat × En => [ei p.1, een p.2]) (fun xs => xs = Ld l l.length) (fun pre => ∃ k, k ≤ l.length ∧ pre = Ld l k) := by
 refine Eo Tryz.func124 (by rfl) (by rfl) (by rfl) ?_
 intro c l' r I Ix Hx S w hlen _ _ hK h0 hY
 show Sim _ _ [(Tryz.f124.ntmps, .v undef), (0, .v (.func (.yield l') #[] #[])), (1, .adr (.sl false (l.map een)))] _ _
 refine zC ?_
 apply cr
 (first | refine s_ Qm ?_ | refine s_ Qj ?_)
 (first | refine s_ QX ?_ | refine s_ QQ ?_)
 refine s_ ZF <| s_ Qb <| zC ?_
 apply Qp (σ := Nat × Qd) (ok := fun s => s.1 ≤ l.length ∧ I (Ld l s.1) s.2) (env := fun s => [(3, .v (.int .i64 ((l.length : Int) - 1 - s.1))), (Tryz.f124.ntmps, .v undef), (0, .v (.func (.yield l') #[] #[])), (1, .adr (.sl false (l.map een)))])
  (heap := fun s => s.2) (μ := fun s => l.length - s.1) (s0 := (0, Hx))
 ·exact ⟨by simp, h0⟩
 ·refine ⟨?_, eL⟩
  apply Qh; (exact zG)
  exact Le.of_eq (by simp)
 ·exact kR
 rintro ⟨k, H⟩ ⟨hk, hI⟩
 simp only at hk hI
 refine zC ?_
 refine cr <| s_ Qa <| s_ Vd <| zC ?_
 refine ci ?_ ?_
 ·intro hge
  have hix : l.length - 1 - k < l.length := by omega
  have hcast : (l.length : Int) - 1 - k = ((l.length - 1 - k : Nat) : Int) := by omega
  rw [hcast]
  have hget : l.getD (l.length - 1 - k) default = l[l.length - 1 - k] := by simp [hix]
  have hyc := hY (Ld l k) (l.length - 1 - k, l[l.length - 1 - k]) H hI ⟨k + 1, by omega, by rw [Zy, hget]⟩
  refine zC ?_
  refine cr <| s_ Qa <| s_ Qa ?_
  (first | refine s_ Qm ?_ | refine s_ Qj ?_)
  refine s_ Qa ?_
  (first | refine s_ (Xh hix) ?_ | refine s_ (Xh hix2) ?_ | refine s_ YM ?_ | refine s_ Y8 ?_)
  (first | refine s_ Y7 ?_ | refine s_ Xc ?_)
  refine Pf (Hr := []) hyc (by simp) (hlen _) hK (fun H' hI' => ?_) (fun H' hI' => ?_)
  ·simp only [if_true] at hI'
   refine s_ Yr <| zC ?_
   refine ci ?_ ?_
   ·intro h; exact absurd trivial h
   intro _
   refine zC ?_
   refine cr <| s_ Qa <| s_ ZF <| s_ Qb <| zC ?_
   refine ⟨(k + 1, H'), ⟨by simp only; omega, ?_⟩, (by simp only []; omega), ⟨?_, eL⟩, by rw [List.append_nil]; exact kR⟩
   ·simp only
    rw [Zy, hget]; exact hI'
   ·apply Qh; (exact zG)
    exact Le.of_eq (by congr 2; simp only; omega)
  ·simp only [Bool.false_eq_true, if_false] at hI'
   refine s_ Yr <| zC ?_
   refine ci ?_ ?_
   ·intro _
    refine zC ?_
    apply Yf
    simp only [Yc, YC, Zt]
    rw [List.append_nil]
    exact OT ⟨k + 1, by omega, by rw [Zy, hget]⟩ hI'
   ·intro h; exact absurd (fun h => h) h
 ·intro hge
  have hk2 : k = l.length := by omega
  subst hk2
  refine zC ?_
  exact WR rfl hI
theorem Tk (f : Bool) (xs : List T) : FnP Tryz.prog 90 [.sl f xs] (fun r => r = .clo 124 [] [.adr (.sl f xs)]) := by
 refine fe Tryz.func90 fun S0 w0 => ?_
 show Sim _ _ [(0, T.sl f xs)] _ _
 refine zC ?_
 apply cr
 refine Du fun b1 _ => ?_
 refine s_ Qb <| zC ?_
 refine cr <| s_ Vc <| s_ Qb <| zC ?_
 refine Jl (G := [_]) (H1 := []) [(2, .clo 124 [] [.adr (.sl f xs)])] (by simp; rfl) ⟨?_, trivial⟩ ?_
 ·refine (show Env.get _ _ = _ from gZ) ▸ QB.clo Qg.nil (Qg.cons (QB.ptr List.mem_cons_self (.inl rfl) ?_ (by simp [T.cells]) (by simp [T.cells])) Qg.nil)
  exact Qg.le (LeL.refl _)
 ·refine zE ?_
  exact Le.refl _
theorem BC {l : List En} {k : Nat} (hk : k ≤ l.length) {p : Nat × En} (h : p ∈ Ld l k) : p.1 < l.length := by
 obtain ⟨j, hj, rfl⟩ := List.mem_map.1 h
 have := List.mem_range.1 hj
 simp only; omega
theorem GV {l : List En} {k : Nat} (hk : k ≤ l.length) {ini : List (Nat × En)} {last : Nat × En} (h : ini ++ [last] = Ld l k) (hz : ∀ p ∈ ini, p.2.conf = 0) (hl : last.2.conf ≠ 0) : lc l l.length = some (last.1, last.2.conf) := by
 cases k with
 | zero => simp [Ld] at h
 | succ k =>
  rw [Zy] at h
  obtain ⟨h1, h2⟩ := List.append_inj' h rfl
  have h3 : last = (l.length - 1 - k, l.getD (l.length - 1 - k) default) := by simpa using h2
  rw [Dg l (l.length - k) k (by omega) (by rw [← h1]; exact hz)]
  have e : l.length - k = (l.length - 1 - k) + 1 := by omega
  rw [e, lc]
  rw [h3] at hl
  simp only at hl
  rw [if_pos hl, h3]
theorem Dw (n : Nd) (hl : n.log.length ≤ 1000000000) (hb1 : -1000000000000 ≤ n.base) (hb2 : n.base ≤ 1000000000000) : FnP Tryz.prog 64 [.adr (nd n)] (fun r => r = .tup [ei (Qx n).1, ei (Qx n).2]) := by
 have cbk := Tk false (n.log.map een)
 refine fe Tryz.func64 fun S0 w0 => ?_
 show Sim _ _ [(0, T.adr (.agg (Qs n (.sl false (n.log.map een)))))] _ _
 refine zC ?_
 apply cr
 refine Du fun b1 _ => ?_
 refine X2 fun b2 _ => ?_
 refine X2 fun b3 _ => ?_
 refine zC ?_
 refine cr <| s_ Qj <| s_ Qe ?_
 (first | refine s_ Qu ?_ | refine s_ Qc ?_)
 (first | refine s_ Qm ?_ | refine s_ Qj ?_)
 refine s_ (QM (cbk)) <| zC ?_
 refine LV (Ti n.log (by omega)) (by ((repeat (apply eS; rfl)); exact eZ)) (by rfl) rfl (fun (pre : List (Nat × En)) (H : Qd) => (∀ p ∈ pre, p.2.conf = 0) ∧ H = [(b3, ⟨3, [ei 0], 1⟩), (b2, ⟨3, [ei 0], 1⟩), (b1, ⟨147, [.adr (.agg (Qs n (.sl false (n.log.map een))))], 1⟩)])
  (fun (pre : List (Nat × En)) (H : Qd) => ∃ ini last, pre = ini ++ [last] ∧ (∀ p ∈ ini, p.2.conf = 0) ∧ last.2.conf ≠ 0 ∧ H = [(b3, ⟨3, [ei last.2.conf], 1⟩), (b2, ⟨3, [ei (n.base + last.1 + 1)], 1⟩), (b1, ⟨147, [.adr (.agg (Qs n (.sl false (n.log.map een))))], 1⟩)])
  .ret .ret (.inl ⟨rfl, rfl⟩) (fun _ => rfl) (by rfl) ⟨by simp, rfl⟩ ?_ ?_ ?_
 ·rintro pre x H1 ⟨hz, rfl⟩ ⟨k, hk, hsp⟩ l' S1 w1
  have hx1 : x.1 < n.log.length := BC hk (by rw [← hsp]; simp)
  simp only [Ww]
  refine zC ?_
  refine cr <| s_ Qb <| zC ?_
  apply cr
  refine X2 fun b5 _ => ?_
  refine Qz ?_
  refine zC ?_
  refine ⟨rfl, fun S2 w2 mk => ?_⟩
  refine zC ?_
  refine cr <| s_ Qc <| s_ Qj <| s_ Yg <| zC ?_
  refine ci ?_ ?_
  ·intro hne
   refine zC ?_
   refine ca [0, 1, 2, 3, 4, 5, 6, 7, 8, 9, 10] [9, 10] <| QL ?_
   refine a_ (fun _ => Qe) ?_
   (first | refine a_ (fun _ => Qu) ?_ | refine a_ (fun _ => Qc) ?_)
   (first | refine a_ (fun _ => Qm) ?_ | refine QL ?_)
   refine a_ (fun _ => Qa) <| a_ (fun _ => Q6) <| a_ (fun _ => Q6) <| a_ (fun _ => Qc) <| QL ?_
   refine XU ?_
   refine XU ?_
   apply an
   refine zC ?_
   refine zC ?_
   apply Yf
   simp only [Yc, YC]
   exact ⟨_, kS kR, .inr ⟨rfl, pre, x, rfl, hz, hne, rfl⟩⟩
  ·intro he
   refine zC ?_
   exact ⟨_, kS kR, .inl ⟨rfl, by intro p hp; rcases List.mem_append.1 hp with h | h; exact hz p h; rw [List.mem_singleton.1 h]; simpa using he, rfl⟩⟩
 ·rintro xs H' rfl ⟨hz, rfl⟩
  have hlc : lc n.log n.log.length = none := by rw [Dg n.log 0 n.log.length (by omega) hz]; rfl
  refine zC ?_
  refine zC ?_
  refine ca [0, 1, 2, 3, 4, 5, 6, 7, 8, 9] [8, 9] <| QL ?_
  refine a_ (fun _ => Qe) ?_
  (first | refine a_ (fun _ => Qu) ?_ | refine a_ (fun _ => Qc) ?_)
  (first | refine a_ (fun _ => Qm) ?_ | refine QL ?_)
  refine QL ?_
  refine a_ (fun _ => Qe) ?_
  (first | refine a_ (fun _ => Qu) ?_ | refine a_ (fun _ => Qc) ?_)
  (first | refine a_ (fun _ => Qm) ?_ | refine QL ?_)
  refine XU ?_
  refine XU ?_
  apply an
  refine zC ?_
  refine zC ?_
  refine zE ?_
  simp only [Qx, hlc]; exact Le.refl _
 ·rintro pre H' ⟨k, hk, rfl⟩ ⟨ini, last, h1, hz, hne, rfl⟩
  have hlc := GV hk h1.symm hz hne
  simp only [Yc, YC]
  refine rt ?_
  simp only [Qx, hlc]; exact Le.refl _
def Uq (x : Int) : Int := ((List.range 5).filter x.toNat.testBit).length
def isF (conf id : Int) : Bool := conf.toNat.testBit id.toNat
def Vw (a b : Int) : Int := (a.toNat &&& b.toNat : Nat)
def XE (conf some : Int) : Bool := decide (Uq conf < 2 * Uq (Vw conf some))
def Xl (id conf : Int) : Nd := ⟨id, 0, -1, 0, 0, conf, [], [], 0, 0, 0, 0, .all 0, .all 0⟩
def termF (n : Nd) (i : Int) : Int := if n.base + 1 ≤ i ∧ i < n.base + 1 + n.log.length then (n.log.getD (i - n.base - 1).toNat default).term else n.baseTerm
def QT (n : Nd) : Int := n.base + n.log.length
theorem Mm {x : Int} (h0 : 0 ≤ x) (h1 : x ≤ 31) : ∃ i : Fin 32, x = (i.val : Int) := ⟨⟨x.toNat, by omega⟩, by simp only; omega⟩
theorem Ze {K : Ctx} {t : Env} {b m : Nat} {e : TypeId} {cs : List T} {H1 : Qd} {Ψ : Exit → Env → Qd → Prop} {c : Code} (k : Nat) (hl : 0 < cs.length) (h : Sim K c ((k, .adr (.agg cs)) :: t) H1 Ψ) (hg : t.get k = .v (.pointer (some ⟨b, 0, none⟩)) := by rfl) : Sim K c t ((b, ⟨e, cs, m⟩) :: H1) Ψ := by
 have hcs : (T.agg cs).cells = cs := by simp [T.cells]
 refine Jl (G := [_]) (H1 := H1) [(k, .adr (.agg cs))] (by simp; rfl) ⟨?_, trivial⟩ h
 rw [hg]
 refine QB.ptr List.mem_cons_self (.inr ⟨_, rfl⟩) ?_ (by rwa [hcs]) (by rw [hcs]; exact Nat.le_refl _)
 rw [hcs]
 exact Qg.le (by rw [List.take_length]; exact LeL.refl _)
theorem Ln {p : Int → Prop} (h : ∀ i : Fin 32, p (i.val : Int)) {x : Int} (h0 : 0 ≤ x) (h1 : x ≤ 31) : p x := by
 obtain ⟨i, rfl⟩ := Mm h0 h1; exact h i
theorem JU {x : Int} (h0 : 0 ≤ x) (h1 : x ≤ 31) : IntKind.u64.wrap x = x := Ln (p := fun x => IntKind.u64.wrap x = x) (by decide) h0 h1
theorem AN {x : Int} (h0 : 0 ≤ x) (h1 : x ≤ 31) : 0 ≤ Uq x ∧ Uq x ≤ 5 := Ln (p := fun x => 0 ≤ Uq x ∧ Uq x ≤ 5) (by decide) h0 h1
theorem Nu {x y : Int} (h0 : 0 ≤ x) (h1 : x ≤ 31) (h2 : 0 ≤ y) (h3 : y ≤ 31) : Lk .i64 x y = Vw x y ∧ 0 ≤ Vw x y ∧ Vw x y ≤ 31 :=
 Ln (p := fun x => Lk .i64 x y = Vw x y ∧ 0 ≤ Vw x y ∧ Vw x y ≤ 31) (fun i => Ln (p := fun y => Lk .i64 i y = Vw i y ∧ 0 ≤ Vw i y ∧ Vw i y ≤ 31) (by revert i; decide) h2 h3) h0 h1
theorem N7 {x y : Int} (h0 : 0 ≤ x) (h1 : x ≤ 31) (h2 : 0 ≤ y) (h3 : y < 5) : decide (Lk .i64 (Lj .i64 x y) 1 = 1) = isF x y :=
 Ln (p := fun x => decide (Lk .i64 (Lj .i64 x y) 1 = 1) = isF x y) (fun i => Ln (p := fun y => decide (Lk .i64 (Lj .i64 i y) 1 = 1) = isF i y) (by revert i; decide) h2 (by omega)) h0 h1
theorem RQ (x : Int) (h0 : 0 ≤ x) (h1 : x ≤ 31) : FnP Tryz.prog 150 [.v (.int .u64 x)] (fun r => r = ei (Uq x)) := by
 refine fe Tryz.func150 fun S0 w0 => ?_
 show Sim _ _ [(0, T.v (.int .u64 x))] _ _
 refine zC ?_
 refine cr <| s_ Qb <| zC ?_
 refine cr <| s_ Qa <| s_ ZZ <| s_ Ux <| s_ Qa <| s_ Ux <| s_ WB <| s_ Qb <| zC ?_
 refine cr <| s_ Qa <| s_ ZZ <| s_ Ux <| s_ Qa <| s_ Ux <| s_ WB <| s_ Qb <| zC ?_
 refine cr <| s_ Qa <| s_ ZZ <| s_ Qa <| s_ WB <| s_ Ux <| s_ Qb <| zC ?_
 refine cr <| s_ Qa <| s_ Qa <| s_ ZZ <| s_ WB <| s_ Qb <| zC ?_
 refine cr <| s_ Qa <| s_ Qa <| s_ ZZ <| s_ WB <| s_ Qb <| zC ?_
 refine cr <| s_ Qa <| s_ Qa <| s_ ZZ <| s_ WB <| s_ Qb <| zC ?_
 refine cr <| s_ Qa <| s_ Yw <| s_ Ux <| s_ Qb <| zC ?_
 refine zE ?_
 obtain ⟨i, rfl⟩ := Mm h0 h1
 refine Le.of_eq (congrArg (fun z => T.v (.int .i64 z)) ?_)
 revert i; decide
theorem M8 (x : Int) (h0 : 0 ≤ x) (h1 : x ≤ 31) : FnP Tryz.prog 109 [.v (.int .u64 x)] (fun r => r = ei (Uq x)) := by
 have h64 := RQ x h0 h1
 refine fe Tryz.func109 fun S0 w0 => ?_
 show Sim _ _ [(0, T.v (.int .u64 x))] _ _
 refine zC ?_
 refine cr <| s_ Qb <| zC ?_
 refine ci (p := False) (fun h => h.elim) (fun _ => ?_) (by rfl)
 refine zC ?_
 refine cr <| s_ Qa <| s_ (QM (h64)) <| s_ Qb <| zC ?_
 refine zE ?_
 exact Le.refl _
def big : Int := 1000000000000
theorem CG (id conf : Int) (h0 : 0 ≤ id) (h1 : id < 5) (h2 : 0 ≤ conf) (h3 : conf ≤ 31) : FnP Tryz.prog 66 [ei id, ei conf] (fun r => r = nd (Xl id conf)) := by
 refine fe Tryz.func66 fun S0 w0 => ?_
 show Sim _ _ [(0, ei id), (1, ei conf)] _ _
 have ht : id.tmod 5 = id := Int.tmod_eq_of_lt h0 h1
 have ht2 : (id.tmod 5 + 5).tmod 5 = id := by rw [ht, Int.tmod_eq_emod_of_nonneg (by omega)]; omega
 have hc : Lk .i64 conf 31 = conf := Ln (p := fun x => Lk .i64 x 31 = x) (by decide) h2 h3
 refine zC ?_
 apply cr
 refine X2 fun b4 _ => ?_
 refine zC ?_
 refine cr <| s_ Qa <| s_ Wz <| s_ Q6 <| s_ Wz <| s_ Qa <| s_ Ux <| s_ (ZG 22 [_, _, _, _, _, _, _, _, _, _, _, _, _, _, _, _, _, _, _, _, _, _]) <| Qz ?_
 refine zC ?_
 refine zE ?_
 simp only [ht2, hc]
 show Le (.agg _) (.agg (Qs _ _))
 exact zL
theorem TJ (conf id : Int) (h0 : 0 ≤ id) (h1 : id < 5) (h2 : 0 ≤ conf) (h3 : conf ≤ 31) : FnP Tryz.prog 107 [ei conf, ei id] (fun r => r = eB (isF conf id)) := by
 refine fe Tryz.func107 fun S0 w0 => ?_
 show Sim _ _ [(0, ei conf), (1, ei id)] _ _
 have hw := JU h0 (by omega)
 refine zC ?_
 refine cr <| s_ Qb <| zC ?_
 refine cr <| s_ Qa <| s_ Qa <| s_ Yw <| s_ ZZ <| s_ Ux <| s_ Xi <| s_ Qb <| zC ?_
 refine zE ?_
 rw [JU h0 (by omega), N7 h2 h3 h0 h1]
 exact Le.refl _
theorem Db (conf some : Int) (h0 : 0 ≤ some) (h1 : some ≤ 31) (h2 : 0 ≤ conf) (h3 : conf ≤ 31) : FnP Tryz.prog 146 [ei conf, ei some] (fun r => r = eB (XE conf some)) := by
 have hb := Nu h2 h3 h0 h1
 have o1 := M8 (Vw conf some) hb.2.1 hb.2.2
 have o2 := M8 conf h2 h3
 have l1 := AN hb.2.1 hb.2.2
 have l2 : Uq (IntKind.u64.wrap (Lk .i64 conf some)) = Uq (Vw conf some) := by rw [hb.1, JU hb.2.1 hb.2.2]
 have w1 := JU hb.2.1 hb.2.2
 have w2 := JU h2 h3
 rw [← w1, ← hb.1, l2] at o1
 rw [← w2] at o2
 refine fe Tryz.func146 fun S0 w0 => ?_
 show Sim _ _ [(0, ei conf), (1, ei some)] _ _
 refine zC ?_
 refine cr <| s_ Qb <| zC ?_
 refine cr <| s_ Qa <| s_ Qa <| s_ Ux <| s_ Yw <| s_ (QM (o1)) <| s_ T1 <| s_ Qa <| s_ Yw <| s_ (QM (o2)) <| s_ Ys <| s_ Qb <| zC ?_
 refine zE ?_
 rw [w2]
 exact Le.refl _
theorem UZ (n : Nd) (i : Int) (hl : n.log.length ≤ 1000000000) (hb1 : -big ≤ n.base) (hb2 : n.base ≤ big) (hi1 : -big ≤ i) (hi2 : i ≤ big) : FnP Tryz.prog 110 [.adr (nd n), ei i] (fun r => r = ei (termF n i)) := by
 refine fe Tryz.func110 fun S0 w0 => ?_
 show Sim _ _ [(0, T.adr (.agg (Qs n (.sl false (n.log.map een))))), (1, ei i)] _ _
 simp only [big] at hb1 hb2 hi1 hi2
 refine zC ?_
 refine cr <| s_ Qb <| zC ?_
 refine cr <| s_ Qa <| s_ Qa <| s_ Qe ?_
 (first | refine s_ Qu ?_ | refine s_ Qc ?_)
 (first | refine s_ Qm ?_ | refine s_ Qj ?_)
 refine s_ ZF <| s_ ZF <| s_ Qb <| zC ?_
 refine cr <| s_ Qa <| s_ Vd <| s_ Qa <| gT (fun hg => Qa) ?_
 refine gT (fun hg => Qa) ?_
 refine gT (fun hg => Qe (hx := u_ hg)) ?_
 (first | refine gT (fun hg => Qu (hx := u_ hg)) ?_ | refine gT (fun hg => Qc (hx := u_ hg)) ?_)
 (first | refine gT (fun hg => Qm (hx := u_ hg)) ?_ | refine gT (fun hg => Qj (hx := u_ hg)) ?_)
 (first | refine gT (fun hg => QX (hx := u_ hg)) ?_ | refine gT (fun hg => QQ (hx := u_ hg)) ?_)
 refine gT (fun hg => Q2 (hx := u_ hg) (hy := u_ hg)) ?_
 refine s_ Yh <| zC ?_
 refine ci ?_ ?_
 ·intro hc
  simp only [List.length_map] at hc
  refine zC ?_
  refine cr <| s_ Qa <| s_ Qe ?_
  (first | refine s_ Qu ?_ | refine s_ Qc ?_)
  (first | refine s_ Qm ?_ | refine s_ Qj ?_)
  refine s_ Qa ?_
  (first | refine s_ (Xh hix) ?_ | refine s_ (Xh hix2) ?_ | refine s_ YM ?_ | refine s_ Y8 ?_)
  (first | refine s_ Qu ?_ | refine s_ Qc ?_)
  (first | refine s_ Qm ?_ | refine s_ Qj ?_)
  refine s_ Qb <| zC ?_
  refine zE ?_
  rw [termF, if_pos (by omega)]
  exact Le.refl _
 ·intro hc
  simp only [List.length_map] at hc
  refine zC ?_
  refine cr <| s_ Qa <| s_ Qe ?_
  (first | refine s_ Qu ?_ | refine s_ Qc ?_)
  (first | refine s_ Qm ?_ | refine s_ Qj ?_)
  refine s_ Qb <| zC ?_
  refine zE ?_
  rw [termF, if_neg (by omega)]
  exact Le.refl _
theorem JG (n : Nd) (hl : n.log.length ≤ 1000000000) (hb1 : -100000000000 ≤ n.base) (hb2 : n.base ≤ 100000000000) : FnP Tryz.prog 143 [nd n] (fun r => r = .tup [ei (QT n), ei (termF n (QT n))]) := by
 have ht := UZ n (QT n) hl (by simp only [big]; omega) (by simp only [big]; omega) (by simp only [big, QT]; omega) (by simp only [big, QT]; omega)
 have hlf : QT n = n.base + ((n.log.map een).length : Nat) := by simp [QT]
 rw [hlf] at ht ⊢
 refine fe Tryz.func143 fun S0 w0 => ?_
 show Sim _ _ [(0, T.agg (Qs n (.sl false (n.log.map een))))] _ _
 refine zC ?_
 apply cr
 refine X1 fun b1 _ => ?_
 refine s_ Qb <| s_ Qb <| zC ?_
 refine Ze 1 (by simp [Qs]) ?_
 refine zC ?_
 refine cr <| s_ Qu <| s_ Qm <| s_ Qu <| s_ Qm ?_
 (first | refine s_ QX ?_ | refine s_ QQ ?_)
 refine s_ Q6 <| s_ Qb <| zC ?_
 refine cr <| s_ Qa <| s_ Qa <| s_ (QM (ht)) <| s_ Qb <| s_ Qb <| zC ?_
 refine zE ?_
 exact Le.refl _
theorem Vx (n : Nd) (hl : n.log.length ≤ 1000000000) (hb1 : -1000000000000 ≤ n.base) (hb2 : n.base ≤ 1000000000000) : FnP Tryz.prog 32 [nd n] (fun r => r = ei (Qx n).2) := by
 have ht := Dw n hl hb1 hb2
 refine fe Tryz.func32 fun S0 w0 => ?_
 show Sim _ _ [(0, T.agg (Qs n (.sl false (n.log.map een))))] _ _
 refine zC ?_
 apply cr
 refine X1 fun b1 _ => ?_
 refine s_ Qb <| zC ?_
 refine Ze 1 (by simp [Qs]) ?_
 refine zC ?_
 refine cr <| s_ (QM (ht)) <| s_ Qa <| s_ QD <| s_ QD <| s_ Qb <| s_ Qb <| zC ?_
 refine cr <| s_ Qa <| s_ Qb <| zC ?_
 refine zE ?_
 exact Le.refl _
end Go.Proofs.YtjbokbikkcfjjaaGreat
namespace Go.Proofs.YtjbokbikkcfjjaaGreat
namespace Raft
def AG (l m : List En) (k : Nat) : Prop := k ≤ l.length ∧ k ≤ m.length ∧ l.take k = m.take k
theorem AG.symm {l m : List En} {k : Nat} (h : AG l m k) : AG m l k := ⟨h.2.1, h.1, h.2.2.symm⟩
theorem AG.trans {l m n : List En} {k : Nat} (h : AG l m k) (h' : AG m n k) : AG l n k := ⟨h.1, h'.2.1, h.2.2.trans h'.2.2⟩
theorem AG.le {l m : List En} {k j : Nat} (h : AG l m k) (hj : j ≤ k) : AG l m j := by
 refine ⟨Nat.le_trans hj h.1, Nat.le_trans hj h.2.1, ?_⟩
 have := congrArg (List.take j) h.2.2
 rwa [List.take_take, List.take_take, Nat.min_eq_left hj] at this
theorem AG.refl {l : List En} {k : Nat} (h : k ≤ l.length) : AG l l k := ⟨h, h, rfl⟩
theorem AG.zero (l m : List En) : AG l m 0 := ⟨Nat.zero_le _, Nat.zero_le _, by simp⟩
theorem AG.get {l m : List En} {k i : Nat} (h : AG l m k) (hi : i < k) : l[i]? = m[i]? := by
 have := congrArg (fun x => x[i]?) h.2.2
 simpa [List.getElem?_take, hi] using this
theorem BY (l m : List En) : ∃ a, AG l m a ∧ ∀ k, AG l m k → k ≤ a := by
 have key : ∀ n, ∃ a, AG l m a ∧ ∀ k, k ≤ n → AG l m k → k ≤ a := by
  intro n
  induction n with
  | zero => exact ⟨0, AG.zero _ _, fun k hk _ => hk⟩
  | succ n ih =>
   obtain ⟨a, ha, hm⟩ := ih
   by_cases h : AG l m (n + 1)
   ·exact ⟨n + 1, h, fun k hk _ => hk⟩
   ·refine ⟨a, ha, fun k hk hag => ?_⟩
    rcases Nat.lt_or_ge k (n + 1) with h' | h'
    ·exact hm k (by omega) hag
    ·have : k = n + 1 := by omega
     subst this; exact absurd hag h
 obtain ⟨a, ha, hm⟩ := key l.length
 exact ⟨a, ha, fun k hk => hm k hk.1 hk⟩
def QI (c0 : Int) (l : List En) : Int := l.foldl (fun c e => if e.conf = 0 then c else e.conf) c0
theorem VH (c0 : Int) (l m : List En) : QI c0 (l ++ m) = QI (QI c0 l) m := List.foldl_append
theorem UN : ∀ (m : List En) (c : Int), (∀ e ∈ m, e.conf = 0) → QI c m = c
 | [], _, _ => rfl
 | e :: m, c, h => by
  show QI (if e.conf = 0 then c else e.conf) m = c
  rw [if_pos (h e List.mem_cons_self)]
  exact UN m c fun x hx => h x (List.mem_cons_of_mem _ hx)
theorem Xu {c0 : Int} {l : List En} {a : Nat} (h : ∀ j e, a ≤ j → l[j]? = some e → e.conf = 0) : QI c0 l = QI c0 (l.take a) := by
 conv => lhs; rw [← List.take_append_drop a l]
 rw [VH]
 refine UN _ _ fun e he => ?_
 obtain ⟨i, hi⟩ := List.mem_iff_getElem?.1 he
 rw [List.getElem?_drop] at hi
 exact h (a + i) e (by omega) hi
theorem Un {c0 : Int} {l : List En} {j : Nat} {e : En} (he : l[j]? = some e) (hc : e.conf ≠ 0) (h : ∀ i e, j < i → l[i]? = some e → e.conf = 0) : QI c0 l = e.conf := by
 have hj : j < l.length := (List.getElem?_eq_some_iff.1 he).1
 rw [Xu (a := j + 1) (fun i x hi hx => h i x hi hx), List.take_succ_eq_append_getElem hj, VH]
 have : l[j] = e := (List.getElem?_eq_some_iff.1 he).2
 rw [this]
 show (if e.conf = 0 then _ else e.conf) = _
 rw [if_neg hc]
def LE (c d : Int) : Prop := 0 ≤ c ∧ c ≤ 31 ∧ 0 ≤ d ∧ d ≤ 31 ∧ (c = d ∨ ∃ i : Nat, i < 5 ∧ d.toNat = c.toNat ^^^ 2 ^ i)
theorem LE.symm {c d : Int} (h : LE c d) : LE d c := by
 obtain ⟨h1, h2, h3, h4, h5⟩ := h
 refine ⟨h3, h4, h1, h2, h5.elim (fun e => .inl e.symm) fun ⟨i, hi, e⟩ => .inr ⟨i, hi, ?_⟩⟩
 rw [e, Nat.xor_assoc, Nat.xor_self, Nat.xor_zero]
theorem RR : ∀ c s t : Fin 32, s.val &&& t.val = s.val → XE c.val s.val = true → XE c.val t.val = true := by decide +kernel
theorem Gr : ∀ c s : Fin 32, XE c.val s.val = true → XE c.val ((31 - s.val : Nat) : Int) = true → False := by decide +kernel
theorem D9 : ∀ c s : Fin 32, ∀ i : Fin 5, XE c.val s.val = true → XE ((c.val ^^^ 2 ^ i.val : Nat) : Int) ((31 - s.val : Nat) : Int) = true → False := by decide +kernel
theorem Rm : ∀ s t : Fin 32, (∀ i : Fin 5, ¬ (s.val.testBit i.val = true ∧ t.val.testBit i.val = true)) → t.val &&& (31 - s.val) = t.val := by decide +kernel
theorem N1 {c d : Int} (h : LE c d) {s t : Nat} (hs : s < 32) (ht : t < 32) (h1 : XE c s = true) (h2 : XE d t = true) : ∃ i, i < 5 ∧ s.testBit i = true ∧ t.testBit i = true := by
 refine Classical.byContradiction fun hn => ?_
 have hsub := Rm ⟨s, hs⟩ ⟨t, ht⟩ fun i hi => hn ⟨i.val, i.isLt, hi.1, hi.2⟩
 dsimp only at hsub
 obtain ⟨hc0, hc1, hd0, hd1, h5⟩ := h
 obtain ⟨c, rfl⟩ : ∃ n : Nat, c = (n : Int) := ⟨c.toNat, by omega⟩
 obtain ⟨d, rfl⟩ : ∃ n : Nat, d = (n : Int) := ⟨d.toNat, by omega⟩
 have h3 := RR ⟨d, by omega⟩ ⟨t, ht⟩ ⟨31 - s, by omega⟩ hsub h2
 rcases h5 with e | ⟨i, hi, e⟩
 ·have e' : c = d := by omega
  subst e'
  exact Gr ⟨c, by omega⟩ ⟨s, hs⟩ h1 h3
 ·simp only [Int.toNat_natCast] at e
  subst e
  exact D9 ⟨c, by omega⟩ ⟨s, hs⟩ ⟨i, hi⟩ h1 h3
end Raft
namespace Raft
structure Xm where
 c0 : Int
 bd : Nat
 LL : Int → List En
 EL : Int → Nat
 led : Int → Prop
 ld : Int → Nat
 CL : Int → Nat → List En
 vote : Int → Nat → Nat → Prop
 late : Int → Nat → Nat → Prop
 ack : Int → Nat → Nat → Prop
 cmt : Int → Nat → Nat → Prop
variable (H : Xm)
def Xj (l : List En) : Prop := ∀ (j : Nat) (e : En), l[j]? = some e → H.led e.term ∧ AG l (H.LL e.term) (j + 1)
def ZJ (l : List En) : Int := match l.getLast? with
 | some e => e.term
 | none => 0
def Ae (v x : List En) : Prop := ZJ v < ZJ x ∨ (ZJ v = ZJ x ∧ v.length ≤ x.length)
def JJ (T : Int) (c : Nat) : Prop := ∃ s : Nat, s < 32 ∧ XE (QI H.c0 (H.CL T c)) s = true ∧ ∀ i, i < 5 → s.testBit i = true → H.vote T i c
structure Qo : Prop where
 c00 : 0 ≤ H.c0
 c01 : H.c0 ≤ 31
 cr : ∀ t e, H.led t → e ∈ H.LL t → 0 ≤ e.conf ∧ e.conf ≤ 31
 ld5 : ∀ t, H.led t → H.ld t < 5
 lled : ∀ T v c, H.late T v c → H.led T
 vpos : ∀ T v c, H.vote T v c → 0 < T
 lbd : ∀ t, H.led t → (H.LL t).length ≤ H.bd
 ackl : ∀ S v k, H.ack S v k → H.led S ∧ k ≤ (H.LL S).length
 pos : ∀ t, H.led t → 0 < t
 cons : ∀ t, H.led t → Xj H (H.LL t)
 len : ∀ t, H.led t → H.EL t ≤ (H.LL t).length
 old : ∀ t j e, H.led t → (H.LL t)[j]? = some e → j < H.EL t → e.term < t
 own : ∀ t j e, H.led t → (H.LL t)[j]? = some e → H.EL t ≤ j → e.term = t
 cl : ∀ t, H.led t → AG (H.CL t (H.ld t)) (H.LL t) (H.EL t) ∧ (H.CL t (H.ld t)).length = H.EL t
 win : ∀ t, H.led t → ∃ s : Nat, s < 32 ∧ XE (QI H.c0 (H.CL t (H.ld t))) s = true ∧ ∀ i, i < 5 → s.testBit i = true → H.vote t i (H.ld t) ∧ ¬ H.late t i (H.ld t)
 once : ∀ T v c c', H.vote T v c → H.vote T v c' → c = c'
 voted : ∀ T v c, H.vote T v c → Xj H (H.CL T c) ∧ (∀ (j : Nat) (e : En), (H.CL T c)[j]? = some e → e.term < T) ∧ ∃ VL, Xj H VL ∧ Ae VL (H.CL T c) ∧
  ∀ S k, S < T → H.ack S v k → AG (H.LL S) VL k ∨ ∃ t, S < t ∧ t ≤ T ∧ H.led t ∧ (t = T → H.late T v c) ∧ ¬ AG (H.LL S) (H.CL t (H.ld t)) k
 com : ∀ S k n, H.cmt S k n → H.led S ∧ H.EL S < k ∧ k ≤ n ∧ n ≤ (H.LL S).length ∧ ∃ s : Nat, s < 32 ∧ XE (QI H.c0 ((H.LL S).take n)) s = true ∧ ∀ i, i < 5 → s.testBit i = true → H.ack S i k
 chg : ∀ S j e, H.led S → (H.LL S)[j]? = some e → H.EL S ≤ j → e.conf ≠ 0 → LE (QI H.c0 ((H.LL S).take j)) e.conf ∧ ∃ c n, H.cmt S c n ∧ n ≤ j ∧ ∀ i e', i < j → (H.LL S)[i]? = some e' → e'.conf ≠ 0 → i < c
variable {H}
theorem Mx : ∀ (l : List En) (c : Int), QI c l = c ∨ ∃ e ∈ l, QI c l = e.conf
 | [], _ => .inl rfl
 | e :: l, c => by
  have h : QI c (e :: l) = QI (if e.conf = 0 then c else e.conf) l := rfl
  rcases Mx l (if e.conf = 0 then c else e.conf) with h1 | ⟨x, hx, h1⟩
  ·rw [h, h1]
   split
   ·exact .inl rfl
   ·exact .inr ⟨e, List.mem_cons_self, rfl⟩
  ·exact .inr ⟨x, List.mem_cons_of_mem _ hx, by rw [h, h1]⟩
theorem Qo.conf (F : Qo H) (l : List En) (hl : Xj H l) : 0 ≤ QI H.c0 l ∧ QI H.c0 l ≤ 31 := by
 rcases Mx l H.c0 with h | ⟨e, he, h⟩
 ·rw [h]; exact ⟨F.c00, F.c01⟩
 ·obtain ⟨j, hj⟩ := List.mem_iff_getElem?.1 he
  obtain ⟨h1, h2⟩ := hl j e hj
  rw [h]
  exact F.cr _ e h1 (List.mem_of_getElem? (by rw [← h2.get (Nat.lt_succ_self j)]; exact hj))
theorem Xj.mono (F : Qo H) {l : List En} (hc : Xj H l) {i j : Nat} {a b : En} (hi : l[i]? = some a) (hj : l[j]? = some b) (hij : i ≤ j) : a.term ≤ b.term := by
 obtain ⟨h1, h2⟩ := hc j b hj
 have e := h2.get (i := i) (by omega)
 rw [hi] at e
 by_cases h : i < H.EL b.term
 ·have := F.old b.term i a h1 e.symm h; omega
 ·have := F.own b.term i a h1 e.symm (by omega); omega
theorem Xj.own (F : Qo H) {l : List En} (hc : Xj H l) {j : Nat} {e : En} (hj : l[j]? = some e) : H.EL e.term ≤ j ∧ (H.LL e.term)[j]? = some e := by
 obtain ⟨h1, h2⟩ := hc j e hj
 have hg := h2.get (i := j) (by omega)
 rw [hj] at hg
 refine ⟨Nat.le_of_not_lt fun h => ?_, hg.symm⟩
 have := F.old e.term j e h1 hg.symm h; omega
theorem Ac (F : Qo H) {v x : List En} (hv : Xj H v) (hx : Xj H x) (hu : Ae v x) {P : List En} {k : Nat} {S : Int} (hS : 0 < S) (hk : 0 < k) (hp : AG P v k) {e : En} (he : P[k - 1]? = some e) (hes : e.term = S)
  (hlate : ∀ t, S < t → (∃ (j : Nat) (e : En), x[j]? = some e ∧ e.term = t) → AG P (H.LL t) k ∧ k ≤ H.EL t) : AG P x k := by
 have hvl : k ≤ v.length := hp.2.1
 have hne : v ≠ [] := by intro h; rw [h] at hvl; simp at hvl; omega
 obtain ⟨ev, hev⟩ : ∃ ev, v[v.length - 1]? = some ev := ⟨v[v.length - 1]'(by omega), List.getElem?_eq_getElem _⟩
 have hlv : ZJ v = ev.term := by unfold ZJ; rw [List.getLast?_eq_getElem?, hev]
 have hvk : v[k - 1]? = some e := by rw [← hp.get (by omega)]; exact he
 have hSv : S ≤ ev.term := by have := Xj.mono F hv hvk hev (by omega); omega
 have hxne : x ≠ [] := by
  intro h
  subst h
  rcases hu with h | ⟨_, h⟩
  ·rw [hlv, show ZJ [] = 0 from rfl] at h; omega
  ·simp at h; exact hne h
 have hxl : 0 < x.length := List.length_pos_iff.2 hxne
 obtain ⟨ex, hex⟩ : ∃ ex, x[x.length - 1]? = some ex := ⟨x[x.length - 1]'(by omega), List.getElem?_eq_getElem _⟩
 have hlx : ZJ x = ex.term := by unfold ZJ; rw [List.getLast?_eq_getElem?, hex]
 obtain ⟨_, hcx⟩ := hx _ _ hex
 rw [show x.length - 1 + 1 = x.length by omega] at hcx
 rcases hu with h | ⟨h, hl⟩
 ·rw [hlv, hlx] at h
  obtain ⟨h1, h2⟩ := hlate ex.term (by omega) ⟨_, ex, hex, rfl⟩
  have h3 := (Xj.own F hx hex).1
  exact h1.trans (hcx.symm.le (by omega))
 ·rw [hlv, hlx] at h
  obtain ⟨_, hcv⟩ := hv _ _ hev
  rw [show v.length - 1 + 1 = v.length by omega, h] at hcv
  exact hp.trans ((hcv.trans (hcx.symm.le hl)).le hvl)
def good (H : Xm) (T : Int) (c : Nat) : Prop := ∃ s : Nat, s < 32 ∧ XE (QI H.c0 (H.CL T c)) s = true ∧ ∀ i, i < 5 → s.testBit i = true → H.vote T i c ∧ (H.late T i c → H.led T → ∀ S k n, H.cmt S k n → S < T → AG (H.LL S) (H.CL T (H.ld T)) k)
theorem Qo.wins (F : Qo H) {t : Int} (h : H.led t) : JJ H t (H.ld t) := by
 obtain ⟨s, h1, h2, h3⟩ := F.win t h
 exact ⟨s, h1, h2, fun i hi hb => (h3 i hi hb).1⟩
theorem Qo.good (F : Qo H) {t : Int} (h : H.led t) : good H t (H.ld t) := by
 obtain ⟨s, h1, h2, h3⟩ := F.win t h
 exact ⟨s, h1, h2, fun i hi hb => ⟨(h3 i hi hb).1, fun hl => absurd hl (h3 i hi hb).2⟩⟩
theorem It (F : Qo H) {T : Int} {c : Nat} (hel : good H T c) (IH : ∀ t, t < T → H.led t → ∀ S k n, H.cmt S k n → S < t → AG (H.LL S) (H.CL t (H.ld t)) k) :
  ∀ (S : Int) (n : Nat), S < T → (∀ S' n', S' < S → S' < T → ∀ k, H.cmt S' k n' → AG (H.LL S') (H.CL T c) k) → (∀ n', n' < n → ∀ k, H.cmt S k n' → AG (H.LL S) (H.CL T c) k) → ∀ k, H.cmt S k n → AG (H.LL S) (H.CL T c) k := by
 intro S n hST IHS IHn k hk
 refine Classical.byContradiction fun hno => ?_
 obtain ⟨hled, hEk, hkn, hnl, s, hs32, hmost, hacks⟩ := F.com S k n hk
 obtain ⟨s', hs32', hmost', hvotes⟩ := hel
 have hvot : ∃ v, H.vote T v c := by
  refine Classical.byContradiction fun h => ?_
  have : s' = 0 := by
   refine Nat.eq_of_testBit_eq fun i => ?_
   rw [Nat.zero_testBit]
   by_cases hi : i < 5
   ·cases hb : s'.testBit i with
    | false => rfl
    | true => exact absurd ⟨i, (hvotes i hi hb).1⟩ h
   ·exact Nat.testBit_lt_two_pow (Nat.lt_of_lt_of_le hs32' (by
     have : 2 ^ 5 ≤ 2 ^ i := Nat.pow_le_pow_right (by decide) (by omega)
     simpa using this))
  rw [this] at hmost'
  have hz : ∀ c : Int, XE c ((0 : Nat) : Int) = false := by
   intro c
   have : (List.range 5).filter (Nat.testBit 0) = [] := by decide
   simp [XE, Vw, Uq, this]
  rw [hz] at hmost'
  cases hmost'
 obtain ⟨v0, hv0⟩ := hvot
 obtain ⟨hXc, hXT, _⟩ := F.voted T v0 c hv0
 generalize hX : H.CL T c = X at *
 obtain ⟨a, ha, hmax⟩ := BY (H.LL S) X
 have hak : a < k := by
  rcases Nat.lt_or_ge a k with h | h
  ·exact h
  ·exact absurd (ha.le h) hno
 have hLc := F.cons S hled
 have one1 : ∀ j1 j2 e1 e2, a ≤ j1 → j1 < j2 → j2 < n → (H.LL S)[j1]? = some e1 → (H.LL S)[j2]? = some e2 → e1.conf ≠ 0 → e2.conf ≠ 0 → False := by
  intro j1 j2 e1 e2 h1 h2 h3 g1 g2 c1 c2
  obtain ⟨hl2, hag2⟩ := hLc j2 e2 g2
  obtain ⟨hE2, hg2⟩ := Xj.own F hLc g2
  obtain ⟨_, cc, nn, hcm, hnj, hcov⟩ := F.chg e2.term j2 e2 hl2 hg2 hE2 c2
  have hj1c : j1 < cc := hcov j1 e1 h2 (by rw [← hag2.get (by omega)]; exact g1) c1
  obtain ⟨_, _, hcn, _, _⟩ := F.com _ _ _ hcm
  have hle : e2.term ≤ S := by
   by_cases h : j2 < H.EL S
   ·have := F.old S j2 e2 hled g2 h; omega
   ·have := F.own S j2 e2 hled g2 (by omega); omega
  have hpre : AG (H.LL e2.term) X cc := by
   rcases Int.lt_or_eq_of_le hle with h | h
   ·exact IHS e2.term nn h (by omega) cc hcm
   ·rw [h] at hcm ⊢; exact IHn nn (by omega) cc hcm
  have := hmax cc ((hag2.le (by omega)).trans hpre)
  omega
 have one2 : ∀ j1 j2 e1 e2, a ≤ j1 → j1 < j2 → X[j1]? = some e1 → X[j2]? = some e2 → e1.conf ≠ 0 → e2.conf ≠ 0 → False := by
  intro j1 j2 e1 e2 h1 h2 g1 g2 c1 c2
  obtain ⟨hl2, hag2⟩ := hXc j2 e2 g2
  obtain ⟨hE2, hg2⟩ := Xj.own F hXc g2
  have ht2 := hXT j2 e2 g2
  obtain ⟨_, cc, nn, hcm, hnj, hcov⟩ := F.chg e2.term j2 e2 hl2 hg2 hE2 c2
  have hj1c : j1 < cc := hcov j1 e1 h2 (by rw [← hag2.get (by omega)]; exact g1) c1
  obtain ⟨_, _, hcn, _, _⟩ := F.com _ _ _ hcm
  rcases Int.lt_trichotomy e2.term S with h | h | h
  ·have h5 := IH S hST hled e2.term cc nn hcm h
   have h6 := (F.cl S hled)
   have h7 : AG (H.LL e2.term) (H.LL S) cc := h5.trans (h6.1.le (by have := h5.2.1; omega))
   have := hmax cc (h7.symm.trans (hag2.symm.le (by omega)))
   omega
  ·rw [h] at hag2
   have := hmax (j2 + 1) hag2.symm
   omega
  ·have h5 := IH e2.term ht2 hl2 S k n hk h
   have h6 := (F.cl e2.term hl2)
   have hkE : k ≤ H.EL e2.term := by have := h5.2.1; omega
   have h7 : AG (H.LL S) (H.LL e2.term) k := h5.trans (h6.1.le hkE)
   exact hno (h7.trans (hag2.symm.le (by omega)))
 have notboth : ∀ j j' e e', a ≤ j → j < n → a ≤ j' → (H.LL S)[j]? = some e → X[j']? = some e' → e.conf ≠ 0 → e'.conf ≠ 0 → False := by
  intro j j' e e' h1 h2 h3 g g' cc cc'
  obtain ⟨hl, hag⟩ := hLc j e g
  obtain ⟨hE, hg⟩ := Xj.own F hLc g
  obtain ⟨hl', hag'⟩ := hXc j' e' g'
  obtain ⟨hE', hg'⟩ := Xj.own F hXc g'
  have ht' := hXT j' e' g'
  have hle : e.term ≤ S := by
   by_cases h : j < H.EL S
   ·have := F.old S j e hled g h; omega
   ·have := F.own S j e hled g (by omega); omega
  rcases Int.lt_trichotomy e.term e'.term with hlt | heq | hgt
  ·obtain ⟨_, c2, n2, hcm, hnj, _⟩ := F.chg e'.term j' e' hl' hg' hE' cc'
   obtain ⟨_, hE2, hcn, hn2, _⟩ := F.com _ _ _ hcm
   rcases Int.lt_trichotomy e'.term S with h | h | h
   ·have h5 := IH S hST hled e'.term c2 n2 hcm h
    have h6 := (F.cl S hled)
    have h7 : AG (H.LL e'.term) (H.LL S) c2 := h5.trans (h6.1.le (by have := h5.2.1; omega))
    obtain ⟨ec, hec⟩ : ∃ ec, (H.LL e'.term)[c2 - 1]? = some ec := ⟨(H.LL e'.term)[c2 - 1]'(by omega), List.getElem?_eq_getElem _⟩
    have hect := F.own e'.term (c2 - 1) ec hl' hec (by omega)
    have hecS : (H.LL S)[c2 - 1]? = some ec := by rw [← h7.get (by omega)]; exact hec
    have hjc : j < c2 - 1 := by
     rcases Nat.lt_or_ge j (c2 - 1) with h8 | h8
     ·exact h8
     ·have := Xj.mono F hLc hecS g h8; omega
    have := hmax (j + 1) ((h7.symm.le (by omega)).trans (hag'.symm.le (by omega)))
    omega
   ·rw [h] at hag'
    have := hmax (j' + 1) hag'.symm
    omega
   ·have h5 := IH e'.term ht' hl' S k n hk h
    have h6 := (F.cl e'.term hl')
    have hkE : k ≤ H.EL e'.term := by have := h5.2.1; omega
    have h7 : AG (H.LL S) (H.LL e'.term) k := h5.trans (h6.1.le hkE)
    exact hno (h7.trans (hag'.symm.le (by omega)))
  ·rw [← heq] at hag'
   rcases Nat.le_total j j' with h | h
   ·have := hmax (j + 1) (hag.trans (hag'.symm.le (by omega)))
    omega
   ·have := hmax (j' + 1) ((hag.le (by omega)).trans hag'.symm)
    omega
  ·obtain ⟨_, c1, n1, hcm, hnj, _⟩ := F.chg e.term j e hl hg hE cc
   obtain ⟨_, hE1, hcn, hn1, _⟩ := F.com _ _ _ hcm
   obtain ⟨ec, hec⟩ : ∃ ec, (H.LL e.term)[c1 - 1]? = some ec := ⟨(H.LL e.term)[c1 - 1]'(by omega), List.getElem?_eq_getElem _⟩
   have hect := F.own e.term (c1 - 1) ec hl hec (by omega)
   have hecS : (H.LL S)[c1 - 1]? = some ec := by rw [hag.get (by omega)]; exact hec
   rcases Nat.lt_or_ge a c1 with h | h
   ·have hpre : AG (H.LL e.term) X c1 := by
     rcases Int.lt_or_eq_of_le hle with h8 | h8
     ·exact IHS e.term n1 h8 (by omega) c1 hcm
     ·rw [h8] at hcm ⊢; exact IHn n1 (by omega) c1 hcm
    have := hmax c1 ((hag.le (by omega)).trans hpre)
    omega
   ·have hecX : X[c1 - 1]? = some ec := by rw [← ha.get (by omega)]; exact hecS
    have := Xj.mono F hXc hecX g' (by omega)
    omega
 have hnear : LE (QI H.c0 ((H.LL S).take n)) (QI H.c0 X) := by
  have htake : (H.LL S).take a = X.take a := ha.2.2
  by_cases g1 : ∃ j e, a ≤ j ∧ j < n ∧ (H.LL S)[j]? = some e ∧ e.conf ≠ 0
  ·obtain ⟨j, e, h1, h2, h3, h4⟩ := g1
   have hcX : QI H.c0 X = QI H.c0 (X.take a) := Xu fun j' e' h5 h6 => Classical.byContradiction fun h7 => notboth j j' e e' h1 h2 h5 h3 h6 h4 h7
   have hcL : QI H.c0 ((H.LL S).take n) = e.conf := Un (j := j) (by rw [List.getElem?_take, if_pos h2]; exact h3) h4 fun i e' h5 h6 => by
    rw [List.getElem?_take] at h6
    split at h6
    ·rename_i h7
     exact Classical.byContradiction fun h8 => one1 j i e e' h1 h5 h7 h3 h6 h4 h8
    ·cases h6
   obtain ⟨hl, hag⟩ := hLc j e h3
   obtain ⟨hE, hg⟩ := Xj.own F hLc h3
   have hnr := (F.chg e.term j e hl hg hE h4).1
   have hcj : QI H.c0 ((H.LL S).take j) = QI H.c0 ((H.LL S).take a) := by
    rw [Xu (l := (H.LL S).take j) (a := a) fun i e' h5 h6 => ?_, List.take_take, Nat.min_eq_left h1]
    rw [List.getElem?_take] at h6
    split at h6
    ·rename_i h7
     exact Classical.byContradiction fun h8 => one1 i j e' e h5 h7 h2 h6 h3 h8 h4
    ·cases h6
   rw [← (hag.le (show j ≤ j + 1 by omega)).2.2, hcj] at hnr
   rw [hcX, hcL, ← htake]
   exact hnr.symm
  ·have hcL : QI H.c0 ((H.LL S).take n) = QI H.c0 ((H.LL S).take a) := by
    rw [Xu (l := (H.LL S).take n) (a := a) fun i e' h5 h6 => ?_, List.take_take, Nat.min_eq_left (by omega)]
    rw [List.getElem?_take] at h6
    split at h6
    ·rename_i h7
     exact Classical.byContradiction fun h8 => g1 ⟨i, e', h5, h7, h6, h8⟩
    ·cases h6
   by_cases g2 : ∃ j e, a ≤ j ∧ X[j]? = some e ∧ e.conf ≠ 0
   ·obtain ⟨j, e, h1, h3, h4⟩ := g2
    have hcX : QI H.c0 X = e.conf := Un (j := j) h3 h4 fun i e' h5 h6 => Classical.byContradiction fun h8 => one2 j i e e' h1 h5 h3 h6 h4 h8
    obtain ⟨hl, hag⟩ := hXc j e h3
    obtain ⟨hE, hg⟩ := Xj.own F hXc h3
    have hnr := (F.chg e.term j e hl hg hE h4).1
    have hcj : QI H.c0 (X.take j) = QI H.c0 (X.take a) := by
     rw [Xu (l := X.take j) (a := a) fun i e' h5 h6 => ?_, List.take_take, Nat.min_eq_left h1]
     rw [List.getElem?_take] at h6
     split at h6
     ·exact Classical.byContradiction fun h8 => one2 i j e' e h5 (by assumption) h6 h3 h8 h4
     ·cases h6
    rw [← (hag.le (show j ≤ j + 1 by omega)).2.2, hcj] at hnr
    rw [hcX, hcL, htake]
    exact hnr
   ·have hcX : QI H.c0 X = QI H.c0 (X.take a) := Xu fun j' e' h5 h6 => Classical.byContradiction fun h7 => g2 ⟨j', e', h5, h6, h7⟩
    have hb := F.conf X hXc
    rw [hcL, htake, ← hcX]
    exact ⟨hb.1, hb.2, hb.1, hb.2, .inl rfl⟩
 obtain ⟨i, hi5, hi1, hi2⟩ := N1 hnear hs32 hs32' hmost hmost'
 have hack := hacks i hi5 hi1
 have hvote := hvotes i hi5 hi2
 obtain ⟨_, _, VL, hVc, hVu, hVa⟩ := F.voted T i c hvote.1
 rw [hX] at hVu
 have hkE : 0 < k := by omega
 obtain ⟨ek, hek⟩ : ∃ ek, (H.LL S)[k - 1]? = some ek := ⟨(H.LL S)[k - 1]'(by omega), List.getElem?_eq_getElem _⟩
 have hekt := F.own S (k - 1) ek hled hek (by omega)
 rcases hVa S k hST hack with h | ⟨t, h1, h2, h3, hlt, h4⟩
 ·refine hno (Ac F hVc hXc hVu (F.pos S hled) hkE h hek hekt ?_)
  rintro t ht ⟨j, e, hj, rfl⟩
  have htT := hXT j e hj
  have hl := (hXc j e hj).1
  have h5 := IH e.term htT hl S k n hk ht
  have h6 := F.cl e.term hl
  have hkE : k ≤ H.EL e.term := by have := h5.2.1; omega
  exact ⟨h5.trans (h6.1.le hkE), hkE⟩
 ·rcases Int.lt_or_eq_of_le h2 with h2 | h2
  ·exact h4 (IH t h2 h3 S k n hk h1)
  ·subst h2
   exact h4 (hvote.2 (hlt rfl) h3 S k n hk hST)
theorem EQ (F : Qo H) : ∀ (N : Nat) (T : Int), T.toNat < N → ∀ c, good H T c → ∀ S k n, H.cmt S k n → S < T → AG (H.LL S) (H.CL T c) k := by
 intro N
 induction N with
 | zero => intro T h; omega
 | succ N ihN =>
  intro T hT c hel
  have IH : ∀ t, t < T → H.led t → ∀ S k n, H.cmt S k n → S < t → AG (H.LL S) (H.CL t (H.ld t)) k := by
   intro t ht hl
   have := F.pos t hl
   exact ihN t (by omega) _ (F.good hl)
  have key : ∀ (M : Nat) (S : Int), S.toNat < M → S < T → ∀ n k, H.cmt S k n → AG (H.LL S) (H.CL T c) k := by
   intro M
   induction M with
   | zero => intro S h; omega
   | succ M ihM =>
    intro S hS hST n
    induction n using Nat.strongRecOn with
    | ind n ihn =>
     intro k hk
     refine It F hel IH S n hST ?_ (fun n' hn' k' hk' => ihn n' hn' k' hk') k hk
     intro S' n' h1 h2 k' hk'
     have := F.pos S' (F.com S' k' n' hk').1
     exact ihM S' (by omega) h2 n' k' hk'
  intro S k n hk hST
  exact key (S.toNat + 1) S (by omega) hST n k hk
theorem Zn (F : Qo H) {T : Int} {c : Nat} (hel : JJ H T c) {S : Int} {k n : Nat} (hk : H.cmt S k n) (h : S < T) : AG (H.LL S) (H.CL T c) k := by
 obtain ⟨s, h1, h2, h3⟩ := hel
 exact EQ F (T.toNat + 1) T (by omega) c ⟨s, h1, h2, fun i hi hb => ⟨h3 i hi hb, fun _ hl S k n hk h => EQ F (T.toNat + 1) T (by omega) _ (F.good hl) S k n hk h⟩⟩ S k n hk h
theorem Ji {T : Int} {c : Nat} (hel : JJ H T c) : ∃ v, H.vote T v c := by
 obtain ⟨s', hs32', hmost', hvotes⟩ := hel
 refine Classical.byContradiction fun h => ?_
 have : s' = 0 := by
  refine Nat.eq_of_testBit_eq fun i => ?_
  rw [Nat.zero_testBit]
  by_cases hi : i < 5
  ·cases hb : s'.testBit i with
   | false => rfl
   | true => exact absurd ⟨i, hvotes i hi hb⟩ h
  ·exact Nat.testBit_lt_two_pow (Nat.lt_of_lt_of_le hs32' (by
    have : 2 ^ 5 ≤ 2 ^ i := Nat.pow_le_pow_right (by decide) (by omega)
    simpa using this))
 rw [this] at hmost'
 have hz : ∀ c : Int, XE c ((0 : Nat) : Int) = false := by
  intro c
  have : (List.range 5).filter (Nat.testBit 0) = [] := by decide
  simp [XE, Vw, Uq, this]
 rw [hz] at hmost'
 cases hmost'
theorem TR (F : Qo H) {T : Int} {c c' : Nat} (hel : JJ H T c) (hel' : JJ H T c') : c = c' := by
 obtain ⟨v, hv⟩ := Ji hel
 obtain ⟨v', hv'⟩ := Ji hel'
 obtain ⟨hXc, hXT, _⟩ := F.voted T v c hv
 obtain ⟨hYc, hYT, _⟩ := F.voted T v' c' hv'
 have cX : ∀ S k n, H.cmt S k n → S < T → AG (H.LL S) (H.CL T c) k := fun S k n hk h => Zn F hel hk h
 have cY : ∀ S k n, H.cmt S k n → S < T → AG (H.LL S) (H.CL T c') k := fun S k n hk h => Zn F hel' hk h
 obtain ⟨s, hs, hm, hvs⟩ := hel
 obtain ⟨s', hs', hm', hvs'⟩ := hel'
 generalize H.CL T c = X at *
 generalize H.CL T c' = Y at *
 obtain ⟨a, ha, hmax⟩ := BY X Y
 have one : ∀ {X Y : List En} {a : Nat}, Xj H X → (∀ (j : Nat) (e : En), X[j]? = some e → e.term < T) → (∀ S k n, H.cmt S k n → S < T → AG (H.LL S) Y k) → (∀ k, AG X Y k → k ≤ a) →
   ∀ j1 j2 e1 e2, a ≤ j1 → j1 < j2 → X[j1]? = some e1 → X[j2]? = some e2 → e1.conf ≠ 0 → e2.conf ≠ 0 → False := by
  intro X Y a hXc hXT cY hmax j1 j2 e1 e2 h1 h2 g1 g2 c1 c2
  obtain ⟨hl2, hag2⟩ := hXc j2 e2 g2
  obtain ⟨hE2, hg2⟩ := Xj.own F hXc g2
  obtain ⟨_, cc, nn, hcm, hnj, hcov⟩ := F.chg e2.term j2 e2 hl2 hg2 hE2 c2
  have hj1c : j1 < cc := hcov j1 e1 h2 (by rw [← hag2.get (by omega)]; exact g1) c1
  obtain ⟨_, _, hcn, _, _⟩ := F.com _ _ _ hcm
  have := hmax cc ((hag2.le (by omega)).trans (cY e2.term cc nn hcm (hXT j2 e2 g2)))
  omega
 have oneX := one hXc hXT cY hmax
 have oneY := one hYc hYT cX (fun k hk => hmax k hk.symm)
 have lt : ∀ {X Y : List En} {a : Nat}, Xj H X → Xj H Y → (∀ (j : Nat) (e : En), Y[j]? = some e → e.term < T) → (∀ S k n, H.cmt S k n → S < T → AG (H.LL S) X k) → (∀ k, AG X Y k → k ≤ a) →
   ∀ j j' e e', a ≤ j → a ≤ j' → X[j]? = some e → Y[j']? = some e' → e'.conf ≠ 0 → e.term < e'.term → False := by
  intro X Y a hXc hYc hYT cX hmax j j' e e' h1 h2 g g' cc' hlt
  obtain ⟨hl', hag'⟩ := hYc j' e' g'
  obtain ⟨hE', hg'⟩ := Xj.own F hYc g'
  obtain ⟨_, c2, n2, hcm, hnj, _⟩ := F.chg e'.term j' e' hl' hg' hE' cc'
  obtain ⟨_, hE2, hcn, hn2, _⟩ := F.com _ _ _ hcm
  have h7 := cX e'.term c2 n2 hcm (hYT j' e' g')
  obtain ⟨ec, hec⟩ : ∃ ec, (H.LL e'.term)[c2 - 1]? = some ec := ⟨(H.LL e'.term)[c2 - 1]'(by omega), List.getElem?_eq_getElem _⟩
  have hect := F.own e'.term (c2 - 1) ec hl' hec (by omega)
  have hecX : X[c2 - 1]? = some ec := by rw [← h7.get (by omega)]; exact hec
  have hjc : j < c2 - 1 := by
   rcases Nat.lt_or_ge j (c2 - 1) with h8 | h8
   ·exact h8
   ·have := Xj.mono F hXc hecX g h8; omega
  have := hmax (j + 1) ((h7.symm.le (by omega)).trans (hag'.symm.le (by omega)))
  omega
 have notboth : ∀ j j' e e', a ≤ j → a ≤ j' → X[j]? = some e → Y[j']? = some e' → e.conf ≠ 0 → e'.conf ≠ 0 → False := by
  intro j j' e e' h1 h2 g g' cc cc'
  rcases Int.lt_trichotomy e.term e'.term with h | h | h
  ·exact lt hXc hYc hYT cX hmax j j' e e' h1 h2 g g' cc' h
  ·obtain ⟨_, hag⟩ := hXc j e g
   obtain ⟨_, hag'⟩ := hYc j' e' g'
   rw [← h] at hag'
   rcases Nat.le_total j j' with h | h
   ·have := hmax (j + 1) (hag.trans (hag'.symm.le (by omega)))
    omega
   ·have := hmax (j' + 1) ((hag.le (by omega)).trans hag'.symm)
    omega
  ·exact lt hYc hXc hXT cY (fun k hk => hmax k hk.symm) j' j e' e h2 h1 g' g cc h
 have half : ∀ {X Y : List En}, Xj H X → AG X Y a → (∀ j1 j2 e1 e2, a ≤ j1 → j1 < j2 → X[j1]? = some e1 → X[j2]? = some e2 → e1.conf ≠ 0 → e2.conf ≠ 0 → False) → (∀ j j' e e', a ≤ j → a ≤ j' → X[j]? = some e → Y[j']? = some e' → e.conf ≠ 0 → e'.conf ≠ 0 → False) →
   ∀ j e, a ≤ j → X[j]? = some e → e.conf ≠ 0 → LE (QI H.c0 Y) (QI H.c0 X) := by
  intro X Y hXc ha one notboth j e h1 h3 h4
  have hcY : QI H.c0 Y = QI H.c0 (Y.take a) := Xu fun j' e' h5 h6 => Classical.byContradiction fun h7 => notboth j j' e e' h1 h5 h3 h6 h4 h7
  have hcX : QI H.c0 X = e.conf := Un (j := j) h3 h4 fun i e' h5 h6 => Classical.byContradiction fun h8 => one j i e e' h1 h5 h3 h6 h4 h8
  obtain ⟨hl, hag⟩ := hXc j e h3
  obtain ⟨hE, hg⟩ := Xj.own F hXc h3
  have hnr := (F.chg e.term j e hl hg hE h4).1
  have hcj : QI H.c0 (X.take j) = QI H.c0 (X.take a) := by
   rw [Xu (l := X.take j) (a := a) fun i e' h5 h6 => ?_, List.take_take, Nat.min_eq_left h1]
   rw [List.getElem?_take] at h6
   split at h6
   ·exact Classical.byContradiction fun h8 => one i j e' e h5 (by assumption) h6 h3 h8 h4
   ·cases h6
  rw [← (hag.le (show j ≤ j + 1 by omega)).2.2, hcj] at hnr
  rw [hcX, hcY, ← ha.2.2]
  exact hnr
 have hnear : LE (QI H.c0 X) (QI H.c0 Y) := by
  by_cases g1 : ∃ j e, a ≤ j ∧ X[j]? = some e ∧ e.conf ≠ 0
  ·obtain ⟨j, e, h1, h3, h4⟩ := g1
   exact (half hXc ha oneX notboth j e h1 h3 h4).symm
  ·by_cases g2 : ∃ j e, a ≤ j ∧ Y[j]? = some e ∧ e.conf ≠ 0
   ·obtain ⟨j, e, h1, h3, h4⟩ := g2
    exact half hYc ha.symm oneY (fun j j' e e' h1 h2 g g' cc cc' => notboth j' j e' e h2 h1 g' g cc' cc) j e h1 h3 h4
   ·have hcX : QI H.c0 X = QI H.c0 (X.take a) := Xu fun j' e' h5 h6 => Classical.byContradiction fun h7 => g1 ⟨j', e', h5, h6, h7⟩
    have hcY : QI H.c0 Y = QI H.c0 (Y.take a) := Xu fun j' e' h5 h6 => Classical.byContradiction fun h7 => g2 ⟨j', e', h5, h6, h7⟩
    have hb := F.conf X hXc
    rw [hcY, ← ha.2.2, ← hcX]
    exact ⟨hb.1, hb.2, hb.1, hb.2, .inl rfl⟩
 obtain ⟨i, hi5, hi1, hi2⟩ := N1 hnear hs hs' hm hm'
 exact F.once T i c c' (hvs i hi5 hi1) (hvs' i hi5 hi2)
end Raft
end Go.Proofs.YtjbokbikkcfjjaaGreat
