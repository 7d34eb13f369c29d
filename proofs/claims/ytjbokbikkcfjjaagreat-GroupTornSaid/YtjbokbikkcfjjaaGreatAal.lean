/-
  What the type table says, type by type (laid by my own program).
-/
import Derived.Test.YtjbokbikkcfjjaaGreatAak
import Derived.Test.YtjbokbikkcfjjaaGreatProg
set_option maxRecDepth 16000
set_option maxHeartbeats 8000000
set_option linter.all false
namespace Go.Proofs.YtjbokbikkcfjjaaGreat
open Go.Cap
instance : QZ Tryz.prog 3 [.v (.int .i64 0)] := ⟨by rfl⟩
instance : QL Tryz.prog 22 (.v (.int .i64 0)) 8 := ⟨by rfl⟩
instance : QZ Tryz.prog 25 [.v (.int .i64 0)] := ⟨by rfl⟩
instance : QL Tryz.prog 33 (.v (.string .empty)) 16 := ⟨by rfl⟩
instance : QZ Tryz.prog 34 [.v (.slice none 0 0)] := ⟨by rfl⟩
instance : Zb Tryz.prog 34 1 := ⟨by rfl⟩
instance : QL Tryz.prog 34 (.v (.int .u8 0)) 1 := ⟨by rfl⟩
instance : Zb Tryz.prog 41 3 := ⟨by rfl⟩
instance : QL Tryz.prog 41 (.agg [.v (.int .i64 0), .v (.int .i64 0), .v (.string .empty)]) 32 := ⟨by rfl⟩
instance : U9 Tryz.prog 42 5 := ⟨by rfl, by rfl⟩
instance : BW Tryz.prog 42 5 1 := ⟨by rfl⟩
instance : QZ Tryz.prog 44 [.v (.int .i64 0), .v (.int .i64 0), .v (.int .i64 0), .v (.int .i64 0), .v (.int .i64 0), .v (.int .i64 0), .v (.string .empty), .v (.slice none 0 0), .v (.int .i64 0), .v (.int .i64 0), .v (.int .i64 0), .v (.int .i64 0), .v (.int .i64 0), .v (.int .i64 0), .v (.int .i64 0), .v (.int .i64 0), .v (.int .i64 0), .v (.int .i64 0), .v (.int .i64 0), .v (.int .i64 0), .v (.int .i64 0), .v (.int .i64 0)] := ⟨by rfl⟩
instance : U9 Tryz.prog 44 22 := ⟨by rfl, by rfl⟩
instance : Q6 Tryz.prog 44 0 0 1 false := ⟨by rfl⟩
instance : Q6 Tryz.prog 44 1 1 1 false := ⟨by rfl⟩
instance : Q6 Tryz.prog 44 2 2 1 false := ⟨by rfl⟩
instance : Q6 Tryz.prog 44 3 3 1 false := ⟨by rfl⟩
instance : Q6 Tryz.prog 44 4 4 1 false := ⟨by rfl⟩
instance : Q6 Tryz.prog 44 5 5 1 false := ⟨by rfl⟩
instance : Q6 Tryz.prog 44 6 6 1 false := ⟨by rfl⟩
instance : Q6 Tryz.prog 44 7 7 1 false := ⟨by rfl⟩
instance : Q6 Tryz.prog 44 8 8 1 false := ⟨by rfl⟩
instance : Q6 Tryz.prog 44 9 9 1 false := ⟨by rfl⟩
instance : Q6 Tryz.prog 44 10 10 1 false := ⟨by rfl⟩
instance : Q6 Tryz.prog 44 11 11 1 false := ⟨by rfl⟩
instance : Q6 Tryz.prog 44 12 12 5 true := ⟨by rfl⟩
instance : Q6 Tryz.prog 44 13 17 5 true := ⟨by rfl⟩
instance : DZ Tryz.prog 66 3 4 (.int .i64) (.v (.bool false)) := ⟨by rfl, by rfl, by rfl, fun _ h => by cases h⟩
instance : QZ Tryz.prog 68 [.v (.pointer none), .v (.pointer none)] := ⟨by rfl⟩
instance : U9 Tryz.prog 68 2 := ⟨by rfl, by rfl⟩
instance : Q6 Tryz.prog 68 0 0 1 false := ⟨by rfl⟩
instance : Q6 Tryz.prog 68 1 1 1 false := ⟨by rfl⟩
instance : BW Tryz.prog 69 5 2 := ⟨by rfl⟩
instance : Zb Tryz.prog 70 11 := ⟨by rfl⟩
instance : QL Tryz.prog 70 (.agg [.v (.int .i64 0), .v (.int .i64 0), .v (.int .i64 0), .v (.int .i64 0), .v (.int .i64 0), .v (.int .i64 0), .v (.int .i64 0), .v (.int .i64 0), .v (.bool false), .v (.slice none 0 0), .v (.string .empty)]) 112 := ⟨by rfl⟩
instance : QZ Tryz.prog 72 [.v (.int .i64 0), .v (.pointer none), .v (.pointer none), .v (.pointer none), .v (.pointer none), .v (.pointer none), .v (.pointer none), .v (.pointer none), .v (.pointer none), .v (.pointer none), .v (.pointer none), .v (.map none), .v (.slice none 0 0)] := ⟨by rfl⟩
instance : Q6 Tryz.prog 72 0 0 1 false := ⟨by rfl⟩
instance : Q6 Tryz.prog 72 1 1 10 true := ⟨by rfl⟩
instance : Q6 Tryz.prog 72 2 11 1 false := ⟨by rfl⟩
instance : Q6 Tryz.prog 72 3 12 1 false := ⟨by rfl⟩
instance : QZ Tryz.prog 76 [.v (.int .i64 0), .v (.int .i64 0), .v (.int .i64 0), .v (.int .i64 0), .v (.int .i64 0), .v (.int .i64 0), .v (.int .i64 0), .v (.int .i64 0), .v (.bool false), .v (.slice none 0 0), .v (.string .empty)] := ⟨by rfl⟩
instance : U9 Tryz.prog 76 11 := ⟨by rfl, by rfl⟩
instance : Q6 Tryz.prog 76 0 0 1 false := ⟨by rfl⟩
instance : Q6 Tryz.prog 76 1 1 1 false := ⟨by rfl⟩
instance : Q6 Tryz.prog 76 2 2 1 false := ⟨by rfl⟩
instance : Q6 Tryz.prog 76 3 3 1 false := ⟨by rfl⟩
instance : Q6 Tryz.prog 76 4 4 1 false := ⟨by rfl⟩
instance : Q6 Tryz.prog 76 5 5 1 false := ⟨by rfl⟩
instance : Q6 Tryz.prog 76 6 6 1 false := ⟨by rfl⟩
instance : Q6 Tryz.prog 76 7 7 1 false := ⟨by rfl⟩
instance : Q6 Tryz.prog 76 8 8 1 false := ⟨by rfl⟩
instance : Q6 Tryz.prog 76 9 9 1 false := ⟨by rfl⟩
instance : Q6 Tryz.prog 76 10 10 1 false := ⟨by rfl⟩
instance : QZ Tryz.prog 84 [.v (.int .i64 0), .v (.int .i64 0), .v (.string .empty)] := ⟨by rfl⟩
instance : U9 Tryz.prog 84 3 := ⟨by rfl, by rfl⟩
instance : Q6 Tryz.prog 84 0 0 1 false := ⟨by rfl⟩
instance : Q6 Tryz.prog 84 1 1 1 false := ⟨by rfl⟩
instance : Q6 Tryz.prog 84 2 2 1 false := ⟨by rfl⟩
instance : QZ Tryz.prog 87 [.v (.int .i64 0), .v (.int .i64 0), .v (.bool false)] := ⟨by rfl⟩
instance : Q6 Tryz.prog 87 0 0 1 false := ⟨by rfl⟩
instance : Q6 Tryz.prog 87 1 1 1 false := ⟨by rfl⟩
instance : Q6 Tryz.prog 87 2 2 1 false := ⟨by rfl⟩
instance : QZ Tryz.prog 89 [.v (.int .i64 0), .v (.int .i64 0), .v (.bool false), .v (.slice none 0 0), .v (.int .i64 0), .v (.slice none 0 0), .v (.int .i64 0)] := ⟨by rfl⟩
instance : Q6 Tryz.prog 89 0 0 3 true := ⟨by rfl⟩
instance : Q6 Tryz.prog 89 1 3 1 false := ⟨by rfl⟩
instance : Q6 Tryz.prog 89 2 4 1 false := ⟨by rfl⟩
instance : Q6 Tryz.prog 89 3 5 1 false := ⟨by rfl⟩
instance : Q6 Tryz.prog 89 4 6 1 false := ⟨by rfl⟩
instance : QZ Tryz.prog 91 [.v (.pointer none)] := ⟨by rfl⟩
instance : QZ Tryz.prog 93 [.v (.pointer none), .v (.int .i64 0), .v (.int .i64 0), .v (.int .i64 0), .v (.int .i64 0), .v (.int .i64 0), .v (.int .i64 0), .v (.string .empty), .v (.slice none 0 0), .v (.int .i64 0), .v (.int .i64 0), .v (.int .i64 0), .v (.int .i64 0), .v (.int .i64 0), .v (.int .i64 0), .v (.int .i64 0), .v (.int .i64 0), .v (.int .i64 0), .v (.int .i64 0), .v (.int .i64 0), .v (.int .i64 0), .v (.int .i64 0), .v (.int .i64 0)] := ⟨by rfl⟩
instance : Q6 Tryz.prog 93 0 0 1 false := ⟨by rfl⟩
instance : Q6 Tryz.prog 93 1 1 22 true := ⟨by rfl⟩
instance : QZ Tryz.prog 95 [.v (.pointer none), .v (.int .i64 0), .v (.int .i64 0), .v (.int .i64 0), .v (.int .i64 0), .v (.int .i64 0), .v (.int .i64 0), .v (.string .empty), .v (.slice none 0 0), .v (.int .i64 0), .v (.int .i64 0), .v (.int .i64 0), .v (.int .i64 0), .v (.int .i64 0), .v (.int .i64 0), .v (.int .i64 0), .v (.int .i64 0), .v (.int .i64 0), .v (.int .i64 0), .v (.int .i64 0), .v (.int .i64 0), .v (.int .i64 0), .v (.int .i64 0)] := ⟨by rfl⟩
instance : Q6 Tryz.prog 95 0 0 23 true := ⟨by rfl⟩
instance : QZ Tryz.prog 117 [.v (.slice none 0 0)] := ⟨by rfl⟩
instance : QL Tryz.prog 117 (.v (.slice none 0 0)) 24 := ⟨by rfl⟩
instance : QZ Tryz.prog 157 [.v (.pointer none), .v (.int .i64 0)] := ⟨by rfl⟩
instance : Q6 Tryz.prog 157 0 0 1 false := ⟨by rfl⟩
instance : Q6 Tryz.prog 157 1 1 1 false := ⟨by rfl⟩
instance : QZ Tryz.prog 167 [.v (.int .i64 0), .v (.int .i64 0), .v (.int .i64 0), .v (.int .i64 0), .v (.int .i64 0), .v (.int .i64 0), .v (.string .empty), .v (.slice none 0 0), .v (.int .i64 0), .v (.int .i64 0), .v (.int .i64 0), .v (.int .i64 0), .v (.int .i64 0), .v (.int .i64 0), .v (.int .i64 0), .v (.int .i64 0), .v (.int .i64 0), .v (.int .i64 0), .v (.int .i64 0), .v (.int .i64 0), .v (.int .i64 0), .v (.int .i64 0), .v (.slice none 0 0)] := ⟨by rfl⟩
instance : Q6 Tryz.prog 167 0 0 22 true := ⟨by rfl⟩
instance : Q6 Tryz.prog 167 1 22 1 false := ⟨by rfl⟩
instance : QZ Tryz.prog 179 [.v (.slice none 0 0), .v (.int .i64 0)] := ⟨by rfl⟩
instance : Q6 Tryz.prog 179 0 0 1 false := ⟨by rfl⟩
instance : Q6 Tryz.prog 179 1 1 1 false := ⟨by rfl⟩
instance : QZ Tryz.prog 191 [.v (.int .u32 0)] := ⟨by rfl⟩
instance : QZ Tryz.prog 200 [.v (.int .i64 0), .v (.int .i64 0), .v (.int .i64 0), .v (.int .i64 0), .v (.int .i64 0), .v (.int .i64 0), .v (.int .i64 0), .v (.int .i64 0), .v (.int .i64 0), .v (.int .i64 0), .v (.int .i64 0), .v (.int .i64 0), .v (.int .i64 0), .v (.int .i64 0), .v (.int .i64 0), .v (.int .i64 0), .v (.int .i64 0), .v (.int .i64 0), .v (.int .i64 0), .v (.int .i64 0)] := ⟨by rfl⟩
instance : U9 Tryz.prog 200 20 := ⟨by rfl, by rfl⟩
def ei (n : Int) : T := .v (.int .i64 n)
def es (s : List UInt8) : T := .v (.string (bs s))
def eB (b : Bool) : T := .v (.bool b)
structure En where
 term : Int
 conf : Int
 cmd : List UInt8
 deriving DecidableEq, Inhabited
def een (e : En) : T := .agg [ei e.term, ei e.conf, es e.cmd]
def ZG (l : List En) : T := .sl false (l.map een)
structure F5 where
 a : Int
 b : Int
 c : Int
 d : Int
 e : Int
 deriving DecidableEq, Inhabited
def F5.get (f : F5) : Nat → Int
 | 0 => f.a
 | 1 => f.b
 | 2 => f.c
 | 3 => f.d
 | _ => f.e
def F5.set (f : F5) (i : Nat) (v : Int) : F5 := match i with
 | 0 => { f with a := v }
 | 1 => { f with b := v }
 | 2 => { f with c := v }
 | 3 => { f with d := v }
 | _ => { f with e := v }
def F5.all (v : Int) : F5 := ⟨v, v, v, v, v⟩
structure Nd where
 id : Int
 term : Int
 vote : Int
 base : Int
 baseTerm : Int
 baseConf : Int
 snap : List UInt8
 log : List En
 commit : Int
 role : Int
 wait : Int
 votes : Int
 next : F5
 mtch : F5
 deriving DecidableEq, Inhabited
def Qv (n : Nd) (lg : T) : List T := [ei n.id, ei n.term, ei n.vote, ei n.base, ei n.baseTerm, ei n.baseConf, es n.snap, lg, ei n.commit, ei n.role, ei n.wait, ei n.votes,
 ei n.next.a, ei n.next.b, ei n.next.c, ei n.next.d, ei n.next.e, ei n.mtch.a, ei n.mtch.b, ei n.mtch.c, ei n.mtch.d, ei n.mtch.e]
def nd (n : Nd) : T := .agg (Qv n (ZG n.log))
structure Ms where
 kind : Int
 frm : Int
 to : Int
 term : Int
 index : Int
 logTerm : Int
 commit : Int
 conf : Int
 yes : Bool
 entries : List En
 snap : List UInt8
 deriving DecidableEq, Inhabited
def msC (m : Ms) (es' : T) : List T := [ei m.kind, ei m.frm, ei m.to, ei m.term, ei m.index, ei m.logTerm, ei m.commit, ei m.conf, eB m.yes, es', es m.snap]
def ms (m : Ms) : T := .agg (msC m (ZG m.entries))
def mss (l : List Ms) : T := .sl false (l.map ms)
def lc (l : List En) : Nat → Option (Nat × Int)
 | 0 => none
 | k + 1 => if (l.getD k default).conf ≠ 0 then some (k, (l.getD k default).conf) else lc l k
def QD (n : Nd) : Int × Int := match lc n.log n.log.length with
 | some (k, c) => (n.base + k + 1, c)
 | none => (n.base, n.baseConf)
def Wy (l : List En) (k : Nat) : List (Nat × En) := (List.range k).map fun j => (l.length - 1 - j, l.getD (l.length - 1 - j) default)
theorem Zi (l : List En) (k : Nat) : Wy l (k + 1) = Wy l k ++ [(l.length - 1 - k, l.getD (l.length - 1 - k) default)] := by simp [Wy, List.range_succ]
theorem Mm (l : List En) : ∀ (m k : Nat), m + k = l.length → (∀ p ∈ Wy l k, p.2.conf = 0) → lc l l.length = lc l m
 | m, 0, h, _ => by
  have : m = l.length := by omega
  rw [this]
 | m, k + 1, h, h0 => by
  have h1 := Mm l (m + 1) k (by omega) (fun p hp => h0 p (by rw [Zi]; exact List.mem_append_left _ hp))
  have h2 := h0 _ (by rw [Zi]; exact List.mem_append_right _ (List.mem_singleton.2 rfl))
  have e : l.length - 1 - k = m := by omega
  rw [e] at h2
  rw [h1, lc, if_neg (by simpa using h2)]
end Go.Proofs.YtjbokbikkcfjjaaGreat
namespace Go.Proofs.YtjbokbikkcfjjaaGreat
open Go.Cap
attribute [local irreducible] POp Qf TO EOp Sim FnH T.gp
theorem BO (l : List En) (hl : l.length ≤ 4611686018427387904) : ItC Tryz.prog 124 [.adr (ZG l)] (fun p : Nat × En => [ei p.1, een p.2]) (fun xs => xs = Wy l l.length) (fun pre => ∃ k, k ≤ l.length ∧ pre = Wy l k) := by
 refine Do Tryz.func124 (by rfl) (by rfl) (by rfl) ?_
 intro c l' r I Ix Hx S w hlen _ _ hK h0 hY
 show Sim _ _ [(Tryz.f124.ntmps, .v undef), (0, .v (.func (.yield l') #[] #[])), (1, .adr (.sl false (l.map een)))] _ _
 refine zC ?_
 apply cr
 (first | refine s_ Qm ?_ | refine s_ Ql ?_)
 (first | refine s_ QP ?_ | refine s_ QO ?_)
 refine s_ Zp <| s_ Qb <| zC ?_
 apply Qo (σ := Nat × Qc) (ok := fun s => s.1 ≤ l.length ∧ I (Wy l s.1) s.2) (env := fun s => [(3, .v (.int .i64 ((l.length : Int) - 1 - s.1))), (Tryz.f124.ntmps, .v undef), (0, .v (.func (.yield l') #[] #[])), (1, .adr (.sl false (l.map een)))])
  (heap := fun s => s.2) (μ := fun s => l.length - s.1) (s0 := (0, Hx))
 ·exact ⟨by simp, h0⟩
 ·refine ⟨?_, eL⟩
  apply Qi; (exact zG)
  exact Le.of_eq (by simp)
 ·exact kR
 rintro ⟨k, H⟩ ⟨hk, hI⟩
 simp only at hk hI
 refine zC ?_
 refine cr <| s_ Qa <| s_ Vo <| zC ?_
 refine ci ?_ ?_
 ·intro hge
  have hix : l.length - 1 - k < l.length := by omega
  have hcast : (l.length : Int) - 1 - k = ((l.length - 1 - k : Nat) : Int) := by omega
  rw [hcast]
  have hget : l.getD (l.length - 1 - k) default = l[l.length - 1 - k] := by simp [hix]
  have hyc := hY (Wy l k) (l.length - 1 - k, l[l.length - 1 - k]) H hI ⟨k + 1, by omega, by rw [Zi, hget]⟩
  refine zC ?_
  refine cr <| s_ Qa <| s_ Qa ?_
  (first | refine s_ Qm ?_ | refine s_ Ql ?_)
  refine s_ Qa ?_
  (first | refine s_ (Xd hix) ?_ | refine s_ (Xd hix2) ?_ | refine s_ YE ?_ | refine s_ ZE ?_)
  (first | refine s_ Y6 ?_ | refine s_ Xf ?_)
  refine TC (Hr := []) hyc (by simp) (hlen _) hK (fun H' hI' => ?_) (fun H' hI' => ?_)
  ·simp only [if_true] at hI'
   refine s_ YA <| zC ?_
   refine ci ?_ ?_
   ·intro h; exact absurd trivial h
   intro _
   refine zC ?_
   refine cr <| s_ Qa <| s_ Zp <| s_ Qb <| zC ?_
   refine ⟨(k + 1, H'), ⟨by simp only; omega, ?_⟩, (by simp only []; omega), ⟨?_, eL⟩, by rw [List.append_nil]; exact kR⟩
   ·simp only
    rw [Zi, hget]; exact hI'
   ·apply Qi; (exact zG)
    exact Le.of_eq (by congr 2; simp only; omega)
  ·simp only [Bool.false_eq_true, if_false] at hI'
   refine s_ YA <| zC ?_
   refine ci ?_ ?_
   ·intro _
    refine zC ?_
    apply Yt
    simp only [YL, Zc, JS]
    rw [List.append_nil]
    exact GE ⟨k + 1, by omega, by rw [Zi, hget]⟩ hI'
   ·intro h; exact absurd (fun h => h) h
 ·intro hge
  have hk2 : k = l.length := by omega
  subst hk2
  refine zC ?_
  exact Wd rfl hI
theorem BP (f : Bool) (xs : List T) : FnP Tryz.prog 90 [.sl f xs] (fun r => r = .clo 124 [] [.adr (.sl f xs)]) := by
 refine fe Tryz.func90 fun S0 w0 => ?_
 show Sim _ _ [(0, T.sl f xs)] _ _
 refine zC ?_
 apply cr
 refine Mx fun b1 _ => ?_
 refine s_ Qb <| zC ?_
 refine cr <| s_ UE <| s_ Qb <| zC ?_
 refine Z2 (G := [_]) (H1 := []) [(2, .clo 124 [] [.adr (.sl f xs)])] (by simp; rfl) ⟨?_, trivial⟩ ?_
 ·refine (show Env.get _ _ = _ from gZ) ▸ Qx.clo Qg.nil (Qg.cons (Qx.ptr List.mem_cons_self (.inl rfl) ?_ (by simp [T.cells]) (by simp [T.cells])) Qg.nil)
  exact Qg.le (LeL.refl _)
 ·refine zE ?_
  exact Le.refl _
theorem Cf {l : List En} {k : Nat} (hk : k ≤ l.length) {p : Nat × En} (h : p ∈ Wy l k) : p.1 < l.length := by
 obtain ⟨j, hj, rfl⟩ := List.mem_map.1 h
 have := List.mem_range.1 hj
 simp only; omega
theorem EO {l : List En} {k : Nat} (hk : k ≤ l.length) {ini : List (Nat × En)} {last : Nat × En} (h : ini ++ [last] = Wy l k) (hz : ∀ p ∈ ini, p.2.conf = 0) (hl : last.2.conf ≠ 0) : lc l l.length = some (last.1, last.2.conf) := by
 cases k with
 | zero => simp [Wy] at h
 | succ k =>
  rw [Zi] at h
  obtain ⟨h1, h2⟩ := List.append_inj' h rfl
  have h3 : last = (l.length - 1 - k, l.getD (l.length - 1 - k) default) := by simpa using h2
  rw [Mm l (l.length - k) k (by omega) (by rw [← h1]; exact hz)]
  have e : l.length - k = (l.length - 1 - k) + 1 := by omega
  rw [e, lc]
  rw [h3] at hl
  simp only at hl
  rw [if_pos hl, h3]
theorem GT (n : Nd) (hl : n.log.length ≤ 1000000000) (hb1 : -1000000000000 ≤ n.base) (hb2 : n.base ≤ 1000000000000) : FnP Tryz.prog 64 [.adr (nd n)] (fun r => r = .tup [ei (QD n).1, ei (QD n).2]) := by
 have cbk := BP false (n.log.map een)
 refine fe Tryz.func64 fun S0 w0 => ?_
 show Sim _ _ [(0, T.adr (.agg (Qv n (.sl false (n.log.map een)))))] _ _
 refine zC ?_
 apply cr
 refine Mx fun b1 _ => ?_
 refine Yd fun b2 _ => ?_
 refine Yd fun b3 _ => ?_
 refine zC ?_
 refine cr <| s_ Ql <| s_ Qe ?_
 (first | refine s_ Qu ?_ | refine s_ Qd ?_)
 (first | refine s_ Qm ?_ | refine s_ Ql ?_)
 refine s_ (QQ (cbk)) <| zC ?_
 refine W7 (BO n.log (by omega)) (by ((repeat (apply eS; rfl)); exact eZ)) (by rfl) rfl (fun (pre : List (Nat × En)) (H : Qc) => (∀ p ∈ pre, p.2.conf = 0) ∧ H = [(b3, ⟨3, [ei 0], 1⟩), (b2, ⟨3, [ei 0], 1⟩), (b1, ⟨147, [.adr (.agg (Qv n (.sl false (n.log.map een))))], 1⟩)])
  (fun (pre : List (Nat × En)) (H : Qc) => ∃ ini last, pre = ini ++ [last] ∧ (∀ p ∈ ini, p.2.conf = 0) ∧ last.2.conf ≠ 0 ∧ H = [(b3, ⟨3, [ei last.2.conf], 1⟩), (b2, ⟨3, [ei (n.base + last.1 + 1)], 1⟩), (b1, ⟨147, [.adr (.agg (Qv n (.sl false (n.log.map een))))], 1⟩)])
  .ret .ret (.inl ⟨rfl, rfl⟩) (fun _ => rfl) (by rfl) ⟨by simp, rfl⟩ ?_ ?_ ?_
 ·rintro pre x H1 ⟨hz, rfl⟩ ⟨k, hk, hsp⟩ l' S1 w1
  have hx1 : x.1 < n.log.length := Cf hk (by rw [← hsp]; simp)
  simp only [VT]
  refine zC ?_
  refine cr <| s_ Qb <| zC ?_
  apply cr
  refine Yd fun b5 _ => ?_
  refine Qz ?_
  refine zC ?_
  refine ⟨rfl, fun S2 w2 mk => ?_⟩
  refine zC ?_
  refine cr <| s_ Qd <| s_ Ql <| s_ Yq <| zC ?_
  refine ci ?_ ?_
  ·intro hne
   refine zC ?_
   refine ca [0, 1, 2, 3, 4, 5, 6, 7, 8, 9, 10] [9, 10] <| QJ ?_
   refine a_ (fun _ => Qe) ?_
   (first | refine a_ (fun _ => Qu) ?_ | refine a_ (fun _ => Qd) ?_)
   (first | refine a_ (fun _ => Qm) ?_ | refine QJ ?_)
   refine a_ (fun _ => Qa) <| a_ (fun _ => QY) <| a_ (fun _ => QY) <| a_ (fun _ => Qd) <| QJ ?_
   refine XN ?_
   refine XN ?_
   apply an
   refine zC ?_
   refine zC ?_
   apply Yt
   simp only [YL, Zc]
   exact ⟨_, kS kR, .inr ⟨rfl, pre, x, rfl, hz, hne, rfl⟩⟩
  ·intro he
   refine zC ?_
   exact ⟨_, kS kR, .inl ⟨rfl, by intro p hp; rcases List.mem_append.1 hp with h | h; exact hz p h; rw [List.mem_singleton.1 h]; simpa using he, rfl⟩⟩
 ·rintro xs H' rfl ⟨hz, rfl⟩
  have hlc : lc n.log n.log.length = none := by rw [Mm n.log 0 n.log.length (by omega) hz]; rfl
  refine zC ?_
  refine zC ?_
  refine ca [0, 1, 2, 3, 4, 5, 6, 7, 8, 9] [8, 9] <| QJ ?_
  refine a_ (fun _ => Qe) ?_
  (first | refine a_ (fun _ => Qu) ?_ | refine a_ (fun _ => Qd) ?_)
  (first | refine a_ (fun _ => Qm) ?_ | refine QJ ?_)
  refine QJ ?_
  refine a_ (fun _ => Qe) ?_
  (first | refine a_ (fun _ => Qu) ?_ | refine a_ (fun _ => Qd) ?_)
  (first | refine a_ (fun _ => Qm) ?_ | refine QJ ?_)
  refine XN ?_
  refine XN ?_
  apply an
  refine zC ?_
  refine zC ?_
  refine zE ?_
  simp only [QD, hlc]; exact Le.refl _
 ·rintro pre H' ⟨k, hk, rfl⟩ ⟨ini, last, h1, hz, hne, rfl⟩
  have hlc := EO hk h1.symm hz hne
  simp only [YL, Zc]
  refine rt ?_
  simp only [QD, hlc]; exact Le.refl _
def WV (x : Int) : Int := ((List.range 5).filter x.toNat.testBit).length
def isF (conf id : Int) : Bool := conf.toNat.testBit id.toNat
def Vr (a b : Int) : Int := (a.toNat &&& b.toNat : Nat)
def Vh (conf some : Int) : Bool := decide (WV conf < 2 * WV (Vr conf some))
def QV (id conf : Int) : Nd := ⟨id, 0, -1, 0, 0, conf, [], [], 0, 0, 0, 0, .all 0, .all 0⟩
def Xe (n : Nd) (i : Int) : Int := if n.base + 1 ≤ i ∧ i < n.base + 1 + n.log.length then (n.log.getD (i - n.base - 1).toNat default).term else n.baseTerm
def Qs (n : Nd) : Int := n.base + n.log.length
theorem GM {x : Int} (h0 : 0 ≤ x) (h1 : x ≤ 31) : ∃ i : Fin 32, x = (i.val : Int) := ⟨⟨x.toNat, by omega⟩, by simp only; omega⟩
theorem Zt {K : Ctx} {t : Env} {b m : Nat} {e : TypeId} {cs : List T} {H1 : Qc} {Ψ : Exit → Env → Qc → Prop} {c : Code} (k : Nat) (hl : 0 < cs.length) (h : Sim K c ((k, .adr (.agg cs)) :: t) H1 Ψ) (hg : t.get k = .v (.pointer (some ⟨b, 0, none⟩)) := by rfl) : Sim K c t ((b, ⟨e, cs, m⟩) :: H1) Ψ := by
 have hcs : (T.agg cs).cells = cs := by simp [T.cells]
 refine Z2 (G := [_]) (H1 := H1) [(k, .adr (.agg cs))] (by simp; rfl) ⟨?_, trivial⟩ h
 rw [hg]
 refine Qx.ptr List.mem_cons_self (.inr ⟨_, rfl⟩) ?_ (by rwa [hcs]) (by rw [hcs]; exact Nat.le_refl _)
 rw [hcs]
 exact Qg.le (by rw [List.take_length]; exact LeL.refl _)
theorem WI {p : Int → Prop} (h : ∀ i : Fin 32, p (i.val : Int)) {x : Int} (h0 : 0 ≤ x) (h1 : x ≤ 31) : p x := by
 obtain ⟨i, rfl⟩ := GM h0 h1; exact h i
theorem Jx {x : Int} (h0 : 0 ≤ x) (h1 : x ≤ 31) : IntKind.u64.wrap x = x := WI (p := fun x => IntKind.u64.wrap x = x) (by decide) h0 h1
theorem Bc {x : Int} (h0 : 0 ≤ x) (h1 : x ≤ 31) : 0 ≤ WV x ∧ WV x ≤ 5 := WI (p := fun x => 0 ≤ WV x ∧ WV x ≤ 5) (by decide) h0 h1
theorem AY {x y : Int} (h0 : 0 ≤ x) (h1 : x ≤ 31) (h2 : 0 ≤ y) (h3 : y ≤ 31) : WG .i64 x y = Vr x y ∧ 0 ≤ Vr x y ∧ Vr x y ≤ 31 :=
 WI (p := fun x => WG .i64 x y = Vr x y ∧ 0 ≤ Vr x y ∧ Vr x y ≤ 31) (fun i => WI (p := fun y => WG .i64 i y = Vr i y ∧ 0 ≤ Vr i y ∧ Vr i y ≤ 31) (by revert i; decide) h2 h3) h0 h1
theorem Tu {x y : Int} (h0 : 0 ≤ x) (h1 : x ≤ 31) (h2 : 0 ≤ y) (h3 : y < 5) : decide (WG .i64 (WF .i64 x y) 1 = 1) = isF x y :=
 WI (p := fun x => decide (WG .i64 (WF .i64 x y) 1 = 1) = isF x y) (fun i => WI (p := fun y => decide (WG .i64 (WF .i64 i y) 1 = 1) = isF i y) (by revert i; decide) h2 (by omega)) h0 h1
theorem OC (x : Int) (h0 : 0 ≤ x) (h1 : x ≤ 31) : FnP Tryz.prog 150 [.v (.int .u64 x)] (fun r => r = ei (WV x)) := by
 refine fe Tryz.func150 fun S0 w0 => ?_
 show Sim _ _ [(0, T.v (.int .u64 x))] _ _
 refine zC ?_
 refine cr <| s_ Qb <| zC ?_
 refine cr <| s_ Qa <| s_ ZM <| s_ J3 <| s_ Qa <| s_ J3 <| s_ VY <| s_ Qb <| zC ?_
 refine cr <| s_ Qa <| s_ ZM <| s_ J3 <| s_ Qa <| s_ J3 <| s_ VY <| s_ Qb <| zC ?_
 refine cr <| s_ Qa <| s_ ZM <| s_ Qa <| s_ VY <| s_ J3 <| s_ Qb <| zC ?_
 refine cr <| s_ Qa <| s_ Qa <| s_ ZM <| s_ VY <| s_ Qb <| zC ?_
 refine cr <| s_ Qa <| s_ Qa <| s_ ZM <| s_ VY <| s_ Qb <| zC ?_
 refine cr <| s_ Qa <| s_ Qa <| s_ ZM <| s_ VY <| s_ Qb <| zC ?_
 refine cr <| s_ Qa <| s_ Yv <| s_ J3 <| s_ Qb <| zC ?_
 refine zE ?_
 obtain ⟨i, rfl⟩ := GM h0 h1
 refine Le.of_eq (congrArg (fun z => T.v (.int .i64 z)) ?_)
 revert i; decide
theorem Gm (x : Int) (h0 : 0 ≤ x) (h1 : x ≤ 31) : FnP Tryz.prog 109 [.v (.int .u64 x)] (fun r => r = ei (WV x)) := by
 have h64 := OC x h0 h1
 refine fe Tryz.func109 fun S0 w0 => ?_
 show Sim _ _ [(0, T.v (.int .u64 x))] _ _
 refine zC ?_
 refine cr <| s_ Qb <| zC ?_
 refine ci (p := False) (fun h => h.elim) (fun _ => ?_) (by rfl)
 refine zC ?_
 refine cr <| s_ Qa <| s_ (QQ (h64)) <| s_ Qb <| zC ?_
 refine zE ?_
 exact Le.refl _
def big : Int := 1000000000000
theorem Io (id conf : Int) (h0 : 0 ≤ id) (h1 : id < 5) (h2 : 0 ≤ conf) (h3 : conf ≤ 31) : FnP Tryz.prog 66 [ei id, ei conf] (fun r => r = nd (QV id conf)) := by
 refine fe Tryz.func66 fun S0 w0 => ?_
 show Sim _ _ [(0, ei id), (1, ei conf)] _ _
 have ht : id.tmod 5 = id := Int.tmod_eq_of_lt h0 h1
 have ht2 : (id.tmod 5 + 5).tmod 5 = id := by rw [ht, Int.tmod_eq_emod_of_nonneg (by omega)]; omega
 have hc : WG .i64 conf 31 = conf := WI (p := fun x => WG .i64 x 31 = x) (by decide) h2 h3
 refine zC ?_
 apply cr
 refine Yd fun b4 _ => ?_
 refine zC ?_
 refine cr <| s_ Qa <| s_ Ma <| s_ QY <| s_ Ma <| s_ Qa <| s_ J3 <| s_ (ZF 22 [_, _, _, _, _, _, _, _, _, _, _, _, _, _, _, _, _, _, _, _, _, _]) <| Qz ?_
 refine zC ?_
 refine zE ?_
 simp only [ht2, hc]
 show Le (.agg _) (.agg (Qv _ _))
 exact zL
theorem Af (conf id : Int) (h0 : 0 ≤ id) (h1 : id < 5) (h2 : 0 ≤ conf) (h3 : conf ≤ 31) : FnP Tryz.prog 107 [ei conf, ei id] (fun r => r = eB (isF conf id)) := by
 refine fe Tryz.func107 fun S0 w0 => ?_
 show Sim _ _ [(0, ei conf), (1, ei id)] _ _
 have hw := Jx h0 (by omega)
 refine zC ?_
 refine cr <| s_ Qb <| zC ?_
 refine cr <| s_ Qa <| s_ Qa <| s_ Yv <| s_ ZM <| s_ J3 <| s_ XF <| s_ Qb <| zC ?_
 refine zE ?_
 rw [Jx h0 (by omega), Tu h2 h3 h0 h1]
 exact Le.refl _
theorem Mh (conf some : Int) (h0 : 0 ≤ some) (h1 : some ≤ 31) (h2 : 0 ≤ conf) (h3 : conf ≤ 31) : FnP Tryz.prog 146 [ei conf, ei some] (fun r => r = eB (Vh conf some)) := by
 have hb := AY h2 h3 h0 h1
 have o1 := Gm (Vr conf some) hb.2.1 hb.2.2
 have o2 := Gm conf h2 h3
 have l1 := Bc hb.2.1 hb.2.2
 have l2 : WV (IntKind.u64.wrap (WG .i64 conf some)) = WV (Vr conf some) := by rw [hb.1, Jx hb.2.1 hb.2.2]
 have w1 := Jx hb.2.1 hb.2.2
 have w2 := Jx h2 h3
 rw [← w1, ← hb.1, l2] at o1
 rw [← w2] at o2
 refine fe Tryz.func146 fun S0 w0 => ?_
 show Sim _ _ [(0, ei conf), (1, ei some)] _ _
 refine zC ?_
 refine cr <| s_ Qb <| zC ?_
 refine cr <| s_ Qa <| s_ Qa <| s_ J3 <| s_ Yv <| s_ (QQ (o1)) <| s_ Aw <| s_ Qa <| s_ Yv <| s_ (QQ (o2)) <| s_ Yu <| s_ Qb <| zC ?_
 refine zE ?_
 rw [w2]
 exact Le.refl _
theorem Vu (n : Nd) (i : Int) (hl : n.log.length ≤ 1000000000) (hb1 : -big ≤ n.base) (hb2 : n.base ≤ big) (hi1 : -big ≤ i) (hi2 : i ≤ big) : FnP Tryz.prog 110 [.adr (nd n), ei i] (fun r => r = ei (Xe n i)) := by
 refine fe Tryz.func110 fun S0 w0 => ?_
 show Sim _ _ [(0, T.adr (.agg (Qv n (.sl false (n.log.map een))))), (1, ei i)] _ _
 simp only [big] at hb1 hb2 hi1 hi2
 refine zC ?_
 refine cr <| s_ Qb <| zC ?_
 refine cr <| s_ Qa <| s_ Qa <| s_ Qe ?_
 (first | refine s_ Qu ?_ | refine s_ Qd ?_)
 (first | refine s_ Qm ?_ | refine s_ Ql ?_)
 refine s_ Zp <| s_ Zp <| s_ Qb <| zC ?_
 refine cr <| s_ Qa <| s_ Vo <| s_ Qa <| gT (fun hg => Qa) ?_
 refine gT (fun hg => Qa) ?_
 refine gT (fun hg => Qe (hx := u_ hg)) ?_
 (first | refine gT (fun hg => Qu (hx := u_ hg)) ?_ | refine gT (fun hg => Qd (hx := u_ hg)) ?_)
 (first | refine gT (fun hg => Qm (hx := u_ hg)) ?_ | refine gT (fun hg => Ql (hx := u_ hg)) ?_)
 (first | refine gT (fun hg => QP (hx := u_ hg)) ?_ | refine gT (fun hg => QO (hx := u_ hg)) ?_)
 refine gT (fun hg => QU (hx := u_ hg) (hy := u_ hg)) ?_
 refine s_ XX <| zC ?_
 refine ci ?_ ?_
 ·intro hc
  simp only [List.length_map] at hc
  refine zC ?_
  refine cr <| s_ Qa <| s_ Qe ?_
  (first | refine s_ Qu ?_ | refine s_ Qd ?_)
  (first | refine s_ Qm ?_ | refine s_ Ql ?_)
  refine s_ Qa ?_
  (first | refine s_ (Xd hix) ?_ | refine s_ (Xd hix2) ?_ | refine s_ YE ?_ | refine s_ ZE ?_)
  (first | refine s_ Qu ?_ | refine s_ Qd ?_)
  (first | refine s_ Qm ?_ | refine s_ Ql ?_)
  refine s_ Qb <| zC ?_
  refine zE ?_
  rw [Xe, if_pos (by omega)]
  exact Le.refl _
 ·intro hc
  simp only [List.length_map] at hc
  refine zC ?_
  refine cr <| s_ Qa <| s_ Qe ?_
  (first | refine s_ Qu ?_ | refine s_ Qd ?_)
  (first | refine s_ Qm ?_ | refine s_ Ql ?_)
  refine s_ Qb <| zC ?_
  refine zE ?_
  rw [Xe, if_neg (by omega)]
  exact Le.refl _
theorem Jl (n : Nd) (hl : n.log.length ≤ 1000000000) (hb1 : -100000000000 ≤ n.base) (hb2 : n.base ≤ 100000000000) : FnP Tryz.prog 143 [nd n] (fun r => r = .tup [ei (Qs n), ei (Xe n (Qs n))]) := by
 have ht := Vu n (Qs n) hl (by simp only [big]; omega) (by simp only [big]; omega) (by simp only [big, Qs]; omega) (by simp only [big, Qs]; omega)
 have hlf : Qs n = n.base + ((n.log.map een).length : Nat) := by simp [Qs]
 rw [hlf] at ht ⊢
 refine fe Tryz.func143 fun S0 w0 => ?_
 show Sim _ _ [(0, T.agg (Qv n (.sl false (n.log.map een))))] _ _
 refine zC ?_
 apply cr
 refine X1 fun b1 _ => ?_
 refine s_ Qb <| s_ Qb <| zC ?_
 refine Zt 1 (by simp [Qv]) ?_
 refine zC ?_
 refine cr <| s_ Qu <| s_ Qm <| s_ Qu <| s_ Qm ?_
 (first | refine s_ QP ?_ | refine s_ QO ?_)
 refine s_ QY <| s_ Qb <| zC ?_
 refine cr <| s_ Qa <| s_ Qa <| s_ (QQ (ht)) <| s_ Qb <| s_ Qb <| zC ?_
 refine zE ?_
 exact Le.refl _
theorem VE (n : Nd) (hl : n.log.length ≤ 1000000000) (hb1 : -1000000000000 ≤ n.base) (hb2 : n.base ≤ 1000000000000) : FnP Tryz.prog 32 [nd n] (fun r => r = ei (QD n).2) := by
 have ht := GT n hl hb1 hb2
 refine fe Tryz.func32 fun S0 w0 => ?_
 show Sim _ _ [(0, T.agg (Qv n (.sl false (n.log.map een))))] _ _
 refine zC ?_
 apply cr
 refine X1 fun b1 _ => ?_
 refine s_ Qb <| zC ?_
 refine Zt 1 (by simp [Qv]) ?_
 refine zC ?_
 refine cr <| s_ (QQ (ht)) <| s_ Qa <| s_ QH <| s_ QH <| s_ Qb <| s_ Qb <| zC ?_
 refine cr <| s_ Qa <| s_ Qb <| zC ?_
 refine zE ?_
 exact Le.refl _
def tE : TypeId := 84
def tM : TypeId := 76
def tW : TypeId := 167
def OE (l : List En) (v : Value) (Hs : Qc) : Prop := OSl tE 3 (l.map een) v Hs
def OM (l : List Ms) (v : Value) (Hs : Qc) : Prop := OSl tM 11 (l.map ms) v Hs
theorem EN (l : List En) : ∀ x ∈ l.map een, x.cells.length = 3 := zk
theorem AO (l : List En) : ∀ x ∈ l.map een, x.solid := Z0 _ (fun _ => .inr ⟨_, rfl⟩) _
theorem Bj (l : List Ms) : ∀ x ∈ l.map ms, x.cells.length = 11 := zk
theorem Tp (l : List Ms) : ∀ x ∈ l.map ms, x.solid := Z0 _ (fun _ => .inr ⟨_, rfl⟩) _
theorem LD : ∀ (l : List En), ((l.map een).flatMap T.cells).all T.isV = true
 | [] => rfl
 | e :: l => by simp only [List.map_cons, List.flatMap_cons, List.all_append, LD l, Bool.and_true]; rfl
theorem OE.plain {l : List En} {v : Value} {Hs : Qc} (h : OE l v Hs) : ∀ p ∈ Hs, p.2.vals.all T.isV = true := by
 rcases h with ⟨_, _, rfl⟩ | ⟨b, c, _, _, rfl⟩
 ·simp
 ·intro p hp
  rw [List.mem_singleton.1 hp]
  exact LD l
theorem OE.len {l : List En} {v : Value} {Hs : Qc} (h : OE l v Hs) : ∃ p c, v = .slice p (l.map een).length c := OSl.len h
theorem OM.len {l : List Ms} {v : Value} {Hs : Qc} (h : OM l v Hs) : ∃ p c, v = .slice p (l.map ms).length c := OSl.len h
theorem OE.cap {l : List En} {p : Option Addr} {n c : Nat} {Hs : Qc} (h : OE l (.slice p n c) Hs) : n ≤ c := OSl.cap h
theorem OE.lend {l : List En} {v : Value} {Hs G : Qc} (h : OE l v Hs) (hG : ∀ p ∈ Hs, p ∈ G) : Qx G (.v v) (.sl false (l.map een)) := OSl.lend h hG (EN l) (AO l)
theorem OM.lend {l : List Ms} {v : Value} {Hs G : Qc} (h : OM l v Hs) (hG : ∀ p ∈ Hs, p ∈ G) : Qx G (.v v) (mss l) := OSl.lend h hG (Bj l) (Tp l)
theorem Zw (f : Bool) (l : List En) (hl : l.length ≤ 1000000000) : FnH Tryz.prog 72 [.sl f (l.map een)] [] (fun r H => ∃ v, r = .v v ∧ OE l v H) := by
 refine fe Tryz.func72 fun S0 w0 => ?_
 show Sim _ _ [(0, T.sl f (l.map een))] _ _
 refine zC ?_
 refine cr <| s_ Qb <| zC ?_
 refine cr <| s_ Qa ?_
 refine Zh 3 fun p c h1 _ => ?_
 refine s_ Ay <| zC ?_
 refine ci ?_ ?_
 ·intro hp
  have := h1 hp
  have : l = [] := by simpa using this
  subst this
  refine zC ?_
  refine cr <| s_ Qb <| zC ?_
  refine zR ?_
  exact rh kR ⟨_, rfl, Y7⟩ (Le.refl _)
 ·intro hp
  refine zC ?_
  refine cr <| s_ JG ?_
  refine Zh 5 fun q c' _ h2 => ?_
  have := h2 rfl
  subst this
  cases l with
  | nil =>
   refine s_ Qa <| s_ (Tl (hxl := Le.slice0 q true)) ?_
   refine Zh 7 fun q c' _ h2 => ?_
   have := h2 rfl
   subst this
   refine s_ Qb <| zC ?_
   refine zR ?_
   exact rh kR ⟨_, rfl, UF⟩ (Le.refl _)
  | cons e l =>
   refine s_ Qa ?_
   refine BG (ho := (UF : OSl tE 3 [] _ [])) (A := []) (B := []) (fun _ h => by cases h) (fun v' Hs' ho => ?_)
   refine s_ Qb <| zC ?_
   refine zR ?_
   exact rh kR ⟨_, rfl, by simpa [OE] using ho⟩ (Le.refl _)
def SlE (G : Qc) (l : List En) (v : Value) : Prop := ∃ p c, v = .slice p l.length c ∧ l.length ≤ c ∧ Qx G (.v v) (.sl false (l.map een))
theorem OE.sle {l : List En} {v : Value} {Hs G : Qc} (h : OE l v Hs) (hG : ∀ p ∈ Hs, p ∈ G) : SlE G l v := by
 obtain ⟨p, c, rfl⟩ := h.len
 exact ⟨p, c, by simp, by simpa using h.cap, h.lend hG⟩
theorem SlE.sub {G : Qc} {l : List En} {p : Option Addr} {n c : Nat} (h : SlE G l (.slice p n c)) {lo hi : Nat} (h1 : lo ≤ hi) (h2 : hi ≤ l.length) : SlE G ((l.drop lo).take (hi - lo)) (JX 3 p c lo (hi - lo)) := by
 obtain ⟨p', c', e, hc, hl⟩ := h
 cases e
 have h3 := Qx.sub (P := Tryz.prog) (ty := 41) hl (zk) h1 (by simpa using h2) (by simp) hc
 have hlen : ((l.drop lo).take (hi - lo)).length = hi - lo := by simp; omega
 exact ⟨p.map fun a => if c = lo then a else a.add (lo * 3), c - lo, by rw [hlen]; rfl, by rw [hlen]; omega, by rw [List.map_take, List.map_drop]; exact h3⟩
abbrev TN (P : Program) (f : FuncId) (args : List T) (H : Qc) (d : T) : Prop := FnH P f args H fun r H' => H' = [] ∧ r = d
def wkC (n : Nd) (vl vo : Value) : List T := Qv n (.v vl) ++ [.v vo]
def WkH (b : Nat) (n : Nd) (out : List Ms) (H : Qc) : Prop := ∃ vl vo Hl Ho, OE n.log vl Hl ∧ OM out vo Ho ∧ H = (b, ⟨tW, wkC n vl vo, 23⟩) :: (Hl ++ (Ho ++ []))
def pW (b : Nat) : T := .v (.pointer (some ⟨b, 0, none⟩))
theorem OE.of {l : List En} : ∀ (r : T) (H : Qc), (∃ v, r = .v v ∧ OE l v H) → r.plain = true ∧ ∀ p ∈ H, p.2.vals.all T.isV = true := by
 rintro r H ⟨v, rfl, h⟩
 exact ⟨rfl, h.plain⟩
theorem LO (n : Nd) (hl : n.log.length ≤ 1000000000) : FnH Tryz.prog 102 [nd n] [] (fun r H => ∃ b, r = pW b ∧ WkH b n [] H) := by
 have hc := Zw false n.log hl
 refine fe Tryz.func102 fun S0 w0 => ?_
 show Sim _ _ [(0, T.agg (Qv n (.sl false (n.log.map een))))] _ _
 refine zC ?_
 apply cr
 refine X1 fun b1 _ => ?_
 refine s_ Qb <| zC ?_
 refine cr <| s_ Qd <| s_ Ql ?_
 refine Ah (G := []) hc (Qg.le (LeL.refl _)) ⟨_, List.Perm.refl _⟩ OE.of ?_
 rintro r H1 ⟨v, rfl, ho⟩
 obtain ⟨p, c, rfl⟩ := ho.len
 refine QA List.perm_middle ?_
 refine s_ Qd <| Qz ?_
 refine zC ?_
 refine cr <| s_ Xf <| s_ (ZF 23 [_, _, _, _, _, _, _, _, _, _, _, _, _, _, _, _, _, _, _, _, _, _, _]) ?_
 refine X1 fun b9 _ => ?_
 refine s_ Qb <| zC ?_
 refine zR ?_
 exact rh (.keep _ _ _ _ _ (Yp.refl _) (.skip _ _ _ kR)) ⟨b9, rfl, _, _, H1, [], ho, Y7, rfl⟩ (Le.refl _)
theorem QX {G : Qc} (n : Nd) {x y : T} (h : Qx G x y) : Qg G (Qv n x) (Qv n y) := by
 unfold Qv
 repeat (first | exact Qg.nil | (refine Qg.cons (Qx.le (Le.refl _)) ?_) | (refine Qg.cons h ?_))
def wkD (n : Nd) (out : List Ms) : List T := Qv n (ZG n.log) ++ [mss out]
theorem Rx {G Hl Ho : Qc} {n : Nd} {out : List Ms} {vl vo : Value} (h1 : OE n.log vl Hl) (h2 : OM out vo Ho) (hl : ∀ p ∈ Hl, p ∈ G) (ho : ∀ p ∈ Ho, p ∈ G) : Qg G (wkC n vl vo) (wkD n out) :=
 Qg.append (QX n (h1.lend hl)) (Qg.cons (h2.lend ho) Qg.nil)
theorem Aj {G Hl Ho : Qc} {b : Nat} {n : Nd} {out : List Ms} {vl vo : Value} (h1 : OE n.log vl Hl) (h2 : OM out vo Ho) (hl : ∀ p ∈ Hl, p ∈ G) (ho : ∀ p ∈ Ho, p ∈ G) (hb : (b, (⟨tW, wkC n vl vo, 23⟩ : Blk)) ∈ G) : Qx G (pW b) (.adr (.agg (wkD n out))) :=
 Qx.ptr hb (.inr ⟨_, rfl⟩) (Rx h1 h2 hl ho) (by simp [T.cells, wkD]) (by simp [T.cells, wkD, wkC, Qv])
theorem Mf {G Hl : Qc} {b : Nat} {n : Nd} {vl vo : Value} (h1 : OE n.log vl Hl) (hl : ∀ p ∈ Hl, p ∈ G) (hb : (b, (⟨tW, wkC n vl vo, 23⟩ : Blk)) ∈ G) : Qx G (pW b) (.adr (nd n)) :=
 Qx.ptr hb (.inr ⟨_, rfl⟩) (QX n (h1.lend hl)) (by simp [nd, T.cells, Qv]) (by simp [nd, T.cells, wkC, Qv])
theorem Yg {b : Nat} {n : Nd} {out : List Ms} {H : Qc} (hl : n.log.length ≤ 1000000000) (hw : WkH b n out H) : TN Tryz.prog 106 [pW b] H (.tup [nd n, mss out]) := by
 obtain ⟨vl, vo, Hl, Ho, h1, h2, rfl⟩ := hw
 have hc := Zw false n.log hl
 obtain ⟨p, c, rfl⟩ := h1.len
 obtain ⟨q, d, rfl⟩ := h2.len
 refine fe Tryz.func106 fun S0 w0 => ?_
 show Sim _ _ [(0, pW b)] _ _
 refine zC ?_
 apply cr
 refine Yd fun b2 _ => ?_
 refine s_ Qb <| zC ?_
 refine cr <| s_ Qa <| s_ Qa <| s_ Qe <| s_ Qd <| s_ Qd <| s_ Ql ?_
 refine Cd hc (Qg.cons (h1.lend (by intro p hp; simp [hp])) Qg.nil) OE.of ?_
 rintro r H1 ⟨v, rfl, ho⟩
 obtain ⟨p', c', rfl⟩ := ho.len
 refine QA (List.perm_middle.trans (.cons _ List.perm_middle)) ?_
 refine s_ Qe <| s_ Qd <| s_ Qd <| Qz ?_
 refine zC ?_
 refine zC ?_
 refine Is 0 (.adr (.agg (wkD n out))) (Aj ho h2 (by intro p hp; simp [hp]) (by intro p hp; simp [hp]) List.mem_cons_self) ?_
 refine zC ?_
 refine ca [0, 1, 2, 3, 4, 5, 6, 7, 8, 9] [8] <| a_ (fun _ => Qa) <| a_ (fun _ => Qe) <| a_ (fun _ => Lh) <| a_ (fun _ => Y6) <| a_ (fun _ => Qa) <| a_ (fun _ => Qe) <| a_ (fun _ => Qu) <| a_ (fun _ => Qm) <| XN ?_
 refine a_ (fun _ => Qb) ?_
 apply an
 refine zC ?_
 refine zR ?_
 refine rt ?_
 exact Le.refl _
def XA (n : Nd) (to : Int) (m : Ms) : Ms := { m with frm := n.id, to := to, term := n.term }
theorem JQ {b : Nat} {n : Nd} {out : List Ms} {H : Qc} (to : Int) (m : Ms) (hb : out.length ≤ 1000) (hw : WkH b n out H) : FnH Tryz.prog 145 [pW b, ei to, ms m] H (fun r H' => r = .tup [] ∧ WkH b n (out ++ [XA n to m]) H') := by
 obtain ⟨vl, vo, Hl, Ho, h1, h2, rfl⟩ := hw
 obtain ⟨p, c, rfl⟩ := h1.len
 obtain ⟨q, d, rfl⟩ := h2.len
 refine fe Tryz.func145 fun S0 w0 => ?_
 show Sim _ _ [(0, pW b), (1, ei to), (2, T.agg (msC m (ZG m.entries)))] _ _
 refine zC ?_
 apply cr
 refine X1 fun b5 _ => ?_
 refine zC ?_
 refine ca [0, 1, 2, 3, 4, 5, 6, 7, 8, 9, 10, 11, 12, 13, 14, 15, 16] [12, 14, 16] <| a_ (fun _ => Qa) <| a_ (fun _ => Qe) <| a_ (fun _ => Qd) <| a_ (fun _ => Qd) <| QJ ?_
 refine a_ (fun _ => Qa) <| a_ (fun _ => Qa) <| a_ (fun _ => Qe) <| a_ (fun _ => Qd) <| a_ (fun _ => Qd) <| QJ ?_
 refine a_ (fun _ => Qd) <| XN ?_
 refine a_ (fun _ => Qd) <| XN ?_
 refine a_ (fun _ => Qd) <| XN ?_
 apply an
 refine zC ?_
 refine zC ?_
 refine ca [0, 1, 2, 3, 4, 5, 6, 7, 8, 9, 10] [7, 10] <| a_ (fun _ => Qa) <| a_ (fun _ => Qa) <| a_ (fun _ => Qe) <| a_ (fun _ => Qd) <| QJ ?_
 refine YC ?_
 refine a_ (fun _ => JG) ?_
 refine A3 (ho := h2) (A := _ :: _ :: Hl) (B := []) (Bj out) (fun v' Hs' h3 => ⟨zd, ?_⟩)
 refine zD ?_
 obtain ⟨q', d', rfl⟩ := h3.len
 refine a_ (fun _ => Qe) <| a_ (fun _ => Qd) <| XN ?_
 apply an
 refine zC ?_
 exact rhn (.skip _ _ _ kR) ⟨rfl, _, _, Hl, Hs', h1, (by unfold OM; rw [List.map_append]; exact h3), rfl⟩ (Le.refl _)
def Zq (n : Nd) (to : Int) : Ms := XA n to (if n.next.get to.toNat ≤ n.base then ⟨5, 0, 0, 0, n.base, n.baseTerm, 0, n.baseConf, false, [], n.snap⟩
 else ⟨3, 0, 0, 0, n.next.get to.toNat - 1, Xe n (n.next.get to.toNat - 1), n.commit, 0, false, (n.log.drop (min (n.next.get to.toNat - 1 - n.base) n.log.length).toNat).take 8, []⟩)
theorem five {to : Int} (h0 : 0 ≤ to) (h5 : to < 5) : to = 0 ∨ to = 1 ∨ to = 2 ∨ to = 3 ∨ to = 4 := by omega
theorem Vw {n : Nd} {vl vo : Value} {to : Int} (h0 : 0 ≤ to) (h5 : to < 5) : (wkC n vl vo)[0 + 0 + 12 + to.toNat * 1]? = some (ei (n.next.get to.toNat)) := by
 rcases five h0 h5 with rfl | rfl | rfl | rfl | rfl <;> rfl
theorem Ij {b : Nat} {n : Nd} {out : List Ms} {H : Qc} (to : Int) (h0 : 0 ≤ to) (h5 : to < 5) (hl : n.log.length ≤ 1000000000) (hb1 : -100000000000 ≤ n.base) (hb2 : n.base ≤ 100000000000) (hb3 : n.next.get to.toNat ≤ 100000000000) (hb : out.length ≤ 1000) (hw : WkH b n out H) :
  FnH Tryz.prog 105 [pW b, ei to] H (fun r H' => r = .tup [] ∧ WkH b n (out ++ [Zq n to]) H') := by
 have hw' := hw
 obtain ⟨vl, vo, Hl, Ho, h1, h2, rfl⟩ := hw
 obtain ⟨p, c, rfl⟩ := h1.len
 obtain ⟨q, d, rfl⟩ := h2.len
 refine fe Tryz.func105 fun S0 w0 => ?_
 show Sim _ _ [(0, pW b), (1, ei to)] _ _
 refine zC ?_
 refine ca [0, 1, 2, 3, 4, 5, 6, 7, 8, 9, 10, 11, 12] [] <| a_ (fun _ => Qa) <| a_ (fun _ => Qa) <| a_ (fun _ => Qe) <| a_ (fun _ => Qd) <| a_ (fun _ => Qd) <| a_ (fun _ => YX) <| QJ (hd := Vw h0 h5) ?_
 refine a_ (fun _ => Qa) <| a_ (fun _ => Qe) <| a_ (fun _ => Qd) <| a_ (fun _ => Qd) <| QJ ?_
 refine a_ (fun _ => Bb) ?_
 apply an
 refine zC ?_
 refine ci ?_ ?_
 ·intro hc
  refine zC ?_
  refine ca [0, 1, 2, 3, 4, 5, 6, 7, 8, 9, 10, 11, 12, 13, 14, 15, 16, 17, 18, 19, 20, 21, 22, 23] [23] <| a_ (fun _ => Qa) <| a_ (fun _ => Qa) <| a_ (fun _ => Qa) <| a_ (fun _ => Qe) <| a_ (fun _ => Qd) <| a_ (fun _ => Qd) <| QJ ?_
  refine a_ (fun _ => Qa) <| a_ (fun _ => Qe) <| a_ (fun _ => Qd) <| a_ (fun _ => Qd) <| QJ ?_
  refine a_ (fun _ => Qa) <| a_ (fun _ => Qe) <| a_ (fun _ => Qd) <| a_ (fun _ => Qd) <| QJ ?_
  refine a_ (fun _ => Qa) <| a_ (fun _ => Qe) <| a_ (fun _ => Qd) <| a_ (fun _ => Qd) <| QJ ?_
  refine a_ (fun _ => ZF 11 [_, _, _, _, _, _, _, _, _, _, _]) ?_
  refine CB (FnH.of_le ?_ (JQ to ⟨5, 0, 0, 0, n.base, n.baseTerm, 0, n.baseConf, false, [], n.snap⟩ hb hw')) (fun r H' ⟨hr, h3⟩ => ⟨zd, ?_⟩)
  ·exact zM
  ·refine zD ?_
   subst hr
   apply an
   refine zC ?_
   refine zR ?_
   refine rh kR ⟨rfl, ?_⟩ (Le.refl _)
   rw [Zq, if_pos hc]
   exact h3
 ·intro hc
  have ht := Vu n (n.next.get to.toNat - 1) hl (by simp only [big]; omega) (by simp only [big]; omega) (by simp only [big]; omega) (by simp only [big]; omega)
  refine zC ?_
  refine cr <| s_ Qa <| s_ Qa <| s_ Qe <| s_ Qd <| s_ Qd <| s_ YX <| s_ (Ql (hd := Vw h0 h5)) <| s_ Zp <| s_ Qb <| zC ?_
  refine zC ?_
  refine ca [0, 1, 2, 3, 4, 5, 6, 7, 8, 9, 10, 11, 12, 13, 14, 15, 16, 17, 18, 19, 20] [] <| a_ (fun _ => Qa) <| a_ (fun _ => Qe) <| a_ (fun _ => Qd) <| a_ (fun _ => Qd) <| QJ ?_
  refine a_ (fun _ => Qa) <| a_ (fun _ => Qa) <| a_ (fun _ => Qe) <| a_ (fun _ => Qd) <| a_ (fun _ => Qd) <| QJ ?_
  refine a_ (fun _ => Zp) <| a_ (fun _ => Qa) <| a_ (fun _ => Qe) <| a_ (fun _ => Qd) <| a_ (fun _ => Qd) <| QJ ?_
  (first | refine a_ (fun _ => QP) ?_ | refine a_ (fun _ => QO) ?_)
  refine a_ (fun _ => WU) ?_
  obtain ⟨m, hm⟩ : ∃ m : Nat, (m : Int) = min (n.next.get to.toNat - 1 - n.base) ((n.log.map een).length : Nat) := ⟨(min (n.next.get to.toNat - 1 - n.base) ((n.log.map een).length : Nat)).toNat, by omega⟩
  have hml : m ≤ n.log.length := by simp only [List.length_map] at hm; omega
  have hs5 := (h1.sle (G := (b, ⟨tW, wkC n (.slice p (n.log.map een).length c) (.slice q (out.map ms).length d), 23⟩) :: (Hl ++ (Ho ++ []))) (by intro p hp; simp [hp]))
  have hs5' := SlE.sub hs5 (lo := m) (hi := n.log.length) hml (Nat.le_refl _)
  rw [List.take_of_length_le (by simp)] at hs5'
  obtain ⟨p5, c5, e5, hc5, hl5⟩ := hs5'
  rw [← hm]
  refine a_ (fun _ => Ii (i := (m : Int)) (p := p) (n := (n.log.map een).length) (c := c) h1.cap (by simp only [List.length_map, Int.toNat_natCast]; exact e5)) <| a_ (fun _ => Qb) ?_
  apply an
  refine zC ?_
  refine zC ?_
  refine zC ?_
  refine ca [0, 1, 2, 3, 4, 5, 6, 7, 8, 9, 10, 11, 12, 14, 15, 16, 17, 18, 13, 19, 20] [13, 20] <| a_ (fun _ => Qa) <| a_ (fun _ => Qa) <| a_ (fun _ => Qa) <| a_ (fun _ => Qa) <| a_ (fun _ => Qe) <| a_ (fun _ => Qd) <| a_ (fun _ => Qa) ?_
  refine A4 (G := (b, _) :: (Hl ++ (Ho ++ []))) ht (Qg.cons (Mf h1 (by intro p hp; simp [hp]) List.mem_cons_self) (Qg.cons (Qx.le (Le.refl _)) Qg.nil)) ⟨[], Vf⟩ ?_
  refine a_ (fun _ => Qa) <| a_ (fun _ => Qa) ?_
  (first | refine a_ (fun _ => QP) ?_ | refine a_ (fun _ => QO) ?_)
  refine a_ (fun _ => WU) ?_
  obtain ⟨k, hk⟩ : ∃ k : Nat, (k : Int) = min (((n.log.drop m).length : Nat) : Int) 8 := ⟨min (n.log.drop m).length 8, by omega⟩
  have hs6 := SlE.sub ⟨p5, c5, rfl, hc5, e5 ▸ hl5⟩ (lo := 0) (hi := k) (Nat.zero_le _) (by omega)
  simp only [List.drop_zero, Nat.sub_zero] at hs6
  obtain ⟨p6, c6, e6, hc6, hl6⟩ := hs6
  rw [← hk]
  refine a_ (fun _ => Gk (j := (k : Int)) (p := p5) (n := (n.log.drop m).length) (c := c5) hc5 (by simp only [Int.toNat_natCast]; exact e6)) <| a_ (fun _ => Qa) <| a_ (fun _ => Qe) <| a_ (fun _ => Qd) <| a_ (fun _ => Qd) <| QJ ?_
  refine TK (Zw false ((n.log.drop m).take k) (by simp; omega)) (Qg.cons (e6 ▸ hl6) Qg.nil) ⟨[], Vf⟩ OE.of ?_
  rintro r H1 ⟨v, rfl, ho⟩
  obtain ⟨p7, c7, rfl⟩ := ho.len
  refine ⟨zd, ?_⟩
  refine zD ?_
  refine a_ (fun _ => ZF 11 [_, _, _, _, _, _, _, _, _, _, _]) ?_
  refine CB (FnH.lend (G := H1) ?_ (JQ to ⟨3, 0, 0, 0, n.next.get to.toNat - 1, Xe n (n.next.get to.toNat - 1), n.commit, 0, false, (n.log.drop m).take k, []⟩ hb hw')) (fun r H' ⟨hr, h3⟩ => ⟨zd, ?_⟩)
  ·refine Qg.cons (Qx.le (Le.refl _)) (Qg.cons (Qx.le (Le.refl _)) (Qg.cons (Qx.agg ?_) Qg.nil))
   repeat (first | exact Qg.nil | (refine Qg.cons (Qx.le (Le.refl _)) ?_) | (refine Qg.cons (ho.lend fun _ h => h) ?_))
  ·refine zD ?_
   subst hr
   apply an
   refine zC ?_
   refine rhn kR ⟨rfl, ?_⟩ (Le.refl _)
   have e1 : (min (n.next.get to.toNat - 1 - n.base) (n.log.length : Int)).toNat = m := by simp only [List.length_map] at hm; omega
   have e2 : (n.log.drop m).take 8 = (n.log.drop m).take k := by
    rw [List.take_eq_take_iff]; omega
   rw [Zq, if_neg hc, e1, e2]
   exact h3
def Mj (n : Nd) (to : Nat) : Bool := decide (¬ (to : Int) = n.id) && isF (QD n).2 to
def XP (n : Nd) (F : Int → Ms) (k : Nat) : List Ms := ((List.range k).filter (Mj n)).map fun (i : Nat) => F (i : Int)
theorem VG (n : Nd) (F : Int → Ms) (k : Nat) : XP n F (k + 1) = XP n F k ++ (if Mj n k then [F k] else []) := by
 unfold XP
 rw [List.range_succ, List.filter_append, List.map_append]
 by_cases h : Mj n k <;> simp [h]
theorem G5 (n : Nd) (F : Int → Ms) (k : Nat) : (XP n F k).length ≤ k := by
 unfold XP
 rw [List.length_map]
 exact Nat.le_trans (List.length_filter_le _ _) (Nat.le_of_eq (List.length_range))
structure Bd (n : Nd) : Prop where
 id0 : 0 ≤ n.id
 id5 : n.id < 5
 log : n.log.length ≤ 100000000
 base0 : -10000000000 ≤ n.base
 base1 : n.base ≤ 10000000000
 conf0 : 0 ≤ (QD n).2
 conf1 : (QD n).2 ≤ 31
theorem Li {b : Nat} {n : Nd} {out : List Ms} {H Hc : Qc} (F : Int → Ms) (f : FuncId) (fs cs : List T) (hcall : QE Tryz.prog f = true) (hn : Bd n) (ho : out.length ≤ 900) (hw : WkH b n out H)
  (hdo : ∀ (to : Int) (out : List Ms) (H : Qc), 0 ≤ to → to < 5 → out.length ≤ 905 → WkH b n out H → FnH Tryz.prog f (fs ++ [ei to] ++ cs) (H ++ Hc) (fun _ H' => ∃ H1, H' = H1 ++ Hc ∧ WkH b n (out ++ [F to]) H1)) :
  FnH Tryz.prog 104 [pW b, .clo f fs cs] (H ++ Hc) (fun r H' => r = .tup [] ∧ ∃ H1, H' = H1 ++ Hc ∧ WkH b n (out ++ XP n F 5) H1) := by
 have hC := VE n (by have := hn.log; omega) (by have := hn.base0; omega) (by have := hn.base1; omega)
 refine fe Tryz.func104 fun S0 w0 => ?_
 show Sim _ _ [(0, pW b), (1, T.clo f fs cs)] _ _
 obtain ⟨vl, vo, Hl, Ho, h1, h2, rfl⟩ := hw
 obtain ⟨p, c, rfl⟩ := h1.len
 obtain ⟨q, d, rfl⟩ := h2.len
 refine zC ?_
 refine cr <| s_ Qa <| s_ Qe <| s_ Qd <| s_ Xf <| s_ (VX hC (Qg.cons (Qx.agg (QX n (h1.lend (by intro p hp; simp [hp])))) Qg.nil)) <| s_ Qb <| zC ?_
 refine cr <| s_ Qa <| zC ?_
 apply Qo (σ := Nat × Qc) (ok := fun s => s.1 ≤ 5 ∧ WkH b n (out ++ XP n F s.1) s.2) (env := fun s => [(11, ei (s.1 : Nat)), (4, ei (QD n).2), (0, pW b), (1, T.clo f fs cs)])
  (heap := fun s => s.2 ++ Hc) (μ := fun s => 5 - s.1) (s0 := (0, (b, ⟨tW, wkC n (.slice p (n.log.map een).length c) (.slice q (out.map ms).length d), 23⟩) :: (Hl ++ (Ho ++ []))))
 ·exact ⟨by simp, _, _, Hl, Ho, h1, by simpa [XP] using h2, rfl⟩
 ·exact eL
 ·exact kR
 rintro ⟨k, H⟩ ⟨hk, hw⟩
 simp only at hk hw
 refine zC ?_
 refine cr <| s_ QU <| zC ?_
 refine ci ?_ ?_
 ·intro hlt
  simp only at hlt
  have hlen := G5 n F k
  have hd := hdo k _ H (by omega) (by omega) (by rw [List.length_append]; omega) hw
  have hi : FnP Tryz.prog 107 [ei (QD n).2, ei k] (fun r => r = .v (.bool (decide (isF (QD n).2 k = true)))) := by
   have := Af (QD n).2 k (by omega) (by omega) hn.conf0 hn.conf1
   simpa [eB] using this
  obtain ⟨vl', vo', Hl', Ho', g1, g2, rfl⟩ := hw
  obtain ⟨p', c', rfl⟩ := g1.len
  obtain ⟨q', d', rfl⟩ := g2.len
  refine zC ?_
  refine cr <| s_ Qa <| s_ Qb <| zC ?_
  refine cr <| s_ Qa <| s_ Qa <| s_ Qe <| s_ Qd <| s_ Qd <| s_ Ql <| s_ Yq <| s_ Qa <| gT (fun hg => Qa) ?_
  refine gT (fun hg => Qa) ?_
  refine gT (fun hg => QQ (hi) (ha' := by apply QK (u_ hg); apply QK (u_ hg); exact XE)) ?_
  refine s_ XX <| zC ?_
  refine ci ?_ ?_
  ·intro hm
   refine zC ?_
   refine cr <| s_ Qa <| s_ Qa ?_
   refine Ug hd Vf (fun r H' hH' => ?_) (hc := hcall)
   obtain ⟨H1, rfl, hw1⟩ := hH'
   refine zC ?_
   refine cr <| s_ QY <| s_ Qa <| zC ?_
   refine ⟨(k + 1, H1), ⟨by simp only; omega, ?_⟩, (by simp only []; omega), ⟨?_, eL⟩, by rw [List.append_nil]; exact kR⟩
   ·simp only
    rw [VG, if_pos (by unfold Mj; simp only [Bool.and_eq_true, decide_eq_true_eq]; exact hm), ← List.append_assoc]
    exact hw1
   ·apply Qi; (exact zG)
    exact Le.of_eq (by congr 2)
  ·intro hm
   refine zC ?_
   refine cr <| s_ QY <| s_ Qa <| zC ?_
   refine ⟨(k + 1, _), ⟨by simp only; omega, ?_⟩, (by simp only []; omega), ⟨?_, eL⟩, kR⟩
   ·simp only
    rw [VG, if_neg (by unfold Mj; simp only [Bool.and_eq_true, decide_eq_true_eq]; exact hm), List.append_nil]
    exact ⟨_, _, Hl', Ho', g1, g2, rfl⟩
   ·apply Qi; (exact zG)
    exact Le.of_eq (by congr 2)
 ·intro hlt
  simp only at hlt
  have : k = 5 := by omega
  subst this
  refine zC ?_
  exact rhn kR ⟨rfl, H, rfl, hw⟩ (Le.refl _)
def YN (yes : Bool) (index : Int) : Ms := ⟨4, 0, 0, 0, index, 0, 0, 0, yes, [], []⟩
theorem ZA {b : Nat} {n : Nd} {out : List Ms} {H : Qc} (to : Int) (yes : Bool) (index : Int) (hb : out.length ≤ 1000) (hw : WkH b n out H) :
  FnH Tryz.prog 158 [pW b, ei to, eB yes, ei index] H (fun r H' => r = .tup [] ∧ WkH b n (out ++ [XA n to (YN yes index)]) H') := by
 refine fe Tryz.func158 fun S0 w0 => ?_
 show Sim _ _ [(0, pW b), (1, ei to), (2, eB yes), (3, ei index)] _ _
 refine zC ?_
 refine cr <| s_ Qa <| s_ Qa <| s_ Qa <| s_ Qa <| s_ (ZF 11 [_, _, _, _, _, _, _, _, _, _, _]) ?_
 refine QI (FnH.of_le ?_ (JQ to (YN yes index) hb hw)) (fun r H' ⟨hr, h3⟩ => ?_)
 ·exact zM
 ·subst hr
  refine zC ?_
  exact rhn kR ⟨rfl, h3⟩ (Le.refl _)
theorem O1 {b : Nat} {n : Nd} {out : List Ms} {H : Qc} (m : Ms) (hb : out.length ≤ 1000) (hw : WkH b n out H) :
  FnH Tryz.prog 157 [pW b, ms m] H (fun r H' => if m.term < n.term then r = eB false ∧ WkH b n (out ++ [XA n m.frm (YN false 0)]) H' else r = eB true ∧ WkH b { n with role := 0, wait := 0 } out H') := by
 have hw' := hw
 obtain ⟨vl, vo, Hl, Ho, h1, h2, rfl⟩ := hw
 obtain ⟨p, c, rfl⟩ := h1.len
 obtain ⟨q, d, rfl⟩ := h2.len
 refine fe Tryz.func157 fun S0 w0 => ?_
 show Sim _ _ [(0, pW b), (1, T.agg (msC m (ZG m.entries)))] _ _
 refine zC ?_
 apply cr
 refine X1 fun b3 _ => ?_
 refine s_ Qb <| zC ?_
 refine ca [0, 1, 2, 3, 4, 5, 6, 7] [] <| a_ (fun _ => Qd) <| QJ ?_
 refine a_ (fun _ => Qa) <| a_ (fun _ => Qe) <| a_ (fun _ => Qd) <| a_ (fun _ => Qd) <| QJ ?_
 refine a_ (fun _ => QU) ?_
 apply an
 refine zC ?_
 refine ci ?_ ?_
 ·intro hlt
  refine zC ?_
  refine cr <| s_ Qa <| s_ Qd <| s_ Ql ?_
  refine Q2 (Hr := [_]) (ZA m.frm false 0 hb hw') (List.perm_append_comm (l₁ := [_])) (fun r H' ⟨hr, h3⟩ => ?_)
  subst hr
  refine zC ?_
  refine cr <| s_ Qb <| zC ?_
  refine zR ?_
  refine rhp (List.perm_append_comm (l₂ := [_])) (.skip _ _ _ kR) ?_ (Le.refl _)
  rw [if_pos hlt]
  exact ⟨rfl, h3⟩
 ·intro hlt
  refine zC ?_
  refine cr <| s_ Qa <| s_ Qa <| s_ Qe <| s_ Qd <| s_ Qd <| Qz ?_
  refine s_ Qe <| s_ Qd <| s_ Qd <| Qz ?_
  refine zC ?_
  refine cr <| s_ Qb <| zC ?_
  refine zR ?_
  refine rh (.skip _ _ _ kR) ?_ (Le.refl _)
  rw [if_neg hlt]
  exact ⟨rfl, _, _, Hl, Ho, h1, h2, rfl⟩
def YT (f : F5) (idx : Int) : Nat → Int
 | 0 => 0
 | k + 1 => YT f idx k + (if idx ≤ f.get k then 2 ^ k else 0)
theorem LT (f : F5) (idx : Int) : ∀ k, 0 ≤ YT f idx k ∧ YT f idx k < 2 ^ k
 | 0 => by simp [YT]
 | k + 1 => by
  have := LT f idx k
  rw [YT, Int.pow_succ]
  split <;> omega
theorem CL {x : Int} : ∀ {k : Nat}, k < 5 → 0 ≤ x → x < 2 ^ k → bOr .i64 x (Zy .i64 1 (IntKind.u64.wrap k)) = x + 2 ^ k := by
 have key : ∀ k : Fin 5, ∀ i : Fin 32, (i.val : Int) < 2 ^ k.val → bOr .i64 i.val (Zy .i64 1 (IntKind.u64.wrap (k.val : Nat))) = i.val + 2 ^ k.val := by decide
 intro k hk h0 h1
 have h2 : (2 : Int) ^ k ≤ 16 := by
  rcases (by omega : k = 0 ∨ k = 1 ∨ k = 2 ∨ k = 3 ∨ k = 4) with rfl | rfl | rfl | rfl | rfl <;> decide
 obtain ⟨i, rfl⟩ := GM h0 (by omega)
 exact key ⟨k, hk⟩ i h1
def f5C (f : F5) : List T := [ei f.a, ei f.b, ei f.c, ei f.d, ei f.e]
theorem Tz (f : F5) {k : Nat} (hk : k < 5) : (f5C f)[(k : Int).toNat]? = some (ei (f.get k)) := by
 rcases (by omega : k = 0 ∨ k = 1 ∨ k = 2 ∨ k = 3 ∨ k = 4) with rfl | rfl | rfl | rfl | rfl <;> rfl
def XL (n : Nd) (conf : Int) : Nat → Int
 | 0 => n.commit
 | k + 1 => if (n.log.getD k default).term = n.term ∧ Vh conf (YT n.mtch (n.base + k + 1) 5) then max (XL n conf k) (n.base + k + 1) else XL n conf k
def QW (n : Nd) : Nd :=
 if ¬ isF (QD n).2 n.id ∧ (QD n).1 ≤ XL n (QD n).2 n.log.length then { n with commit := XL n (QD n).2 n.log.length, role := 0, wait := 0 } else { n with commit := XL n (QD n).2 n.log.length }
theorem GP (l : List En) {k : Nat} (h : k < l.length) : (l.map een)[k]? = some (een (l.getD k default)) := by simp [h]
theorem IF (conf id : Int) (h0 : 0 ≤ id) (h1 : id < 5) (h2 : 0 ≤ conf) (h3 : conf ≤ 31) : FnP Tryz.prog 107 [ei conf, ei id] (fun r => r = .v (.bool (decide (isF conf id = true)))) := by
 have := Af conf id h0 h1 h2 h3
 simpa [eB] using this
theorem U5 {b : Nat} {n : Nd} {out : List Ms} {H : Qc} (hn : Bd n) (hw : WkH b n out H) :
  FnH Tryz.prog 144 [pW b] H (fun r H' => r = .tup [] ∧ WkH b (QW n) out H') := by
 have hC := GT n (by have := hn.log; omega) (by have := hn.base0; omega) (by have := hn.base1; omega)
 have hlog := hn.log
 have hb0 := hn.base0
 have hb1 := hn.base1
 refine fe Tryz.func144 fun S0 w0 => ?_
 show Sim _ _ [(0, pW b)] _ _
 obtain ⟨vl, vo, Hl, Ho, h1, h2, rfl⟩ := hw
 obtain ⟨p, c, rfl⟩ := h1.len
 obtain ⟨q, d, rfl⟩ := h2.len
 refine zC ?_
 refine cr <| s_ Qa <| s_ Qe <| s_ Qd <| s_ (VX hC (Qg.cons (Mf h1 (by intro p hp; simp [hp]) List.mem_cons_self) Qg.nil)) <| s_ Qa <| s_ QH <| s_ QH <| s_ Qb <| s_ Qb <| zC ?_
 refine cr <| s_ Qa <| s_ Qe <| s_ Qd <| s_ Qd <| s_ Ql ?_
 (first | refine s_ QP ?_ | refine s_ QO ?_)
 refine s_ Qa <| zC ?_
 have hc0 := hn.conf0
 have hc1 := hn.conf1
 generalize hcf : (QD n).2 = conf at hc0 hc1 ⊢
 generalize hat : (QD n).1 = at_
 apply Qo (σ := Nat) (ok := fun k => k ≤ n.log.length) (env := fun k => [(23, ei (k : Nat)), (22, ei ((n.log.map een).length : Nat)), (21, .v (.slice p (n.log.map een).length c)), (2, ei at_), (3, ei conf), (0, pW b)])
  (heap := fun k => (b, ⟨tW, wkC { n with commit := XL n conf k } (.slice p (n.log.map een).length c) (.slice q (out.map ms).length d), 23⟩) :: (Hl ++ (Ho ++ []))) (μ := fun k => n.log.length - k) (s0 := 0)
 ·exact Nat.zero_le _
 ·exact eL
 ·exact kR
 intro k hk
 refine zC ?_
 refine cr <| s_ QU <| zC ?_
 refine ci ?_ ?_
 ·intro hlt
  simp only [List.length_map] at hlt
  have hkl : k < n.log.length := by omega
  have hrow : ∃ bl, p = some ⟨bl, 0, none⟩ ∧ Hl = [(bl, (⟨tE, (n.log.map een).flatMap T.cells, c * 3⟩ : Blk))] := by
   rcases h1 with ⟨h, _⟩ | ⟨bl, c', e, _, rfl⟩
   ·have : n.log = [] := by simpa using h
    rw [this] at hkl; simp at hkl
   ·cases e; exact ⟨bl, rfl, rfl⟩
  obtain ⟨bl, rfl, rfl⟩ := hrow
  refine zC ?_
  refine cr <| s_ Qa ?_
  (first | refine s_ (Xd hix) ?_ | refine s_ (Xd hix2) ?_ | refine s_ YE ?_ | refine s_ ZE ?_)
  refine s_ (Xf (hc := Xs.flat (EN n.log) (GP n.log hkl))) ?_
  refine Yd fun b5 _ => ?_
  refine s_ Qb <| Qz ?_
  refine zC ?_
  refine cr <| s_ Qa <| s_ Qe <| s_ Qd <| s_ Qd <| s_ Ql <| s_ Qa <| s_ QY <| s_ QY <| s_ Qb <| s_ Qb <| zC ?_
  refine cr <| s_ Qa <| s_ Qe <| s_ Qd <| s_ Qd <| s_ Xf <| s_ Qa <| zC ?_
  apply Qo (σ := Nat) (ok := fun j => j ≤ 5) (env := fun j => [(41, ei (j : Nat)), (40, .agg (f5C n.mtch)), (7, ei (YT n.mtch (n.base + k + 1) j)), (6, ei (n.base + k + 1)), (5, .v (.pointer (some ⟨b5, 0, none⟩))), (23, ei (k : Nat)), (22, ei ((n.log.map een).length : Nat)), (21, .v (.slice (some ⟨bl, 0, none⟩) (n.log.map een).length c)), (2, ei at_), (3, ei conf), (0, pW b)])
   (heap := fun _ => (b5, ⟨tE, (een (n.log.getD k default)).cells, 3⟩) :: (b, ⟨tW, wkC { n with commit := XL n conf k } (.slice (some ⟨bl, 0, none⟩) (n.log.map een).length c) (.slice q (out.map ms).length d), 23⟩) :: ([(bl, (⟨tE, (n.log.map een).flatMap T.cells, c * 3⟩ : Blk))] ++ (Ho ++ []))) (μ := fun j => 5 - j) (s0 := 0)
  ·exact Nat.zero_le _
  ·exact eL
  ·exact kR
  ·intro j hj
   refine zC ?_
   refine cr <| s_ QU <| zC ?_
   refine ci ?_ ?_
   ·intro hj5
    have hj5' : j < 5 := by omega
    have ix_a := Tz n.mtch hj5'
    have hbd := LT n.mtch (n.base + k + 1) j
    have hwj := Jx (x := (j : Nat)) (by omega) (by omega)
    have hor := CL hj5' hbd.1 hbd.2
    refine zC ?_
    refine cr <| s_ Qa <| s_ (TT (by first | exact ix_a | rfl)) <| s_ Qb <| s_ Qb <| zC ?_
    refine cr <| s_ Qa <| s_ Qa <| s_ Vo <| zC ?_
    refine ci ?_ ?_
    ·intro hge
     have hs : YT n.mtch (n.base + k + 1) (j + 1) = bOr .i64 (YT n.mtch (n.base + k + 1) j) (Zy .i64 1 (IntKind.u64.wrap j)) := by rw [hor, YT, if_pos hge]
     refine zC ?_
     refine cr <| s_ Qa <| s_ Qa <| s_ Yv <| s_ UD <| s_ Vg <| s_ Qb <| zC ?_
     refine cr <| s_ QY <| s_ Qa <| zC ?_
     exact ⟨j + 1, by omega, by show 5 - (j + 1) < 5 - j; omega, ⟨Qi (by rfl) (Le.refl _), Qi (by (exact zG)) (Le.refl _), Qi (by (exact zG)) (Le.of_eq (by rw [hs]; rfl)), eL⟩, kR⟩
    ·intro hge
     have hs : YT n.mtch (n.base + k + 1) (j + 1) = YT n.mtch (n.base + k + 1) j := by rw [YT, if_neg hge]; omega
     refine zC ?_
     refine cr <| s_ QY <| s_ Qa <| zC ?_
     exact ⟨j + 1, by omega, by show 5 - (j + 1) < 5 - j; omega, ⟨Qi (by rfl) (Le.refl _), Qi (by (exact zG)) (Le.refl _), Qi (by (exact zG)) (Le.of_eq (by rw [hs])), eL⟩, kR⟩
   ·intro hj5
    have : j = 5 := by omega
    subst this
    have hm5 := LT n.mtch (n.base + k + 1) 5
    have hmost := Mh conf (YT n.mtch (n.base + k + 1) 5) hm5.1 (by omega) hc0 hc1
    refine zC ?_
    refine ca [0, 1, 2, 3, 4, 5, 6, 7, 8, 9, 10, 11, 12] [] <| a_ (fun _ => Qd) <| QJ ?_
    refine a_ (fun _ => Qa) <| a_ (fun _ => Qe) <| a_ (fun _ => Qd) <| a_ (fun _ => Qd) <| QJ ?_
    refine a_ (fun _ => XF) <| a_ (fun _ => Qa) <| QF (fun _ hg => Qa) ?_
    refine QF (fun _ hg => Qa) ?_
    refine QF (fun _ hg => QQ (hmost) (ha' := by apply QK (u_ hg); apply QK (u_ hg); exact XE)) ?_
    refine a_ (fun _ => XX) ?_
    apply an
    refine zC ?_
    refine ci ?_ ?_
    ·intro hc
     refine zC ?_
     refine cr <| s_ Qa <| s_ Qa <| s_ Qe <| s_ Qd <| s_ Qd <| s_ Ql <| s_ Qa <| s_ VW <| s_ Qe <| s_ Qd <| s_ Qd <| Qz ?_
     refine zC ?_
     refine cr <| s_ QY <| s_ Qa <| zC ?_
     refine ⟨k + 1, by omega, by show n.log.length - (k + 1) < n.log.length - k; omega, ⟨Qi (by rfl) (Le.refl _), eL⟩, ?_⟩
     have hs : XL n conf (k + 1) = max (XL n conf k) (n.base + k + 1) := by rw [XL, if_pos ⟨hc.1, decide_eq_true hc.2⟩]
     dsimp only
     rw [hs]
     exact kS kR
    ·intro hc
     refine zC ?_
     refine cr <| s_ QY <| s_ Qa <| zC ?_
     refine ⟨k + 1, by omega, by show n.log.length - (k + 1) < n.log.length - k; omega, ⟨Qi (by rfl) (Le.refl _), eL⟩, ?_⟩
     have hs : XL n conf (k + 1) = XL n conf k := by rw [XL, if_neg fun h => hc ⟨h.1, of_decide_eq_true h.2⟩]
     dsimp only
     rw [hs]
     exact kS kR
 ·intro hlt
  simp only [List.length_map] at hlt
  have : k = n.log.length := by omega
  subst this
  have hi := IF conf n.id hn.id0 hn.id5 hc0 hc1
  refine zC ?_
  refine cr <| s_ Qa <| s_ Qa <| s_ Qe <| s_ Qd <| s_ Qd <| s_ Ql <| s_ (QQ (hi)) <| s_ YA <| s_ Qa <| gT (fun hg => Qa) ?_
  refine gT (fun hg => Qa) ?_
  refine gT (fun hg => Qe (hx := u_ hg)) ?_
  refine gT (fun hg => Qd (hx := u_ hg)) ?_
  refine gT (fun hg => Qd (hx := u_ hg)) ?_
  refine gT (fun hg => Ql (hx := u_ hg)) ?_
  refine gT (fun hg => Bb (hx := u_ hg) (hy := u_ hg)) ?_
  refine s_ XX <| zC ?_
  refine ci ?_ ?_
  ·intro hc
   refine zC ?_
   refine cr <| s_ Qa <| s_ Qa <| s_ Qe <| s_ Qd <| s_ Qd <| Qz ?_
   refine s_ Qe <| s_ Qd <| s_ Qd <| Qz ?_
   refine zC ?_
   refine rhn kR ⟨rfl, ?_⟩ (Le.refl _)
   have e : QW n = { n with commit := XL n conf n.log.length, role := 0, wait := 0 } := by rw [QW, hcf, hat, if_pos hc]
   rw [e]
   exact ⟨_, _, Hl, Ho, h1, h2, rfl⟩
  ·intro hc
   refine zC ?_
   refine rhn kR ⟨rfl, ?_⟩ (Le.refl _)
   have e : QW n = { n with commit := XL n conf n.log.length } := by rw [QW, hcf, hat, if_neg hc]
   rw [e]
   exact ⟨_, _, Hl, Ho, h1, h2, rfl⟩
end Go.Proofs.YtjbokbikkcfjjaaGreat
