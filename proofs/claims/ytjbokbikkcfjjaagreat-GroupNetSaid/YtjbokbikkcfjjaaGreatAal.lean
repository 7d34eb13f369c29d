/-
  What the type table says, type by type (laid by my own program).
-/
import Derived.Test.YtjbokbikkcfjjaaGreatAak
import Derived.Test.YtjbokbikkcfjjaaGreatProg
set_option maxRecDepth 16000
set_option maxHeartbeats 8000000
set_option linter.all false
namespace Go.Proofs.YtjbokbikkcfjjaaGreat
open Go.Cap
instance : QV Tryz.prog 3 [.v (.int .i64 0)] := ⟨by rfl⟩
instance : Qv Tryz.prog 22 (.v (.int .i64 0)) 8 := ⟨by rfl⟩
instance : QV Tryz.prog 25 [.v (.int .i64 0)] := ⟨by rfl⟩
instance : QV Tryz.prog 34 [.v (.slice none 0 0)] := ⟨by rfl⟩
instance : YP Tryz.prog 34 1 := ⟨by rfl⟩
instance : Qv Tryz.prog 34 (.v (.int .u8 0)) 1 := ⟨by rfl⟩
instance : YP Tryz.prog 41 3 := ⟨by rfl⟩
instance : Qv Tryz.prog 41 (.agg [.v (.int .i64 0), .v (.int .i64 0), .v (.string .empty)]) 32 := ⟨by rfl⟩
instance : UA Tryz.prog 42 5 := ⟨by rfl, by rfl⟩
instance : I7 Tryz.prog 42 5 1 := ⟨by rfl⟩
instance : QV Tryz.prog 44 [.v (.int .i64 0), .v (.int .i64 0), .v (.int .i64 0), .v (.int .i64 0), .v (.int .i64 0), .v (.int .i64 0), .v (.string .empty), .v (.slice none 0 0), .v (.int .i64 0), .v (.int .i64 0), .v (.int .i64 0), .v (.int .i64 0), .v (.int .i64 0), .v (.int .i64 0), .v (.int .i64 0), .v (.int .i64 0), .v (.int .i64 0), .v (.int .i64 0), .v (.int .i64 0), .v (.int .i64 0), .v (.int .i64 0), .v (.int .i64 0)] := ⟨by rfl⟩
instance : UA Tryz.prog 44 22 := ⟨by rfl, by rfl⟩
instance : QW Tryz.prog 44 0 0 1 false := ⟨by rfl⟩
instance : QW Tryz.prog 44 1 1 1 false := ⟨by rfl⟩
instance : QW Tryz.prog 44 2 2 1 false := ⟨by rfl⟩
instance : QW Tryz.prog 44 3 3 1 false := ⟨by rfl⟩
instance : QW Tryz.prog 44 4 4 1 false := ⟨by rfl⟩
instance : QW Tryz.prog 44 5 5 1 false := ⟨by rfl⟩
instance : QW Tryz.prog 44 6 6 1 false := ⟨by rfl⟩
instance : QW Tryz.prog 44 7 7 1 false := ⟨by rfl⟩
instance : QW Tryz.prog 44 8 8 1 false := ⟨by rfl⟩
instance : QW Tryz.prog 44 9 9 1 false := ⟨by rfl⟩
instance : QW Tryz.prog 44 10 10 1 false := ⟨by rfl⟩
instance : QW Tryz.prog 44 11 11 1 false := ⟨by rfl⟩
instance : QW Tryz.prog 44 12 12 5 true := ⟨by rfl⟩
instance : QW Tryz.prog 44 13 17 5 true := ⟨by rfl⟩
instance : RR Tryz.prog 66 3 4 (.int .i64) (.v (.bool false)) := ⟨by rfl, by rfl, by rfl⟩
instance : QV Tryz.prog 68 [.v (.pointer none), .v (.pointer none)] := ⟨by rfl⟩
instance : UA Tryz.prog 68 2 := ⟨by rfl, by rfl⟩
instance : QW Tryz.prog 68 0 0 1 false := ⟨by rfl⟩
instance : QW Tryz.prog 68 1 1 1 false := ⟨by rfl⟩
instance : I7 Tryz.prog 69 5 2 := ⟨by rfl⟩
instance : YP Tryz.prog 70 11 := ⟨by rfl⟩
instance : Qv Tryz.prog 70 (.agg [.v (.int .i64 0), .v (.int .i64 0), .v (.int .i64 0), .v (.int .i64 0), .v (.int .i64 0), .v (.int .i64 0), .v (.int .i64 0), .v (.int .i64 0), .v (.bool false), .v (.slice none 0 0), .v (.string .empty)]) 112 := ⟨by rfl⟩
instance : QV Tryz.prog 72 [.v (.int .i64 0), .v (.pointer none), .v (.pointer none), .v (.pointer none), .v (.pointer none), .v (.pointer none), .v (.pointer none), .v (.pointer none), .v (.pointer none), .v (.pointer none), .v (.pointer none), .v (.map none), .v (.slice none 0 0)] := ⟨by rfl⟩
instance : QW Tryz.prog 72 1 1 10 true := ⟨by rfl⟩
instance : QW Tryz.prog 72 2 11 1 false := ⟨by rfl⟩
instance : QW Tryz.prog 72 3 12 1 false := ⟨by rfl⟩
instance : QV Tryz.prog 76 [.v (.int .i64 0), .v (.int .i64 0), .v (.int .i64 0), .v (.int .i64 0), .v (.int .i64 0), .v (.int .i64 0), .v (.int .i64 0), .v (.int .i64 0), .v (.bool false), .v (.slice none 0 0), .v (.string .empty)] := ⟨by rfl⟩
instance : UA Tryz.prog 76 11 := ⟨by rfl, by rfl⟩
instance : QW Tryz.prog 76 0 0 1 false := ⟨by rfl⟩
instance : QW Tryz.prog 76 1 1 1 false := ⟨by rfl⟩
instance : QW Tryz.prog 76 2 2 1 false := ⟨by rfl⟩
instance : QW Tryz.prog 76 3 3 1 false := ⟨by rfl⟩
instance : QW Tryz.prog 76 4 4 1 false := ⟨by rfl⟩
instance : QW Tryz.prog 76 5 5 1 false := ⟨by rfl⟩
instance : QW Tryz.prog 76 6 6 1 false := ⟨by rfl⟩
instance : QW Tryz.prog 76 7 7 1 false := ⟨by rfl⟩
instance : QW Tryz.prog 76 8 8 1 false := ⟨by rfl⟩
instance : QW Tryz.prog 76 9 9 1 false := ⟨by rfl⟩
instance : QW Tryz.prog 76 10 10 1 false := ⟨by rfl⟩
instance : QV Tryz.prog 84 [.v (.int .i64 0), .v (.int .i64 0), .v (.string .empty)] := ⟨by rfl⟩
instance : UA Tryz.prog 84 3 := ⟨by rfl, by rfl⟩
instance : QW Tryz.prog 84 0 0 1 false := ⟨by rfl⟩
instance : QW Tryz.prog 84 1 1 1 false := ⟨by rfl⟩
instance : QW Tryz.prog 84 2 2 1 false := ⟨by rfl⟩
instance : QW Tryz.prog 87 0 0 1 false := ⟨by rfl⟩
instance : QW Tryz.prog 87 1 1 1 false := ⟨by rfl⟩
instance : QW Tryz.prog 87 2 2 1 false := ⟨by rfl⟩
instance : QV Tryz.prog 89 [.v (.int .i64 0), .v (.int .i64 0), .v (.bool false), .v (.slice none 0 0), .v (.int .i64 0), .v (.slice none 0 0), .v (.int .i64 0)] := ⟨by rfl⟩
instance : QW Tryz.prog 89 0 0 3 true := ⟨by rfl⟩
instance : QW Tryz.prog 89 1 3 1 false := ⟨by rfl⟩
instance : QW Tryz.prog 89 2 4 1 false := ⟨by rfl⟩
instance : QW Tryz.prog 89 3 5 1 false := ⟨by rfl⟩
instance : QW Tryz.prog 89 4 6 1 false := ⟨by rfl⟩
instance : QV Tryz.prog 91 [.v (.pointer none)] := ⟨by rfl⟩
instance : QV Tryz.prog 93 [.v (.pointer none), .v (.int .i64 0), .v (.int .i64 0), .v (.int .i64 0), .v (.int .i64 0), .v (.int .i64 0), .v (.int .i64 0), .v (.string .empty), .v (.slice none 0 0), .v (.int .i64 0), .v (.int .i64 0), .v (.int .i64 0), .v (.int .i64 0), .v (.int .i64 0), .v (.int .i64 0), .v (.int .i64 0), .v (.int .i64 0), .v (.int .i64 0), .v (.int .i64 0), .v (.int .i64 0), .v (.int .i64 0), .v (.int .i64 0), .v (.int .i64 0)] := ⟨by rfl⟩
instance : QW Tryz.prog 93 0 0 1 false := ⟨by rfl⟩
instance : QW Tryz.prog 93 1 1 22 true := ⟨by rfl⟩
instance : QV Tryz.prog 95 [.v (.pointer none), .v (.int .i64 0), .v (.int .i64 0), .v (.int .i64 0), .v (.int .i64 0), .v (.int .i64 0), .v (.int .i64 0), .v (.string .empty), .v (.slice none 0 0), .v (.int .i64 0), .v (.int .i64 0), .v (.int .i64 0), .v (.int .i64 0), .v (.int .i64 0), .v (.int .i64 0), .v (.int .i64 0), .v (.int .i64 0), .v (.int .i64 0), .v (.int .i64 0), .v (.int .i64 0), .v (.int .i64 0), .v (.int .i64 0), .v (.int .i64 0)] := ⟨by rfl⟩
instance : QW Tryz.prog 95 0 0 23 true := ⟨by rfl⟩
instance : QV Tryz.prog 117 [.v (.slice none 0 0)] := ⟨by rfl⟩
instance : Qv Tryz.prog 117 (.v (.slice none 0 0)) 24 := ⟨by rfl⟩
instance : QV Tryz.prog 157 [.v (.pointer none), .v (.int .i64 0)] := ⟨by rfl⟩
instance : QW Tryz.prog 157 0 0 1 false := ⟨by rfl⟩
instance : QW Tryz.prog 157 1 1 1 false := ⟨by rfl⟩
instance : QV Tryz.prog 167 [.v (.int .i64 0), .v (.int .i64 0), .v (.int .i64 0), .v (.int .i64 0), .v (.int .i64 0), .v (.int .i64 0), .v (.string .empty), .v (.slice none 0 0), .v (.int .i64 0), .v (.int .i64 0), .v (.int .i64 0), .v (.int .i64 0), .v (.int .i64 0), .v (.int .i64 0), .v (.int .i64 0), .v (.int .i64 0), .v (.int .i64 0), .v (.int .i64 0), .v (.int .i64 0), .v (.int .i64 0), .v (.int .i64 0), .v (.int .i64 0), .v (.slice none 0 0)] := ⟨by rfl⟩
instance : QW Tryz.prog 167 0 0 22 true := ⟨by rfl⟩
instance : QW Tryz.prog 167 1 22 1 false := ⟨by rfl⟩
instance : QV Tryz.prog 179 [.v (.slice none 0 0), .v (.int .i64 0)] := ⟨by rfl⟩
instance : QW Tryz.prog 179 0 0 1 false := ⟨by rfl⟩
instance : QW Tryz.prog 179 1 1 1 false := ⟨by rfl⟩
instance : QV Tryz.prog 191 [.v (.int .u32 0)] := ⟨by rfl⟩
instance : QV Tryz.prog 200 [.v (.int .i64 0), .v (.int .i64 0), .v (.int .i64 0), .v (.int .i64 0), .v (.int .i64 0), .v (.int .i64 0), .v (.int .i64 0), .v (.int .i64 0), .v (.int .i64 0), .v (.int .i64 0), .v (.int .i64 0), .v (.int .i64 0), .v (.int .i64 0), .v (.int .i64 0), .v (.int .i64 0), .v (.int .i64 0), .v (.int .i64 0), .v (.int .i64 0), .v (.int .i64 0), .v (.int .i64 0)] := ⟨by rfl⟩
instance : UA Tryz.prog 200 20 := ⟨by rfl, by rfl⟩
def ei (n : Int) : T := .v (.int .i64 n)
def es (s : List UInt8) : T := .v (.string (bs s))
def eB (b : Bool) : T := .v (.bool b)
structure En where
 term : Int
 conf : Int
 cmd : List UInt8
 deriving DecidableEq, Inhabited
def een (e : En) : T := .agg [ei e.term, ei e.conf, es e.cmd]
def Y5 (l : List En) : T := .sl false (l.map een)
structure F5 where
 a : Int
 b : Int
 c : Int
 d : Int
 e : Int
 deriving DecidableEq, Inhabited
def F5.get (f : F5) : Nat → Int
 | 0 => f.a
 | 1 => f.b
 | 2 => f.c
 | 3 => f.d
 | _ => f.e
def F5.set (f : F5) (i : Nat) (v : Int) : F5 := match i with
 | 0 => { f with a := v }
 | 1 => { f with b := v }
 | 2 => { f with c := v }
 | 3 => { f with d := v }
 | _ => { f with e := v }
def F5.all (v : Int) : F5 := ⟨v, v, v, v, v⟩
structure Nd where
 id : Int
 term : Int
 vote : Int
 base : Int
 baseTerm : Int
 baseConf : Int
 snap : List UInt8
 log : List En
 commit : Int
 role : Int
 wait : Int
 votes : Int
 next : F5
 mtch : F5
 deriving DecidableEq, Inhabited
def Qw (n : Nd) (lg : T) : List T := [ei n.id, ei n.term, ei n.vote, ei n.base, ei n.baseTerm, ei n.baseConf, es n.snap, lg, ei n.commit, ei n.role, ei n.wait, ei n.votes,
 ei n.next.a, ei n.next.b, ei n.next.c, ei n.next.d, ei n.next.e, ei n.mtch.a, ei n.mtch.b, ei n.mtch.c, ei n.mtch.d, ei n.mtch.e]
def nd (n : Nd) : T := .agg (Qw n (Y5 n.log))
structure Ms where
 kind : Int
 frm : Int
 to : Int
 term : Int
 index : Int
 logTerm : Int
 commit : Int
 conf : Int
 yes : Bool
 entries : List En
 snap : List UInt8
 deriving DecidableEq, Inhabited
def msC (m : Ms) (es' : T) : List T := [ei m.kind, ei m.frm, ei m.to, ei m.term, ei m.index, ei m.logTerm, ei m.commit, ei m.conf, eB m.yes, es', es m.snap]
def ms (m : Ms) : T := .agg (msC m (Y5 m.entries))
def mss (l : List Ms) : T := .sl false (l.map ms)
def lc (l : List En) : Nat → Option (Nat × Int)
 | 0 => none
 | k + 1 => if (l.getD k default).conf ≠ 0 then some (k, (l.getD k default).conf) else lc l k
def QI (n : Nd) : Int × Int := match lc n.log n.log.length with
 | some (k, c) => (n.base + k + 1, c)
 | none => (n.base, n.baseConf)
def VO (l : List En) (k : Nat) : List (Nat × En) := (List.range k).map fun j => (l.length - 1 - j, l.getD (l.length - 1 - j) default)
theorem YW (l : List En) (k : Nat) : VO l (k + 1) = VO l k ++ [(l.length - 1 - k, l.getD (l.length - 1 - k) default)] := by simp [VO, List.range_succ]
theorem Lr (l : List En) : ∀ (m k : Nat), m + k = l.length → (∀ p ∈ VO l k, p.2.conf = 0) → lc l l.length = lc l m
 | m, 0, h, _ => by
  have : m = l.length := by omega
  rw [this]
 | m, k + 1, h, h0 => by
  have h1 := Lr l (m + 1) k (by omega) (fun p hp => h0 p (by rw [YW]; exact List.mem_append_left _ hp))
  have h2 := h0 _ (by rw [YW]; exact List.mem_append_right _ (List.mem_singleton.2 rfl))
  have e : l.length - 1 - k = m := by omega
  rw [e] at h2
  rw [h1, lc, if_neg (by simpa using h2)]
end Go.Proofs.YtjbokbikkcfjjaaGreat
namespace Go.Cap
section
variable {K : Ctx} {P : Program} {t : Env} {H : Qb} {dst : Option Tmp} {tp : TypeId} {pos : String} {aft : Array Edge} {g : Option (Nat × Bool)} {N : Env → Qb → Prop} {ty ty' : TypeId}
theorem UQ {x y : Operand} {p : Option Addr} {n c : Nat} {f : Bool} {dy : T} {d : T} {by_ : Nat} (hx : t.ev x = .v (.slice p n c)) (hy : t.ev y = dy) (hyl : Le dy (.sl f [])) [hz : Qv P ty d by_] (hs : QE P ty' = true) (hc1 : n ≤ c) :
  POp P t H ⟨dst, .call ⟨.builtin .append, #[x, y], #[ty, ty']⟩, tp, pos, aft, g⟩ (.v (.slice p n c)) :=
 POp.run fun S w a hw _ hr => by
  have h1 := hr x (by simp [Op.operands, Call.operands]); rw [hx] at h1
  have h2 := hr y (by simp [Op.operands, Call.operands]); rw [hy] at h2
  replace h2 := hyl _ _ _ h2
  obtain ⟨e, i, z, hu, hi, hzz, hsz, hp, rfl, hby⟩ := XN hz.h
  obtain ⟨e', _, hu', _⟩ := X7 hs
  have hl := QY z
  have hk0 : 0 < (T.ofVal z).cells.length := by omega
  have e1 : (execOp a.eval ⟨dst, .call ⟨.builtin .append, #[x, y], #[ty, ty']⟩, tp, pos, aft, g⟩).run P w = ((Builtin.append_ #[ty, ty'] tp #[a.eval x, a.eval y]).run P w).andThen fun v w' => .ok (.value v) w' := by
   simp [execOp, resolve, invoke, builtin]
  rw [e1, h1.v_eq]
  have hlen := YS (P := P) h2
  obtain ⟨us, hus, hrel, hul⟩ := X3 (P := P) h2 (fun x hx => absurd hx (by simp)) hk0 0 (Nat.zero_le _)
  have hus0 : us = [] := List.length_eq_zero_iff.1 (by omega)
  subst hus0
  rw [ZU hu hu' hi hlen hc1 (by rw [hsz, ← hl]; exact hus)]
  exact ⟨_, w, S, rfl, QH.refl _ hw, .v _⟩
theorem OSl.capV {e : TypeId} {k : Nat} {xs : List T} {v : Value} {Hs : Qb} (h : OSl e k xs v Hs) : ∃ p c, v = .slice p xs.length c ∧ xs.length ≤ c := by
 obtain ⟨p, c, rfl⟩ := h.len
 exact ⟨p, c, rfl, h.cap⟩
theorem VK {x y : Operand} {e : TypeId} {k : Nat} {xs ys : List T} {v : Value} {A B Hs : Qb} {f : Bool} {dy d : T} {by_ : Nat} [hz : Qv K.P ty d by_] (ho : OSl e k xs v Hs) (hH : H = A ++ (Hs ++ B)) (hx : t.ev x = .v v) (hy : t.ev y = dy) (hyl : Le dy (.sl f ys))
  (hkd : d.cells.length = k) (hk0 : Xc K.P ty = e) (hs : QE K.P ty' = true) (hkx : ∀ x ∈ xs, x.cells.length = k) (hky : ∀ x ∈ ys, x.cells.length = k) (hyleaf : ∀ x ∈ ys, Qq x.cells = true) (hb : (xs.length + ys.length) * by_ ≤ 140737488355328) (hm : xs.length + ys.length ≤ 9223372036854775807)
  {kd : Tmp} (hd : Nat.blt kd K.n = true) (h : ∀ v' Hs', OSl e k (xs ++ ys) v' Hs' → N ((kd, .v v') :: t) (A ++ (Hs' ++ B))) : EOp K t H ⟨some kd, .call ⟨.builtin .append, #[x, y], #[ty, ty']⟩, tp, pos, aft, g⟩ N := by
 cases ys with
 | nil =>
  obtain ⟨p, c, rfl, hc⟩ := ho.capV
  have := h _ _ (by rw [List.append_nil]; exact ho)
  rw [← hH] at this
  exact EOp.of_pop (UQ hx hy hyl hs hc) hd this
 | cons y0 ys => exact Yw ho hH hx hy hyl (by simp) hkd hk0 hs hkx hky hyleaf hb hm hd h
variable {ops : Array Oper} {i : Nat} {l : List Oper} {kd : Tmp}
theorem MJ {x y : Operand} {e : TypeId} {k : Nat} {xs ys : List T} {v : Value} {A B Hs : Qb} {f : Bool} {dy d : T} {by_ : Nat} [hz : Qv K.P ty d by_] (ho : OSl e k xs v Hs) (hkx : ∀ x ∈ xs, x.cells.length = k)
  (h : ∀ v' Hs', OSl e k (xs ++ ys) v' Hs' → Qf K ops (i + 1) l ((kd, .v v') :: t) (A ++ (Hs' ++ B)) N) (hH : H = A ++ (Hs ++ B) := by rfl) (hx : t.ev x = .v v := by exact zl) (hy : t.ev y = dy := by exact zl) (hyl : Le dy (.sl f ys) := by exact zL)
  (hkd : d.cells.length = k := by rfl) (hk0 : Xc K.P ty = e := by rfl) (hs : QE K.P ty' = true := by rfl) (hky : ∀ x ∈ ys, x.cells.length = k := by exact zk) (hyleaf : ∀ x ∈ ys, Qq x.cells = true := by exact zf)
  (hb : (xs.length + ys.length) * by_ ≤ 140737488355328 := by exact zo) (hm : xs.length + ys.length ≤ 9223372036854775807 := by exact zo) (hd : Nat.blt kd K.n = true := by rfl) :
  Qf K ops i (⟨some kd, .call ⟨.builtin .append, #[x, y], #[ty, ty']⟩, tp, pos, aft, none⟩ :: l) t H N := Yd (VK ho hH hx hy hyl hkd hk0 hs hkx hky hyleaf hb hm hd h)
theorem US {x y : Operand} {n : Nat} {k : IntKind} {d : T} {by_ : Nat} (hx : t.ev x = .v (.slice none 0 0)) (hy : t.ev y = .v (.int .i64 n)) [hz : Qv K.P ty d by_] (hs : P.underlying ty' = some (.int k)) (hP : P = K.P) (h0 : 0 < n) (hb : n * by_ ≤ 140737488355328) (hm : n ≤ 9223372036854775807)
  {kd : Tmp} (hd : Nat.blt kd K.n = true)
  (h : ∀ b c, (∀ c ∈ keys H, ¬ c = b) → n ≤ c → N ((kd, .v (.slice (some ⟨b, 0, none⟩) n c)) :: t) ((b, ⟨Xc K.P ty, [], c * d.cells.length⟩) :: H)) :
  EOp K t H ⟨some kd, .call ⟨.builtin .append, #[x, y], #[ty, ty']⟩, tp, pos, aft, g⟩ N := by
 subst hP
 refine EOp.of_w (fun c e => by cases e) ?_
 intro a w ⟨S, hr⟩ Kc Q hk
 have h1 := hr.env.ev x; rw [hx] at h1
 have h2 := hr.env.ev y; rw [hy] at h2
 obtain ⟨e, i, z, hu, hi, hzz, hsz, hp, rfl, hby⟩ := XN hz.h
 have hl := QY z
 have hee : Xc K.P ty = e := by unfold Xc; rw [hu]
 have e1 : (execOp a.eval ⟨some kd, .call ⟨.builtin .append, #[x, y], #[ty, ty']⟩, tp, pos, aft, g⟩).run K.P w = ((Builtin.append_ #[ty, ty'] tp #[a.eval x, a.eval y]).run K.P w).andThen fun v w' => .ok (.value v) w' := by
  simp [execOp, resolve, invoke, builtin]
 have hrun : (Builtin.append_ #[ty, ty'] tp #[.slice none 0 0, .int .i64 n]).run K.P w = .ok (.slice (some ⟨w.heap.size, 0, none⟩) n (grownCap w n 0 e))
   (w.drew.alloc (.cells (Builtin.zeroCells z.cells n ++ Builtin.zeroCells z.cells (grownCap w n 0 e - n)) e)) := by
  have hw64 : IntKind.i64.wrap (n : Int) = n := by simp [IntKind.wrap, IntKind.bits, IntKind.signed]; omega
  have h1' : ¬ (n = 0) := by omega
  have hz0 : 0 < z.cells.size := by omega
  have h48 : ¬ (281474976710656 < (n : Int) * (i.bytes : Int)) := by
   have : n * i.bytes ≤ 140737488355328 := by rw [hby]; exact hb
   have h3 : ((n * i.bytes : Nat) : Int) = (n : Int) * (i.bytes : Int) := by push_cast; rfl
   omega
  have h48' : ¬ (281474976710656 < Builtin.nextslicecap n 0 * i.bytes) := by
   unfold Builtin.nextslicecap
   rw [if_pos (by omega)]
   have : n * i.bytes ≤ 140737488355328 := by rw [hby]; exact hb
   omega
  have h63 : ¬ (9223372036854775807 < (n : Int)) := by omega
  have hsz0 : ¬ (i.size = 0) := by omega
  have hneg : ¬ ((n : Int) < 0) := by omega
  simp [Builtin.append_, run_underlying hu, run_underlying hs, sizeOf, typeInfo, zeroValue, asInt, asIntOf, hi, hzz, hw64, h1', h48, h48', h63, hsz0, hneg, Question.forced, Builtin.firstCells, newRow, grownCap]
  intro h; exact absurd h (by have : 0 < n * i.size := Nat.mul_pos h0 (by omega); omega)
 unfold Oper.wp
 rw [e1, h1.v_eq, h2.v_eq, hrun]
 have hcap : n ≤ grownCap w n 0 e := Nat.le_add_right _ _
 have hrd : R1 K t H a w.drew S := ⟨hr.size, hr.defers.step Xm (fun _ _ h _ => h) (Nat.le_refl _), hr.step.trans (XP hr.wf []) (by simp), hr.own.step (XP hr.wf []) hr.wf (by simp) (by simp), hr.mine, hr.env.mono Xm⟩
 have hcm : n * (T.ofVal z).cells.length ≤ grownCap w n 0 e * (T.ofVal z).cells.length := Nat.mul_le_mul_right _ hcap
 have hzs : (grownCap w n 0 e - n) * (T.ofVal z).cells.length = grownCap w n 0 e * (T.ofVal z).cells.length - n * (T.ofVal z).cells.length := Nat.sub_mul _ _ _
 have hfr := hrd.fresh (dst := some kd) (d := .v (.slice (some ⟨w.heap.size, 0, none⟩) n (grownCap w n 0 e)))
  (k := ⟨Xc K.P ty, [], grownCap w n 0 e * (T.ofVal z).cells.length⟩)
  (cs := Builtin.zeroCells z.cells n ++ Builtin.zeroCells z.cells (grownCap w n 0 e - n))
  (by simp only [Array.size_append, YY, ← hl]; omega) (by simp) (by simp; exact .nil) hd (.v _)
 rw [hee] at hfr
 have hh := h w.heap.size _ (Ye hr) hcap
 rw [hee] at hh
 exact hk _ _ _ _ hh ⟨S, hfr⟩
theorem BN {x y : Operand} {n : Nat} {k : IntKind} {d : T} {by_ : Nat} [hz : Qv K.P ty d by_] (h : ∀ b c, (∀ c ∈ keys H, ¬ c = b) → n ≤ c → Qf K ops (i + 1) l ((kd, .v (.slice (some ⟨b, 0, none⟩) n c)) :: t) ((b, ⟨Xc K.P ty, [], c * d.cells.length⟩) :: H) N) (hx : t.ev x = .v (.slice none 0 0) := by exact zl) (hy : t.ev y = .v (.int .i64 n) := by exact zl)
  (hs : K.P.underlying ty' = some (.int k) := by rfl) (h0 : 0 < n := by exact zo) (hb : n * by_ ≤ 140737488355328 := by exact zo) (hm : n ≤ 9223372036854775807 := by exact zo) (hd : Nat.blt kd K.n = true := by rfl) :
  Qf K ops i (⟨some kd, .call ⟨.builtin .append, #[x, y], #[ty, ty']⟩, tp, pos, aft, none⟩ :: l) t H N := Yd (US hx hy hs rfl h0 hb hm hd h)
theorem Cg {x : Operand} {p : Option Addr} {n c : Nat} {ats : Array TypeId} (hx : t.ev x = .v (.slice p n c) := by exact zl) (ha : ats = #[ty] := by rfl) (hs : QE P ty = true := by rfl) : POp P t H ⟨dst, .call ⟨.builtin .cap, #[x], ats⟩, tp, pos, aft, g⟩ (.v (.int .i64 c)) :=
 POp.still fun S w a _ _ hr => by
  have h1 := hr x (by simp [Op.operands, Call.operands]); rw [hx] at h1
  subst ha
  refine ⟨_, ?_, .v _⟩
  obtain ⟨e, _, hu, _⟩ := X7 hs
  simp [execOp, resolve, invoke, builtin, h1.v_eq, Builtin.cap_, run_underlying hu, goInt]
theorem EQ (w : World) (cs : Array Value) (e : TypeId) : (markStringish ⟨w.heap.size, 0, none⟩).run P (w.alloc (.cells cs e)) = .ok () ((w.alloc (.cells cs e)).freeze ⟨w.heap.size, cs.size, none⟩ 1) := by
 have h : (w.alloc (.cells cs e)).shape? w.heap.size = some (e, cs.size) := by
  unfold World.shape?
  rw [YC]
 simp [markStringish, h]
theorem MD (w : World) (cs : Array Value) (e : TypeId) (b : Nat) : ((w.alloc (.cells cs e)).freeze ⟨w.heap.size, cs.size, none⟩ 1).heap[b]? = if b = w.heap.size then some (.cells cs e (cs.size, cs.size + 1)) else w.heap[b]? := by
 unfold World.freeze
 rw [if_neg (by simp)]
 simp only [Array.getElem?_modify]
 by_cases hb : b = w.heap.size
 ·subst hb
  rw [if_pos rfl, YC]
  simp
 ·rw [if_neg (fun h => hb h.symm), if_neg hb]
  by_cases h : b < w.heap.size
  ·exact XM w _ h
  ·rw [Array.getElem?_eq_none (by simp; omega), Array.getElem?_eq_none (by omega)]
theorem Wk {S : Nat → Prop} {w : World} : ∀ (l : List UInt8), Qp S w (l.map eb) (l.map fun b => Value.int .u8 b.toNat)
 | [] => .nil
 | b :: l => .cons _ _ _ _ (.v _) (Wk l)
theorem Er : ∀ (l : List UInt8), (l.map fun b => Value.int .u8 b.toNat).flatMap (fun v => v.cells.toList) = l.map fun b => Value.int .u8 b.toNat
 | [] => rfl
 | b :: l => by rw [List.map_cons, List.flatMap_cons, Er l]; rfl
theorem E2 {x : Operand} {l : List UInt8} (hx : t.ev x = .v (.string (bs l))) (h1 : Wz P ty = true) (h2 : YU P ty' = true) : POp P t H ⟨dst, .convert ty ty' x, tp, pos, aft, g⟩ (.sl false (l.map eb)) :=
 POp.run fun S w a hw _ hr => by
  have hv := hr x (by simp [Op.operands]); rw [hx] at hv
  obtain ⟨e, he, he2⟩ := MS h2
  have hs := Ob h1
  have hlen : (bs l).size = l.length := by simp [bs, ByteArray.size]
  have hsz : (((bs l).data.map fun b => Value.int .u8 b.toNat) ++ Array.replicate (grownCap w l.length 0 e - l.length) (Value.int .u8 0)).size = grownCap w l.length 0 e := by
   have h1 : l.length ≤ grownCap w l.length 0 e := Nat.le_add_right _ _
   have h2 : (bs l).data.size = l.length := hlen
   simp [h2]; omega
  have hl0 : (((bs l).data.map fun b => Value.int .u8 b.toNat) ++ Array.replicate (grownCap w l.length 0 e - l.length) (Value.int .u8 0)).toList = (l.map fun b => Value.int .u8 b.toNat) ++ List.replicate (grownCap w l.length 0 e - l.length) (Value.int .u8 0) := by
   simp [bs]
  have hcap : l.length ≤ grownCap w l.length 0 e := Nat.le_add_right _ _
  have hrun : ∀ cs, cs = ((bs l).data.map fun b => Value.int .u8 b.toNat) ++ Array.replicate (grownCap w l.length 0 e - l.length) (Value.int .u8 0) → (Conv.stringToBytes e (bs l)).run P w = .ok (.slice (some ⟨w.heap.size, 0, none⟩) l.length (grownCap w l.length 0 e)) ((w.drew.alloc (.cells cs e)).freeze ⟨w.drew.heap.size, cs.size, none⟩ 1) := by
   intro cs hcs
   have hm := EQ (P := P) w.drew cs e
   rw [show w.drew.heap.size = w.heap.size from rfl] at hm ⊢
   have hcut : (choose (.appendCap l.length 0 e)).run P w = .ok (grownCap w l.length 0 e) w.drew := by simp [Question.forced, grownCap]
   have hnew : (newRow e cs).run P w.drew = .ok ⟨w.heap.size, 0, none⟩ (w.drew.alloc (.cells cs e)) := by simp [newRow]
   have hm' : (markStringish ⟨w.heap.size, 0, none⟩).run P (w.drew.alloc (.cells cs e)) = .ok () ((w.drew.alloc (.cells cs e)).freeze ⟨w.heap.size, cs.size, none⟩ 1) := hm
   unfold Conv.stringToBytes
   rw [Sem.run_bind, hlen, hcut, Result.andThen_ok]
   show ((do let a ← newRow e (((bs l).data.map fun b => Value.int .u8 b.toNat) ++ Array.replicate (grownCap w l.length 0 e - (bs l).size) (Value.int .u8 0)); markStringish a; pure (Value.slice (some a) (bs l).size (grownCap w l.length 0 e)) : Sem Value)).run P w.drew = _
   rw [hlen, ← hcs]
   rw [Sem.run_bind, hnew, Result.andThen_ok, Sem.run_bind, hm', Result.andThen_ok]
   rfl
  generalize ((bs l).data.map fun b => Value.int .u8 b.toNat) ++ Array.replicate (grownCap w l.length 0 e - l.length) (Value.int .u8 0) = cs at hsz hl0 hrun
  have hrun := hrun cs rfl
  have hh := MD w.drew cs e
  have hnew := (hh w.drew.heap.size).trans (if_pos rfl)
  have hold : ∀ b, b < w.heap.size → ((w.drew.alloc (.cells cs e)).freeze ⟨w.drew.heap.size, cs.size, none⟩ 1).heap[b]? = w.heap[b]? := fun b hb => (hh b).trans (if_neg (by have : w.drew.heap.size = w.heap.size := rfl; omega))
  have hfs : ((w.drew.alloc (.cells cs e)).freeze ⟨w.drew.heap.size, cs.size, none⟩ 1).heap.size = w.heap.size + 1 := by
   unfold World.freeze
   rw [if_neg (by simp)]
   simp only [Array.size_modify]
   simp
  have hst : QH [] S w (Zh S w) ((w.drew.alloc (.cells cs e)).freeze ⟨w.drew.heap.size, cs.size, none⟩ 1) :=
   ⟨rfl, rfl, rfl, by omega, fun b hb _ => hold b hb, fun b hb => .inl hb, fun b hb => hb.elim .inl fun e => .inr (.inl (Nat.le_of_eq e.symm)), fun b hb => by
    rw [hfs]; rcases hb with hb | hb
    ·exact Nat.lt_succ_of_lt (hw b hb)
    ·omega⟩
  refine ⟨.slice (some ⟨w.heap.size, 0, none⟩) l.length (grownCap w l.length 0 e), _, Zh S w, ?_, hst, ?_⟩
  rotate_left
  ·have := Rel.sl (S := Zh S w) (w := (w.drew.alloc (.cells cs e)).freeze ⟨w.drew.heap.size, cs.size, none⟩ 1) false (l.map eb) w.heap.size 0 (grownCap w l.length 0 e) (l.map fun b => Value.int .u8 b.toNat) 1 cs e _ (.inr rfl) hnew (Wk l)
    ⟨by simp [Value.cells], by
     rw [hl0]
     simp only [List.drop_zero, List.length_map, Nat.mul_one]
     rw [List.take_left' (by simp)]
     exact (Er l).symm⟩ (fun h => by cases h) (by simpa using hcap)
   simpa using this
  ·have hcv : (convert ty ty' (a.eval x)).run P w = .ok (.slice (some ⟨w.heap.size, 0, none⟩) l.length (grownCap w l.length 0 e)) ((w.drew.alloc (.cells cs e)).freeze ⟨w.drew.heap.size, cs.size, none⟩ 1) := by
    unfold convert
    rw [hv.v_eq]
    simp [run_underlying he, run_underlying hs, run_underlying he2, hrun]
   simp [execOp, hcv]
theorem B3 {x : Operand} {l : List UInt8} (hx : t.ev x = .v (.string (bs l)) := by exact zl) (h1 : Wz P ty = true := by rfl) (h2 : YU P ty' = true := by rfl) : POp P t H ⟨dst, .convert ty ty' x, tp, pos, aft, g⟩ (.sl false (l.map eb)) := E2 hx h1 h2
end
section
variable {P : Program}
def Lv (K : Ctx) (Φ : T → Qb → Prop) (e : Ending) (w' : World) : Prop :=
 ∃ u S' r H', e = .returned u ∧ Φ r H' ∧ Rel S' w' r u ∧ Own S' w' H' ∧ QH K.F0 K.S0 K.w0 S' w' ∧ ∀ b ∈ keys H', b ∈ K.F0 ∨ K.w0.heap.size ≤ b
def V9 (K : Ctx) (fn : Func) (c : Code) (t : Env) (H : Qb) (Φ : T → Qb → Prop) : Prop :=
 ∀ a w, R K t H a w → c.wpIn (RF K.rd) 0 K.P (bodyPostM (RF K.rd) 0 K.P fn (Lv K Φ)) a w
theorem Jy {f : FuncId} {fn : Func} {c : Code} {args : List T} {H : Qb} {Φ : T → Qb → Prop} (hf : P.funcs[f]? = some fn) (hb : fn.body = some c)
  (hn : Nat.ble args.length fn.ntmps = true)
  (h : ∀ (S0 : Nat → Prop) (w0 : World), Wf S0 w0 → V9 ⟨P, fn.ntmps, S0, w0, keys H, none, Z8.none, w0.heap.size, []⟩ fn c ((List.range args.length).zip args) H Φ) : FnH P f args H Φ := by
 intro S w vs hw ho hr
 have hl := hr.length
 have hn' : args.length ≤ fn.ntmps := Nat.le_of_ble_eq_true hn
 refine (callsIn_wide (n := 0)).1 (callsIn_of_wp_marks hf hb trivial ?_)
 exact h S w hw { tmps := vs.toArray ++ Array.replicate (fn.ntmps - vs.toArray.size) undef, defers := [] } w
  ⟨S, by simp; omega, ⟨Nat.le_refl _, Mks.zero, fun _ _ => trivial⟩, QH.refl _ hw, ho, fun b hb => .inl hb, Ul hr fn.ntmps⟩
section
variable {K : Ctx} {fn : Func} {t : Env} {H : Qb} {Φ : T → Qb → Prop} {x y : Code}
theorem Jj (h : Sim K x t H (fun e t' H' => e = .normal ∧ V9 K fn y t' H' Φ)) : V9 K fn (.seq x y) t H Φ := by
 intro a w hr
 refine wpIn_seq (wpIn_mono (h a w hr) ?_)
 rintro e a' w' ⟨t', H', ⟨rfl, hp⟩, hr'⟩
 exact hp a' w' hr'
def ZN (K : Ctx) (fn : Func) (ops : Array Oper) (y : Code) (Φ : T → Qb → Prop) (i : Nat) (l : List Oper) (t : Env) (H : Qb) : Prop :=
 (∀ j, l[j]? = ops[i + j]?) → ∀ a w, R K t H a w → wpOpsIn (RF K.rd) 0 K.P ops (Exit.then (y.wpIn (RF K.rd) 0 K.P (bodyPostM (RF K.rd) 0 K.P fn (Lv K Φ))) (bodyPostM (RF K.rd) 0 K.P fn (Lv K Φ))) (List.range' i l.length) a w
theorem Zk {id : Nat} {ops : Array Oper} (h : ZN K fn ops y Φ 0 ops.toList t H) : V9 K fn (.seq (.region id ops false) y) t H Φ := by
 intro a w hr
 refine wpIn_seq (wpIn_region ?_)
 have := h (fun j => by simp) a w hr
 rw [List.range_eq_range']
 simpa using this
theorem d_e {ops : Array Oper} {i : Nat} {o : Oper} {l : List Oper} (hg : o.guard = none) (h : EOp K t H o (fun t' H' => ZN K fn ops y Φ (i + 1) l t' H')) : ZN K fn ops y Φ i (o :: l) t H := by
 intro hl a w hr
 rw [Jd]
 unfold wpOpIn
 simp only [VS hl, QX hg a, if_true]
 exact h a w hr _ _ fun t' H' a' w' hn hr' => hn (Uo hl) a' w' hr'
theorem d_s {ops : Array Oper} {i kd : Nat} {op : Op} {tp : TypeId} {pos : String} {aft : Array Edge} {l : List Oper} {d : T} (hp : POp K.P t H ⟨some kd, op, tp, pos, aft, none⟩ d) (h : ZN K fn ops y Φ (i + 1) l ((kd, d) :: t) H) (hd : Nat.blt kd K.n = true := by rfl) :
  ZN K fn ops y Φ i (⟨some kd, op, tp, pos, aft, none⟩ :: l) t H := d_e rfl (EOp.of_pop hp hd h)
theorem LY {S : Nat → Prop} {w : World} : ∀ {vs ys : List Value}, Qp S w (vs.map T.v) ys → ys = vs
 | [], _, h => by cases h; rfl
 | v :: vs, _, h => by
  cases h with
  | cons _ y _ ys h1 h2 => rw [LY h2, h1.v_eq]
theorem U5 {ops : Array Oper} {i : Nat} {x : Operand} {tp : TypeId} {pos : String} {aft : Array Edge} {f : FuncId} (vs : List Value) (h : V9 { K with D := [⟨.fn (.func f) vs.toArray, #[]⟩] } fn y t H Φ) (hD : K.D = []) (hrd : K.rd = none)
  (hx : t.ev x = .clo f [] (vs.map T.v)) : ZN K fn ops y Φ i [⟨none, .defer ⟨.value x, #[], #[]⟩, tp, pos, aft, none⟩] t H := by
 intro hl a w hr
 rw [Jd]
 unfold wpOpIn
 simp only [VS hl, QX (o := ⟨none, .defer ⟨.value x, #[], #[]⟩, tp, pos, aft, none⟩) rfl a, if_true]
 obtain ⟨S, hr1⟩ := hr
 have hv : a.eval x = .func (.func f) #[] vs.toArray := by
  have h1 := hr1.env.ev x
  rw [hx] at h1
  generalize a.eval x = z at h1
  cases h1 with
  | clo _ _ _ us ws h2 h3 =>
   cases h2
   rw [LY h3]
 have he : (execOp a.eval ⟨none, .defer ⟨.value x, #[], #[]⟩, tp, pos, aft, none⟩).run K.P w = .ok (.defer ⟨.fn (.func f) vs.toArray, #[]⟩) w := by
  show (do let d ← resolve a.eval ⟨.value x, #[], #[]⟩ tp; pure (.defer d) : Sem Next).run K.P w = _
  unfold resolve
  simp [hv, Deferred.ofValue]
 refine ⟨fun _ _ => trivial, ?_⟩
 rw [show (RF K.rd).round = none from hrd, Oper.semAt_none, he, Oper.uponIn_defer]
 show wpOpsIn _ _ _ _ _ (List.range' (i + 1) 0) _ _
 refine h _ _ ⟨S, hr1.size, ⟨hr1.defers.low, ?_, hr1.defers.flags⟩, hr1.step, hr1.own, hr1.mine, hr1.env⟩
 obtain ⟨ms, ms0, h0, h1, h2⟩ := hr1.defers.marks
 rw [hD, List.nil_append] at h0
 refine ⟨[], ms ++ ms0, ?_, by simpa using h1, by simpa using h2⟩
 show (⟨.fn (.func f) vs.toArray, #[]⟩ : Deferred) :: a.defers = _
 rw [h0]
 rfl
theorem Zu {fn : Func} {tmps : Array Value} {Q : Ending → World → Prop} {rest : List Deferred} {rd : Option Nat} : ∀ (ds : List Deferred) (w : World), ds.Nodup → (∀ d ∈ ds, ∃ D, d = ⟨.collected D, #[]⟩ ∧ w.heap[D]? = some (.deferred (some []))) →
  (∀ w', w'.os = w.os → w'.tape = w.tape → w'.output = w.output → w'.heap.size = w.heap.size → (∀ b, (⟨.collected b, #[]⟩ : Deferred) ∉ ds → w'.heap[b]? = w.heap[b]?) → LeavesInM (RF rd) 0 P fn tmps Q rest .returning w') →
  LeavesInM (RF rd) 0 P fn tmps Q (ds ++ rest) .returning w
 | [], w, _, _, h => h w rfl rfl rfl rfl fun _ _ => rfl
 | d :: ds, w, hn, hm, h => by
  obtain ⟨D, rfl, hk⟩ := hm d List.mem_cons_self
  have hn' := List.nodup_cons.1 hn
  refine ⟨by simp, .inl ⟨D, w.putObj D (.deferred none), rfl, run_takeDeferred hk, ?_⟩⟩
  refine Zu ds _ hn'.2 (fun e he => ?_) fun w' h1 h2 h3 h4 h5 => ?_
  ·obtain ⟨E, rfl, hke⟩ := hm e (List.mem_cons_of_mem _ he)
   refine ⟨E, rfl, ?_⟩
   rw [World.putObj_heap_other (fun e => hn'.1 (by rw [← e]; exact he))]; exact hke
  ·refine h w' (h1.trans rfl) (h2.trans rfl) (h3.trans rfl) (by rw [h4]; simp) fun b hb => ?_
   rw [h5 b (fun hm => hb (List.mem_cons_of_mem _ hm)), World.putObj_heap_other (fun e => hb (by rw [e]; exact List.mem_cons_self))]
end
def DfH (P : Program) (f : FuncId) (vs : Array Value) (H : Qb) (Φ : Qb → Prop) : Prop :=
 ∀ (S : Nat → Prop) (w : World), Wf S w → Own S w H → CallsDIn (RF none) 0 P f vs .returning w fun e u' w' =>
  u' = .returning ∧ ∃ v S' H', e = .returned v ∧ Φ H' ∧ Own S' w' H' ∧ QH (keys H) S w S' w' ∧ ∀ b ∈ keys H', b ∈ keys H ∨ w.heap.size ≤ b
def B7 (P : Program) (fn : Func) (f : FuncId) (vs : Array Value) (Φ : T → Qb → Prop) (e : Exit) (t : Env) (H : Qb) : Prop :=
 match e with
 | .normal | .ret => ∃ Φ1 : Qb → Prop, DfH P f vs H Φ1 ∧ ∀ H1, Φ1 H1 → ∃ ds r H2, Yt P t H1 fn.results.toList ds ∧ Le (XJ ds) r ∧ Φ r H2 ∧ ((keys H1).Nodup → Xj H1 H2)
 | _ => False
theorem J4 {K : Ctx} {fn : Func} {t : Env} {H : Qb} {Φ : T → Qb → Prop} {c : Code} {f : FuncId} {vs : Array Value} (hw0 : Wf K.S0 K.w0) (h : Sim K c t H (B7 K.P fn f vs Φ)) (hf : Qz K.P f = true := by kernel_rfl) (hD : K.D = [⟨.fn (.func f) vs, #[]⟩] := by rfl)
  (hrd : K.rd = none := by rfl) (hmb : K.mb = K.w0.heap.size := by rfl) : V9 K fn c t H Φ := by
 intro a w hr
 refine wpIn_mono (h a w hr) ?_
 rintro e a' w' ⟨t', H', hp, S', hr'⟩
 have fin : (∃ Φ1 : Qb → Prop, DfH K.P f vs H' Φ1 ∧ ∀ H1, Φ1 H1 → ∃ ds r H2, Yt K.P t' H1 fn.results.toList ds ∧ Le (XJ ds) r ∧ Φ r H2 ∧ ((keys H1).Nodup → Xj H1 H2)) → LeavesInM (RF K.rd) 0 K.P fn a'.tmps (Lv K Φ) a'.defers .returning w' := by
  rintro ⟨Φ1, hdf, hres⟩
  obtain ⟨ms, ms0, hds, hnd, hmk⟩ := hr'.defers.marks
  rw [hds, hD]
  obtain ⟨hn1, hn2, hdisj⟩ := List.nodup_append.1 hnd
  let B : Nat → Prop := fun b => (⟨.collected b, #[]⟩ : Deferred) ∈ ms ++ ms0
  have hB : ∀ b, B b → K.w0.heap.size ≤ b ∧ w'.heap[b]? = some (.deferred (some [])) := fun b hb => by
   obtain ⟨D, h0, h1, h2⟩ := hmk _ hb
   cases h0
   exact ⟨hmb ▸ h1, h2⟩
  have hBc : ∀ b, B b → ∀ cs ty fz, w'.heap[b]? ≠ some (.cells cs ty fz) := fun b hb cs ty fz => by rw [(hB b hb).2]; simp
  refine Zu ms w' hn1 (fun d hd => let ⟨D, h1, _, h3⟩ := hmk d (List.mem_append_left _ hd); ⟨D, h1, h3⟩) fun w2 e1 e2 e3 e4 e5 => ?_
  have e5' : ∀ b, ¬ B b → w2.heap[b]? = w'.heap[b]? := fun b hb => e5 b fun h => hb (List.mem_append_left _ h)
  have hm : ∀ b, (S' b ∧ ¬ B b) → (S' b ∧ ¬ B b) ∧ w2.heap[b]? = w'.heap[b]? := fun b hb => ⟨hb, e5' b hb.2⟩
  have henv2 : Zc (fun b => S' b ∧ ¬ B b) w2 t' a' := fun k => (Rel.shrink hBc (hr'.env k)).mono hm
  have hown2 : Own (fun b => S' b ∧ ¬ B b) w2 H' := ⟨hr'.own.nodup, fun b hb hS => hr'.own.apart b hb hS.1, fun p hp => by
   exact (hr'.own.has p hp).shrunk hBc (fun b hb ms c => by rw [(hB b hb).2]; simp) (fun hnb => e5' p.1 hnb) hm⟩
  have hst2 : QH K.F0 K.S0 K.w0 (fun b => S' b ∧ ¬ B b) w2 := ⟨e1.trans hr'.step.os, e2.trans hr'.step.tape, e3.trans hr'.step.output, by rw [e4]; exact hr'.step.size,
   fun b hb hn => (e5' b (fun hbm => absurd hb (Nat.not_lt.2 (hB b hbm).1))).trans (hr'.step.keep b hb hn), fun b hb => ⟨hr'.step.sub b hb, fun hbm => absurd (hw0 b hb) (Nat.not_lt.2 (hB b hbm).1)⟩, fun b hb => hr'.step.new b hb.1, fun b hb => by rw [e4]; exact hr'.step.wf b hb.1⟩
  refine ⟨by simp, .inr ⟨fun hh => Bool.noConfusion (show false = true from hh), .func f, vs, f, vs, rfl, ?_, fun _ _ => trivial, ?_⟩⟩
  ·show (callFunc f (#[] ++ vs)).run K.P w2 = _
   rw [Array.empty_append]
   exact Y2 hf vs w2
  rw [hrd]
  refine CallsDIn.mono (hdf _ w2 hst2.wf hown2) ?_
  rintro e u' w3 ⟨rfl, v, S3, H1, rfl, hΦ1, hown3, hst3, hkeys⟩
  show LeavesInM (RF none) 0 K.P fn a'.tmps (Lv K Φ) ([] ++ ms0) .returning w3
  rw [List.nil_append]
  have hmk3 : ∀ d ∈ ms0, ∃ D, d = ⟨.collected D, #[]⟩ ∧ w3.heap[D]? = some (.deferred (some [])) := fun d hd => by
   obtain ⟨D, rfl, h1, h2⟩ := hmk d (List.mem_append_right _ hd)
   refine ⟨D, rfl, ?_⟩
   have h3 : w2.heap[D]? = some (.deferred (some [])) := (e5 D fun hh => hdisj _ hh _ hd rfl).trans h2
   exact (hst3.keep D (Array.getElem?_eq_some_iff.1 h3).1 (hown2.obj h3 rfl)).trans h3
  have := Zu (P := K.P) (fn := fn) (tmps := a'.tmps) (Q := Lv K Φ) (rest := []) (rd := none) ms0 w3 hn2 hmk3 fun w4 f1 f2 f3 f4 f5 => ?_
  ·rwa [List.append_nil] at this
  have hS3 : ∀ b, S3 b → (⟨.collected b, #[]⟩ : Deferred) ∉ ms0 := fun b hb hm0 => by
   have hBb : B b := List.mem_append_right _ hm0
   have hlt := (Array.getElem?_eq_some_iff.1 (hB b hBb).2).1
   rcases hst3.new b hb with h | h | h
   ·exact h.2 hBb
   ·omega
   ·exact hr'.own.obj (hB b hBb).2 rfl h
  have hm4 : ∀ b, S3 b → S3 b ∧ w4.heap[b]? = w3.heap[b]? := fun b hb => ⟨hb, f5 b (hS3 b hb)⟩
  have henv4 : Zc S3 w4 t' a' := (henv2.mono (hst3.mono hst2.wf hown2.apart)).mono hm4
  obtain ⟨ds, r, H2, r1, r2, r3, r4⟩ := hres H1 hΦ1
  have hle := r4 hown3.nodup
  have hown4 : Own S3 w4 H1 := ⟨hown3.nodup, hown3.apart, fun p hp => by
   obtain ⟨o, h1, h2⟩ := (hown3.has p hp).isMem
   refine (hown3.has p hp).mono (f5 p.1 fun hm0 => ?_) hm4
   obtain ⟨D, hD0, hD1⟩ := hmk3 _ hm0
   cases hD0
   rw [h1] at hD1; cases hD1; cases h2⟩
  obtain ⟨u, hu, hrel⟩ := UF (P := K.P) henv4 hown4 r1
  have hs := hst2.trans hst3 hr'.mine
  have hst4 : QH K.F0 K.S0 K.w0 S3 w4 := ⟨f1.trans hs.os, f2.trans hs.tape, f3.trans hs.output, by rw [f4]; exact hs.size,
   fun b hb hn => (f5 b (fun hbm => absurd hb (Nat.not_lt.2 (hB b (List.mem_append_right _ hbm)).1))).trans (hs.keep b hb hn), hs.sub, hs.new, fun b hb => by rw [f4]; exact hs.wf b hb⟩
  refine ⟨u, hu, u, S3, r, H2, rfl, r3, r2 _ _ _ hrel, hown4.le hle, hst4, fun b hb => ?_⟩
  rcases hkeys b (hle.sub b hb) with h | h
  ·exact hr'.mine b h
  ·exact .inr (Nat.le_trans hst2.size h)
 cases e with
 | normal => exact fin hp
 | ret => exact fin hp
 | _ => exact hp.elim
theorem Ga {fr : Frame} {cs : List Frame} (hm : fr.mode = .returning) : ∀ (ds : List Deferred) (w : World), fr.defers = ds → ds.Nodup → (∀ d ∈ ds, ∃ D, d = ⟨.collected D, #[]⟩ ∧ w.heap[D]? = some (.deferred (some []))) →
  ∃ w', StepsIn (Machine.fenced P (RF none)) P (lone fr cs w) (lone { fr with defers := [] } cs w') ∧ w'.os = w.os ∧ w'.tape = w.tape ∧ w'.output = w.output ∧ w'.heap.size = w.heap.size ∧ ∀ b, (⟨.collected b, #[]⟩ : Deferred) ∉ ds → w'.heap[b]? = w.heap[b]? := by
 intro ds
 induction ds generalizing fr with
 | nil => exact fun w hd _ _ => ⟨w, by rw [← hd]; exact StepsIn.refl _, rfl, rfl, rfl, rfl, fun _ _ => rfl⟩
 | cons d ds ih =>
  intro w hd hn hk
  obtain ⟨D, rfl, hk0⟩ := hk d List.mem_cons_self
  have hn' := List.nodup_cons.1 hn
  have hrun : fr.mode ≠ .run := by rw [hm]; simp
  have h1 := step_collected (P := P) (cs := cs) hrun hd rfl (run_takeDeferred hk0)
  have i1 : (lone fr cs w).fenced P (RF none) := fenced_out (n := 0) trivial (Z3 _ _) hrun hd (fun g hg => by simp [Target.leads] at hg)
  obtain ⟨w', s1, s2, s3, s4, s5, s6⟩ := ih (fr := { fr with defers := [] ++ ds }) hm (w.putObj D (.deferred none)) rfl hn'.2 (fun e he => by
   obtain ⟨E, rfl, hE⟩ := hk e (List.mem_cons_of_mem _ he)
   refine ⟨E, rfl, ?_⟩
   rw [World.putObj_heap_other (fun e => hn'.1 (by rw [← e]; exact he))]; exact hE)
  refine ⟨w', .head i1 h1 s1, s2, s3, s4, by rw [s5]; simp, fun b hb => ?_⟩
  rw [s6 b fun h => hb (List.mem_cons_of_mem _ h), World.putObj_heap_other (fun e => hb (by rw [e]; exact List.mem_cons_self))]
theorem WL {f : FuncId} {fn : Func} {c : Code} {vs : List Value} {H : Qb} {Φ : Qb → Prop} (hf : P.funcs[f]? = some fn) (hb : fn.body = some c) (hn : Nat.ble vs.length fn.ntmps = true) (hres : fn.results = #[])
  (h : ∀ (S0 : Nat → Prop) (w0 : World), Sim ⟨P, fn.ntmps, S0, w0, keys H, none, Z8.none, w0.heap.size, []⟩ c ((List.range vs.length).zip (vs.map T.v)) H (fun e _ H' => (e = .normal ∨ e = .ret) ∧ ∃ H2, Qh H' H2 ∧ Φ H2)) : DfH P f vs.toArray H Φ := by
 intro S w hw ho
 refine ⟨trivial, fun c₀ cs hu _ => ?_⟩
 let b : Frame := { (default : Frame) with fn := f, kind := .deferred, roundOf := none }
 have hn' : vs.length ≤ fn.ntmps := Nat.le_of_ble_eq_true hn
 have henter : Frame.enter P f vs.toArray .deferred = b.atR { tmps := vs.toArray ++ Array.replicate (fn.ntmps - vs.toArray.size) undef, defers := [] } [.code c] := by simp [Frame.enter, Frame.atR, hf, hb, b]
 have hc : ({ c₀ with mode := .returning } : Frame) = c₀ := by rw [← hu]
 have hraw : ∀ vs : List Value, Qp S w (vs.map T.v) vs := fun vs => by
  induction vs with
  | nil => exact .nil
  | cons v vs ih => exact .cons _ _ _ _ (.v v) ih
 have henv := Ul (hraw vs) fn.ntmps
 rw [List.length_map] at henv
 obtain ⟨e, a', w', ⟨t', H', ⟨he, H2, hfr, hΦ⟩, S', hr'⟩, harr⟩ := h S w { tmps := vs.toArray ++ Array.replicate (fn.ntmps - vs.toArray.size) undef, defers := [] } w
  ⟨S, by simp; omega, ⟨Nat.le_refl _, Mks.zero, fun _ _ => trivial⟩, QH.refl _ hw, ho, fun b hb => .inl hb, henv⟩ b [] (c₀ :: cs) rfl trivial (Z3 _ _)
 rw [← henter] at harr
 obtain ⟨hnd, hmk⟩ := hr'.defers.marks.nil
 have fin : ∀ todo, StepsIn (Machine.fenced P (RF none)) P (lone (Frame.enter P f vs.toArray .deferred) (c₀ :: cs) w) (lone { b.atR a' todo with mode := .returning } (c₀ :: cs) w') →
   ∃ e u' w' fr, (u' = .returning ∧ ∃ v S' H', e = Ending.returned v ∧ Φ H' ∧ Own S' w' H' ∧ QH (keys H) S w S' w' ∧ ∀ b ∈ keys H', b ∈ keys H ∨ w.heap.size ≤ b) ∧
    ComesIn (Machine.fenced P (RF none)) P (lone (Frame.enter P f vs.toArray .deferred) (c₀ :: cs) w) (lone fr ({ c₀ with mode := u' } :: cs) w') e ∧ fr.kind = .deferred ∧ fr.fn = f ∧ fr.going P w' e := by
  intro todo hsteps
  obtain ⟨w2, s1, e1, e2, e3, e4, e5⟩ := Ga (P := P) (fr := { b.atR a' todo with mode := .returning }) (cs := c₀ :: cs) rfl a'.defers w' rfl hnd (fun d hd => let ⟨D, h1, _, h3⟩ := hmk d hd; ⟨D, h1, h3⟩)
  let B : Nat → Prop := fun b => (⟨.collected b, #[]⟩ : Deferred) ∈ a'.defers
  have hB : ∀ b, B b → w.heap.size ≤ b ∧ (∀ cs ty fz, w'.heap[b]? ≠ some (.cells cs ty fz)) ∧ ∀ ms c, w'.heap[b]? ≠ some (.map ms c) := fun b hbm => by
   obtain ⟨D, hD, h0, h1⟩ := hmk _ hbm
   cases hD
   exact ⟨h0, fun cs ty fz => by rw [h1]; simp, fun ms c => by rw [h1]; simp⟩
  have hm : ∀ b, (S' b ∧ ¬ B b) → (S' b ∧ ¬ B b) ∧ w2.heap[b]? = w'.heap[b]? := fun b hb => ⟨hb, e5 b hb.2⟩
  have hle := hfr.le hr'.own.nodup
  have hown : Own (fun b => S' b ∧ ¬ B b) w2 H' := ⟨hr'.own.nodup, fun b hb hS => hr'.own.apart b hb hS.1, fun p hp => by
   exact (hr'.own.has p hp).shrunk (fun b hb => (hB b hb).2.1) (fun b hb => (hB b hb).2.2) (fun hnb => e5 p.1 hnb) hm⟩
  have hst : QH (keys H) S w (fun b => S' b ∧ ¬ B b) w2 := ⟨e1.trans hr'.step.os, e2.trans hr'.step.tape, e3.trans hr'.step.output, by rw [e4]; exact hr'.step.size,
   fun b hb hn => (e5 b (fun hbm => absurd hb (Nat.not_lt.2 (hB b hbm).1))).trans (hr'.step.keep b hb hn), fun b hb => ⟨hr'.step.sub b hb, fun hbm => absurd (hw b hb) (Nat.not_lt.2 (hB b hbm).1)⟩, fun b hb => hr'.step.new b hb.1, fun b hb => by rw [e4]; exact hr'.step.wf b hb.1⟩
  refine ⟨.returned (.tuple #[]), .returning, w2, _, ⟨rfl, .tuple #[], _, H2, rfl, hΦ, hown.le hle, hst, fun b hb => hr'.mine b (hle.sub b hb)⟩, by rw [hc]; exact StepsIn.trans hsteps s1, rfl, rfl, rfl, rfl, fn, hf, ?_⟩
  simp [results, hres]
 rcases he with rfl | rfl
 ·exact fin [] (StepsIn.trans harr (.one (fenced_calm (fr := b.atR a' []) (n := 0) trivial (Z3 _ _) rfl) (stepR_end rfl)))
 ·obtain ⟨todo, hs⟩ := harr.1 rfl
  exact fin todo hs
section
variable {b : Frame} {a : Act} {k : List Item} {cs : List Frame} {w w' : World} {ops : Array Oper} {i : Nat} {rest : List Nat} {o : Oper}
theorem Va (ho : ops[i]? = some o) (hg : o.guard = none) (hro : b.roundOf = none) {v : Value} (hr : (execOp a.eval o).run P w = .ok (.value v) w') :
  step P (lone (b.atR a (.inRegion ops (i :: rest) :: k)) cs w) = .next (lone (b.atR (a.put o.dst v) (.inRegion ops rest :: k)) cs w') := by
 refine step_lone_go ?_
 have hg' := stepGR_op (P := P) (b := b) (k := k) (cs := cs) (w := w) (rest := rest) ho (QX hg a)
 rw [hro, Oper.semAt_none] at hg'
 have hfin : (b.atR a (.inRegion ops (i :: rest) :: k)).finish v = b.atR (a.put o.dst v) (.inRegion ops rest :: k) := by rw [Frame.finish_atR, ho]; rfl
 rw [hg', ← hfin]
 simp [stepG.apply, hr]
theorem J0 (ho : ops[i]? = some o) (hg : o.guard = none) (hro : b.roundOf = none) (hk : b.kind = .deferred) (hcs : recoverD cs = none) (hr : (execOp a.eval o).run P w = .ok .recover w') :
  step P (lone (b.atR a (.inRegion ops (i :: rest) :: k)) cs w) = .next (lone (b.atR (a.put o.dst .nilIface) (.inRegion ops rest :: k)) cs w') := by
 refine step_lone_go ?_
 have hg' := stepGR_op (P := P) (b := b) (k := k) (cs := cs) (w := w) (rest := rest) ho (QX hg a)
 rw [hro, Oper.semAt_none] at hg'
 have hfin : (b.atR a (.inRegion ops (i :: rest) :: k)).finish .nilIface = b.atR (a.put o.dst .nilIface) (.inRegion ops rest :: k) := by rw [Frame.finish_atR, ho]; rfl
 have htr := (tryRecover_deferred (fr := b.atR a (.inRegion ops (i :: rest) :: k)) hk cs).trans hcs
 rw [hg', ← hfin]
 simp only [Frame.atR, hro] at htr ⊢
 simp [stepG.apply, hr, htr]
end
theorem W4 {S : Nat → Prop} {w : World} {H : Qb} {a : Act} (ho : Own S w H) {i bl : Nat} {kb : Blk} (hi : H[i]? = some (bl, kb)) {rp : Value} (hd : kb.cells[0]? = some (.v rp)) {ty tp : TypeId} (hk : Qy P ty = true) {x : Operand} {dst : Option Tmp} {pos : String} {aft : Array Edge} {g : Option (Nat × Bool)}
  (hv : a.eval x = .pointer (some ⟨bl, 0, none⟩)) : (execOp a.eval ⟨dst, .load ty x, tp, pos, aft, g⟩).run P w = .ok (.value rp) w := by
 obtain ⟨ty1, hT, cs, hb, hsz, hl, hrl⟩ := (ho.at hi).cases.resolve_right (by rintro ⟨_, _, rfl, _⟩; simp at hd)
 obtain ⟨y, hy, hr'⟩ := hrl.get hd
 rw [List.getElem?_take] at hy
 split at hy
 ·have hcell' : w.cell? ⟨bl, 0, none⟩ = some y := by rw [Yr hb]; simpa using hy
  rw [hr'.v_eq] at hcell'
  simp [execOp, hv, Instr.loadAt, Instr.sureAddr, loadVar, Z0 hk w, run_load, hcell']
 ·cases hy
theorem Ev {f g : FuncId} {fn : Func} {id : Nat} {ty tp0 tp1 tp2 : TypeId} {p0 p1 p2 : String} {e0 e1 e2 : Array Edge} {ats at1 : Array TypeId} {d2 : Option Tmp} {H : Qb} {i bl : Nat} {kb : Blk} {rp : Value}
  (hf : P.funcs[f]? = some fn) (hb : fn.body = some (.region id #[⟨some 1, .load ty (.tmp 0), tp0, p0, e0, none⟩, ⟨some 2, .call ⟨.builtin .recover, #[], at1⟩, tp1, p1, e1, none⟩, ⟨d2, .call ⟨.value (.func g), #[.tmp 1, .tmp 2], ats⟩, tp2, p2, e2, none⟩] true))
  (hn : fn.ntmps = 4) (hres : fn.results = #[]) (hH : H[i]? = some (bl, kb)) (hd : kb.cells[0]? = some (.v rp)) (hk : Qy P ty = true) (hc : Qz P g = true) (hg : FnP P g [.v rp, .v .nilIface] (fun r => r = .tup []))
  (hord : ∀ t, Region.schedule (P.follows .mixedOrders) #[⟨some 1, .load ty (.tmp 0), tp0, p0, e0, none⟩, ⟨some 2, .call ⟨.builtin .recover, #[], at1⟩, tp1, p1, e1, none⟩, ⟨d2, .call ⟨.value (.func g), #[.tmp 1, .tmp 2], ats⟩, tp2, p2, e2, none⟩] t = [0, 1, 2] ∨
   Region.schedule (P.follows .mixedOrders) #[⟨some 1, .load ty (.tmp 0), tp0, p0, e0, none⟩, ⟨some 2, .call ⟨.builtin .recover, #[], at1⟩, tp1, p1, e1, none⟩, ⟨d2, .call ⟨.value (.func g), #[.tmp 1, .tmp 2], ats⟩, tp2, p2, e2, none⟩] t = [1, 0, 2]) :
  DfH P f #[.pointer (some ⟨bl, 0, none⟩)] H (fun H' => H' = H) := by
 intro S w hw ho
 refine ⟨trivial, fun c₀ cs hu _ => ?_⟩
 generalize hops : (#[⟨some 1, .load ty (.tmp 0), tp0, p0, e0, none⟩, ⟨some 2, .call ⟨.builtin .recover, #[], at1⟩, tp1, p1, e1, none⟩, ⟨d2, .call ⟨.value (.func g), #[.tmp 1, .tmp 2], ats⟩, tp2, p2, e2, none⟩] : Array Oper) = ops at hb hord
 have g0 : ops[0]? = some ⟨some 1, .load ty (.tmp 0), tp0, p0, e0, none⟩ := by rw [← hops]; rfl
 have g1 : ops[1]? = some ⟨some 2, .call ⟨.builtin .recover, #[], at1⟩, tp1, p1, e1, none⟩ := by rw [← hops]; rfl
 have g2 : ops[2]? = some ⟨d2, .call ⟨.value (.func g), #[.tmp 1, .tmp 2], ats⟩, tp2, p2, e2, none⟩ := by rw [← hops]; rfl
 let b : Frame := { (default : Frame) with fn := f, kind := .deferred, roundOf := none }
 have henter : Frame.enter P f #[.pointer (some ⟨bl, 0, none⟩)] .deferred = b.atR { tmps := #[.pointer (some ⟨bl, 0, none⟩), undef, undef, undef], defers := [] } [.code (.region id ops true)] := by
  simp [Frame.enter, Frame.atR, hf, hb, hn, b]
 have hc0 : ({ c₀ with mode := .returning } : Frame) = c₀ := by rw [← hu]
 have hrec : recoverD (c₀ :: cs) = none := by simp [recoverD, hu]
 have s0 := stepR_region_draw (P := P) (b := b) (a := { tmps := #[.pointer (some ⟨bl, 0, none⟩), undef, undef, undef], defers := [] }) (k := []) (cs := c₀ :: cs) (w := w) (ops := ops) (id := id)
 have ho1 : Own S w.drew H := ho.step (XP hw []) hw (by simp) (by simp)
 have hload : ∀ a : Act, a.eval (.tmp 0) = .pointer (some ⟨bl, 0, none⟩) → (execOp a.eval ⟨some 1, .load ty (.tmp 0), tp0, p0, e0, none⟩).run P w.drew = .ok (.value rp) w.drew := fun a h => W4 ho1 hH hd hk h
 have hrecv : ∀ a : Act, (execOp a.eval ⟨some 2, .call ⟨.builtin .recover, #[], at1⟩, tp1, p1, e1, none⟩).run P w.drew = .ok .recover w.drew := fun a => by rfl
 have fen : ∀ (a : Act) (j : Nat) (rest : List Nat) (o : Oper), ops[j]? = some o → (lone (b.atR a (.inRegion ops (j :: rest) :: [])) (c₀ :: cs) w.drew).fenced P (RF none) := fun a j rest o h => fenced_oper (n := 0) trivial (Z3 _ _) h fun _ _ => trivial
 have reach : ∀ l, (l = [0, 1, 2] ∨ l = [1, 0, 2]) → StepsIn (Machine.fenced P (RF none)) P (lone (b.atR { tmps := #[.pointer (some ⟨bl, 0, none⟩), undef, undef, undef], defers := [] } (.inRegion ops l :: [])) (c₀ :: cs) w.drew)
   (lone (b.atR { tmps := #[.pointer (some ⟨bl, 0, none⟩), rp, .nilIface, undef], defers := [] } (.inRegion ops [2] :: [])) (c₀ :: cs) w.drew) := by
  rintro l (rfl | rfl)
  ·exact .head (fen _ _ _ _ g0) (Va g0 rfl rfl (hload _ rfl)) (.one (fen _ _ _ _ g1) (J0 g1 rfl rfl rfl hrec (hrecv _)))
  ·exact .head (fen _ _ _ _ g1) (J0 g1 rfl rfl rfl hrec (hrecv _)) (.one (fen _ _ _ _ g0) (Va g0 rfl rfl (hload _ rfl)))
 have hp := Mb (P := P) (t := [(1, .v rp), (2, .v .nilIface)]) (H := H) (dst := d2) (tp := tp2) (pos := p2) (aft := e2) (g := none) (xs := #[.tmp 1, .tmp 2]) (ats := ats) (args := [.v rp, .v .nilIface]) hc (QK rfl (QK rfl Xv)) hg
 have hw2 : wpOpsIn (RF none) 0 P ops (fun e a' w' => e = .normal ∧ a'.defers = [] ∧ ∃ S', QH [] S w.drew S' w') [2] { tmps := #[.pointer (some ⟨bl, 0, none⟩), rp, .nilIface, undef], defers := [] } w.drew := by
  rw [wpOpsIn_cons]
  unfold wpOpIn
  simp only [g2, QX (o := ⟨d2, .call ⟨.value (.func g), #[.tmp 1, .tmp 2], ats⟩, tp2, p2, e2, none⟩) rfl, if_true]
  refine JI none (fun c h => by cases h) (hp S w.drew _ hw ho1 (fun x hx => ?_) _ _ fun S' w' v hst _ => ?_)
  ·simp [Op.operands, Call.operands] at hx
   rcases hx with rfl | rfl | rfl <;> exact .v _
  ·exact ⟨rfl, by simp, S', hst⟩
 obtain ⟨e, a', w', ⟨rfl, hdf, S', hst⟩, harr⟩ := wp_opsIn [2] _ w.drew hw2 b [] (c₀ :: cs) rfl trivial (Z3 _ _)
 have hstart : StepsIn (Machine.fenced P (RF none)) P (lone (Frame.enter P f #[.pointer (some ⟨bl, 0, none⟩)] .deferred) (c₀ :: cs) w) (lone (b.atR { tmps := #[.pointer (some ⟨bl, 0, none⟩), rp, .nilIface, undef], defers := [] } (.inRegion ops [2] :: [])) (c₀ :: cs) w.drew) := by
  rw [henter]
  exact .head (fenced_calm (n := 0) trivial (Z3 _ _) rfl) s0 (reach _ (hord _))
 have hend := StepsIn.trans hstart (StepsIn.trans harr (.one (fenced_calm (fr := b.atR a' []) (n := 0) trivial (Z3 _ _) rfl) (stepR_end rfl)))
 have hst' : QH (keys H) S w S' w' := ((XP hw (keys H)).trans hst (by simp))
 refine ⟨.returned (.tuple #[]), .returning, w', _, ⟨rfl, .tuple #[], S', H, rfl, rfl, ho1.step hst hw (by simp) (by simp), hst', fun b hb => .inl hb⟩, by rw [hc0]; exact hend, rfl, rfl, rfl, hdf, fn, hf, ?_⟩
 simp [results, hres]
end
section
variable {P : Program} {t : Env} {H : Qb} {dst : Option Tmp} {ty ty' tp : TypeId} {pos : String} {aft : Array Edge} {g : Option (Nat × Bool)}
theorem V0 {ms : Array (String × TypeId)} (w : World) {ty : TypeId} (hu : P.underlying ty = some (.interface ms)) (d : Nat) : (Op.equalIn (d + 1) ty .nilIface .nilIface).run P w = .ok true w := by
 simp [Op.equalIn, run_underlying hu]
theorem W7 {ms : Array (String × TypeId)} (w : World) {ty : TypeId} (hu : P.underlying ty = some (.interface ms)) : (Op.equal ty .nilIface .nilIface).run P w = .ok true w := V0 w hu 9999
theorem B2 {x : Operand} {ms : Array (String × TypeId)} (hx : t.ev x = .v .nilIface := by exact zl) (hu : P.underlying ty = some (.interface ms) := by rfl) : POp P t H ⟨dst, .binOp .eql ty x (.const .nilIface) ty', tp, pos, aft, g⟩ (.v (.bool (decide True))) :=
 Q3 hx rfl fun w => by
  have := W7 w hu
  simp [eqGuard, binOp, this]
end
end Go.Cap
namespace Go.Proofs.YtjbokbikkcfjjaaGreat
open Go.Cap
attribute [local irreducible] POp Qf BW EOp Sim FnH T.gp
theorem WQ (rp : Value) : FnP Tryz.prog 130 [.v rp, .v .nilIface] (fun r => r = .tup []) := by
 refine fe Tryz.func130 fun S0 w0 => ?_
 show Sim _ _ [(0, .v rp), (1, .v .nilIface)] _ _
 refine zC ?_
 refine cr <| s_ Qa <| s_ B2 ?_
 refine cn ?_
 refine zC ?_
 refine ci (fun _ => ?_) (fun h => absurd trivial h)
 refine zE ?_
 exact Le.refl _
theorem ID {H : Qb} {i bl : Nat} {kb : Blk} {rp : Value} (hH : H[i]? = some (bl, kb)) (hd : kb.cells[0]? = some (.v rp)) : DfH Tryz.prog 129 #[.pointer (some ⟨bl, 0, none⟩)] H (fun H' => H' = H) := by
 have hm : Tryz.prog.follows .mixedOrders = true := by kernel_rfl
 refine Ev (g := 130) Tryz.func129 (by rfl) (by rfl) (by rfl) hH hd (by rfl) (by kernel_rfl) (WQ rp) fun t => ?_
 have h2 : t % 2 = 0 ∨ t % 2 = 1 := by omega
 unfold Region.schedule Region.linearise
 rw [hm]
 rcases h2 with h | h
 ·left
  simp [Region.linearise.go, List.range_succ, h, Region.binds, Nat.mod_one]
 ·right
  simp [Region.linearise.go, List.range_succ, h, Region.binds, Nat.mod_one]
theorem G8 {H : Qb} {i bl : Nat} {kb : Blk} {rp : Value} (hH : H[i]? = some (bl, kb)) (hd : kb.cells[0]? = some (.v rp)) : DfH Tryz.prog 156 #[.pointer (some ⟨bl, 0, none⟩)] H (fun H' => H' = H) := by
 have hm : Tryz.prog.follows .mixedOrders = true := by kernel_rfl
 refine Ev (g := 130) Tryz.func156 (by rfl) (by rfl) (by rfl) hH hd (by rfl) (by kernel_rfl) (WQ rp) fun t => ?_
 have h2 : t % 2 = 0 ∨ t % 2 = 1 := by omega
 unfold Region.schedule Region.linearise
 rw [hm]
 rcases h2 with h | h
 ·left
  simp [Region.linearise.go, List.range_succ, h, Region.binds, Nat.mod_one]
 ·right
  simp [Region.linearise.go, List.range_succ, h, Region.binds, Nat.mod_one]
def Zz (n : Int) : Nat := if n < 0 then 2 * (-(n + 1)).toNat + 1 else 2 * n.toNat
theorem LO {n : Int} (h0 : -9223372036854775808 ≤ n) (h1 : n ≤ 9223372036854775807) : Zz n < 18446744073709551616 := by
 unfold Zz; split <;> omega
def EA (u : Nat) : Int := if u % 2 = 1 then -((u / 2 : Nat) : Int) - 1 else ((u / 2 : Nat) : Int)
theorem GR (n : Int) : EA (Zz n) = n := by
 unfold EA Zz
 split <;> split <;> omega
def Jz : Nat → Nat → List UInt8
 | 0, u => [UInt8.ofNat u]
 | k + 1, u => if 128 ≤ u then UInt8.ofNat (u % 128 + 128) :: Jz k (u / 128) else [UInt8.ofNat u]
def Xu (n : Int) : List UInt8 := Jz 9 (Zz n)
theorem Mh : ∀ (k u : Nat), 1 ≤ (Jz k u).length ∧ (Jz k u).length ≤ k + 1
 | 0, u => ⟨Nat.le_refl _, Nat.le_refl _⟩
 | k + 1, u => by
  unfold Jz
  split
  ·have := Mh k (u / 128)
   simp only [List.length_cons]; omega
  ·simp
theorem YZ {a : Int} (h0 : 0 ≤ a) (h1 : a < 18446744073709551616) : IntKind.u64.wrap a = a := by
 simp [IntKind.wrap, IntKind.bits, IntKind.signed]
 omega
theorem DU {a : Int} (h0 : 0 ≤ a) (h1 : a < 9223372036854775808) : Y8 .u64 a 1 = 2 * a := by
 unfold Y8
 rw [show min (1 : Int).toNat IntKind.u64.bits = 1 by rfl, YZ (by omega) (by omega)]
 omega
theorem CF {a : Nat} (h1 : a < 9223372036854775808) : bOr .u64 (2 * (a : Int)) 1 = ((2 * a + 1 : Nat) : Int) := by
 unfold bOr
 have e : (BitVec.ofInt IntKind.u64.bits (2 * (a : Int)) ||| BitVec.ofInt IntKind.u64.bits 1).toNat = 2 * a + 1 := by
  rw [BitVec.toNat_or, BitVec.toNat_ofInt, BitVec.toNat_ofInt]
  show ((2 * (a : Int)) % 18446744073709551616).toNat ||| ((1 : Int) % 18446744073709551616).toNat = _
  rw [show ((2 * (a : Int)) % 18446744073709551616).toNat = 2 * a by omega, show ((1 : Int) % 18446744073709551616).toNat = 1 by rfl]
  have := Nat.two_pow_add_eq_or_of_lt (i := 1) (b := 1) (by decide) a
  rw [Nat.pow_one] at this
  exact this.symm
 rw [e]
 exact YZ (by omega) (by omega)
theorem EH (n : Int) (h0 : -9223372036854775808 ≤ n) (h1 : n ≤ 9223372036854775807) : FnP Tryz.prog 170 [ei n] (fun r => r = .v (.int .u64 (Zz n : Nat))) := by
 refine fe Tryz.func170 fun S0 w0 => ?_
 show Sim _ _ [(0, ei n)] _ _
 refine zC ?_
 refine cr <| s_ Qc <| zC ?_
 refine cr <| s_ Qa <| s_ QS <| zC ?_
 refine ci ?_ ?_
 ·intro hn
  refine zC ?_
  refine cr <| s_ Qa <| s_ QZ <| s_ (DZ (a := n + 1) (zl)) <| s_ Yc <| s_ Uc <| s_ UK <| s_ Qc <| zC ?_
  refine zE ?_
  refine Le.of_eq ?_
  show T.v (.int .u64 (bOr .u64 (Y8 .u64 (IntKind.u64.wrap (IntKind.i64.wrap (0 - (n + 1)))) 1) 1)) = _
  obtain ⟨a, ha⟩ : ∃ a : Nat, 0 - (n + 1) = (a : Int) := ⟨(0 - (n + 1)).toNat, by omega⟩
  have hw : IntKind.i64.wrap (a : Int) = (a : Int) := by
   simp [IntKind.wrap, IntKind.bits, IntKind.signed]; omega
  rw [ha, hw, YZ (by omega) (by omega), DU (by omega) (by omega), CF (by omega)]
  have : Zz n = 2 * a + 1 := by unfold Zz; split <;> omega
  rw [this]
 ·intro hn
  refine zC ?_
  refine cr <| s_ Qa <| s_ Yc <| s_ Uc <| s_ Qc <| zC ?_
  refine zE ?_
  refine Le.of_eq ?_
  show T.v (.int .u64 (Y8 .u64 (IntKind.u64.wrap n) 1)) = _
  rw [YZ (by omega) (by omega), DU (by omega) (by omega)]
  have : ((Zz n : Nat) : Int) = 2 * n := by unfold Zz; split <;> omega
  rw [this]
end Go.Proofs.YtjbokbikkcfjjaaGreat
