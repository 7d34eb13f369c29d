/-
  What the type table says, type by type (laid by my own program).
  Replicas as data: entries, nodes, messages.
  Bytes: rows of one's own that grow, slices.Clone, Grow, Concat over them; a string's bytes.
-/
import Derived.Test.YtjbokbikkcfjjaaGreatAam
import Derived.Test.YtjbokbikkcfjjaaGreatProg
import Derived.Test.YtjbokbikkcfjjaaGreatAaj
import Derived.Test.YtjbokbikkcfjjaaGreatAak
section
set_option maxRecDepth 10000
namespace Go.Proofs.YtjbokbikkcfjjaaGreat
open Go.Cap
instance : ZCellsC Tryz.prog 3 [.v (.int .i64 0)] := ⟨by rfl⟩
instance : ElemZC Tryz.prog 22 (.v (.int .i64 0)) 8 := ⟨by rfl⟩
instance : ZCellsC Tryz.prog 25 [.v (.int .i64 0)] := ⟨by rfl⟩
instance : ZCellsC Tryz.prog 34 [.v (.slice none 0 0)] := ⟨by rfl⟩
instance : ElemSzC Tryz.prog 34 1 := ⟨by rfl⟩
instance : ElemZC Tryz.prog 34 (.v (.int .u8 0)) 1 := ⟨by rfl⟩
instance : ElemSzC Tryz.prog 41 3 := ⟨by rfl⟩
instance : ElemZC Tryz.prog 41 (.agg [.v (.int .i64 0), .v (.int .i64 0), .v (.string .empty)]) 32 := ⟨by rfl⟩
instance : AggC Tryz.prog 42 5 := ⟨by rfl, by rfl⟩
instance : ArrC Tryz.prog 42 5 1 := ⟨by rfl⟩
instance : ZCellsC Tryz.prog 44 [.v (.int .i64 0), .v (.int .i64 0), .v (.int .i64 0), .v (.int .i64 0), .v (.int .i64 0), .v (.int .i64 0), .v (.string .empty), .v (.slice none 0 0), .v (.int .i64 0), .v (.int .i64 0), .v (.int .i64 0), .v (.int .i64 0), .v (.int .i64 0), .v (.int .i64 0), .v (.int .i64 0), .v (.int .i64 0), .v (.int .i64 0), .v (.int .i64 0), .v (.int .i64 0), .v (.int .i64 0), .v (.int .i64 0), .v (.int .i64 0)] := ⟨by rfl⟩
instance : AggC Tryz.prog 44 22 := ⟨by rfl, by rfl⟩
instance : FldC Tryz.prog 44 0 0 1 false := ⟨by rfl⟩
instance : FldC Tryz.prog 44 1 1 1 false := ⟨by rfl⟩
instance : FldC Tryz.prog 44 2 2 1 false := ⟨by rfl⟩
instance : FldC Tryz.prog 44 3 3 1 false := ⟨by rfl⟩
instance : FldC Tryz.prog 44 4 4 1 false := ⟨by rfl⟩
instance : FldC Tryz.prog 44 5 5 1 false := ⟨by rfl⟩
instance : FldC Tryz.prog 44 6 6 1 false := ⟨by rfl⟩
instance : FldC Tryz.prog 44 7 7 1 false := ⟨by rfl⟩
instance : FldC Tryz.prog 44 8 8 1 false := ⟨by rfl⟩
instance : FldC Tryz.prog 44 9 9 1 false := ⟨by rfl⟩
instance : FldC Tryz.prog 44 10 10 1 false := ⟨by rfl⟩
instance : FldC Tryz.prog 44 11 11 1 false := ⟨by rfl⟩
instance : FldC Tryz.prog 44 12 12 5 true := ⟨by rfl⟩
instance : FldC Tryz.prog 44 13 17 5 true := ⟨by rfl⟩
instance : MapC Tryz.prog 66 3 4 (.int .i64) (.v (.bool false)) := ⟨by rfl, by rfl, by rfl⟩
instance : ZCellsC Tryz.prog 68 [.v (.pointer none), .v (.pointer none)] := ⟨by rfl⟩
instance : AggC Tryz.prog 68 2 := ⟨by rfl, by rfl⟩
instance : FldC Tryz.prog 68 0 0 1 false := ⟨by rfl⟩
instance : FldC Tryz.prog 68 1 1 1 false := ⟨by rfl⟩
instance : ArrC Tryz.prog 69 5 2 := ⟨by rfl⟩
instance : ElemSzC Tryz.prog 70 11 := ⟨by rfl⟩
instance : ElemZC Tryz.prog 70 (.agg [.v (.int .i64 0), .v (.int .i64 0), .v (.int .i64 0), .v (.int .i64 0), .v (.int .i64 0), .v (.int .i64 0), .v (.int .i64 0), .v (.int .i64 0), .v (.bool false), .v (.slice none 0 0), .v (.string .empty)]) 112 := ⟨by rfl⟩
instance : ZCellsC Tryz.prog 72 [.v (.int .i64 0), .v (.pointer none), .v (.pointer none), .v (.pointer none), .v (.pointer none), .v (.pointer none), .v (.pointer none), .v (.pointer none), .v (.pointer none), .v (.pointer none), .v (.pointer none), .v (.map none), .v (.slice none 0 0)] := ⟨by rfl⟩
instance : FldC Tryz.prog 72 1 1 10 true := ⟨by rfl⟩
instance : FldC Tryz.prog 72 2 11 1 false := ⟨by rfl⟩
instance : FldC Tryz.prog 72 3 12 1 false := ⟨by rfl⟩
instance : ZCellsC Tryz.prog 76 [.v (.int .i64 0), .v (.int .i64 0), .v (.int .i64 0), .v (.int .i64 0), .v (.int .i64 0), .v (.int .i64 0), .v (.int .i64 0), .v (.int .i64 0), .v (.bool false), .v (.slice none 0 0), .v (.string .empty)] := ⟨by rfl⟩
instance : AggC Tryz.prog 76 11 := ⟨by rfl, by rfl⟩
instance : FldC Tryz.prog 76 0 0 1 false := ⟨by rfl⟩
instance : FldC Tryz.prog 76 1 1 1 false := ⟨by rfl⟩
instance : FldC Tryz.prog 76 2 2 1 false := ⟨by rfl⟩
instance : FldC Tryz.prog 76 3 3 1 false := ⟨by rfl⟩
instance : FldC Tryz.prog 76 4 4 1 false := ⟨by rfl⟩
instance : FldC Tryz.prog 76 5 5 1 false := ⟨by rfl⟩
instance : FldC Tryz.prog 76 6 6 1 false := ⟨by rfl⟩
instance : FldC Tryz.prog 76 7 7 1 false := ⟨by rfl⟩
instance : FldC Tryz.prog 76 8 8 1 false := ⟨by rfl⟩
instance : FldC Tryz.prog 76 9 9 1 false := ⟨by rfl⟩
instance : FldC Tryz.prog 76 10 10 1 false := ⟨by rfl⟩
instance : ZCellsC Tryz.prog 84 [.v (.int .i64 0), .v (.int .i64 0), .v (.string .empty)] := ⟨by rfl⟩
instance : AggC Tryz.prog 84 3 := ⟨by rfl, by rfl⟩
instance : FldC Tryz.prog 84 0 0 1 false := ⟨by rfl⟩
instance : FldC Tryz.prog 84 1 1 1 false := ⟨by rfl⟩
instance : FldC Tryz.prog 84 2 2 1 false := ⟨by rfl⟩
instance : FldC Tryz.prog 87 0 0 1 false := ⟨by rfl⟩
instance : FldC Tryz.prog 87 1 1 1 false := ⟨by rfl⟩
instance : FldC Tryz.prog 87 2 2 1 false := ⟨by rfl⟩
instance : ZCellsC Tryz.prog 89 [.v (.int .i64 0), .v (.int .i64 0), .v (.bool false), .v (.slice none 0 0), .v (.int .i64 0), .v (.slice none 0 0), .v (.int .i64 0)] := ⟨by rfl⟩
instance : FldC Tryz.prog 89 0 0 3 true := ⟨by rfl⟩
instance : FldC Tryz.prog 89 1 3 1 false := ⟨by rfl⟩
instance : FldC Tryz.prog 89 2 4 1 false := ⟨by rfl⟩
instance : FldC Tryz.prog 89 3 5 1 false := ⟨by rfl⟩
instance : FldC Tryz.prog 89 4 6 1 false := ⟨by rfl⟩
instance : ZCellsC Tryz.prog 91 [.v (.pointer none)] := ⟨by rfl⟩
instance : ZCellsC Tryz.prog 93 [.v (.pointer none), .v (.int .i64 0), .v (.int .i64 0), .v (.int .i64 0), .v (.int .i64 0), .v (.int .i64 0), .v (.int .i64 0), .v (.string .empty), .v (.slice none 0 0), .v (.int .i64 0), .v (.int .i64 0), .v (.int .i64 0), .v (.int .i64 0), .v (.int .i64 0), .v (.int .i64 0), .v (.int .i64 0), .v (.int .i64 0), .v (.int .i64 0), .v (.int .i64 0), .v (.int .i64 0), .v (.int .i64 0), .v (.int .i64 0), .v (.int .i64 0)] := ⟨by rfl⟩
instance : FldC Tryz.prog 93 0 0 1 false := ⟨by rfl⟩
instance : FldC Tryz.prog 93 1 1 22 true := ⟨by rfl⟩
instance : ZCellsC Tryz.prog 95 [.v (.pointer none), .v (.int .i64 0), .v (.int .i64 0), .v (.int .i64 0), .v (.int .i64 0), .v (.int .i64 0), .v (.int .i64 0), .v (.string .empty), .v (.slice none 0 0), .v (.int .i64 0), .v (.int .i64 0), .v (.int .i64 0), .v (.int .i64 0), .v (.int .i64 0), .v (.int .i64 0), .v (.int .i64 0), .v (.int .i64 0), .v (.int .i64 0), .v (.int .i64 0), .v (.int .i64 0), .v (.int .i64 0), .v (.int .i64 0), .v (.int .i64 0)] := ⟨by rfl⟩
instance : FldC Tryz.prog 95 0 0 23 true := ⟨by rfl⟩
instance : ZCellsC Tryz.prog 117 [.v (.slice none 0 0)] := ⟨by rfl⟩
instance : ElemZC Tryz.prog 117 (.v (.slice none 0 0)) 24 := ⟨by rfl⟩
instance : ZCellsC Tryz.prog 157 [.v (.pointer none), .v (.int .i64 0)] := ⟨by rfl⟩
instance : FldC Tryz.prog 157 0 0 1 false := ⟨by rfl⟩
instance : FldC Tryz.prog 157 1 1 1 false := ⟨by rfl⟩
instance : ZCellsC Tryz.prog 167 [.v (.int .i64 0), .v (.int .i64 0), .v (.int .i64 0), .v (.int .i64 0), .v (.int .i64 0), .v (.int .i64 0), .v (.string .empty), .v (.slice none 0 0), .v (.int .i64 0), .v (.int .i64 0), .v (.int .i64 0), .v (.int .i64 0), .v (.int .i64 0), .v (.int .i64 0), .v (.int .i64 0), .v (.int .i64 0), .v (.int .i64 0), .v (.int .i64 0), .v (.int .i64 0), .v (.int .i64 0), .v (.int .i64 0), .v (.int .i64 0), .v (.slice none 0 0)] := ⟨by rfl⟩
instance : FldC Tryz.prog 167 0 0 22 true := ⟨by rfl⟩
instance : FldC Tryz.prog 167 1 22 1 false := ⟨by rfl⟩
instance : ZCellsC Tryz.prog 179 [.v (.slice none 0 0), .v (.int .i64 0)] := ⟨by rfl⟩
instance : FldC Tryz.prog 179 0 0 1 false := ⟨by rfl⟩
instance : FldC Tryz.prog 179 1 1 1 false := ⟨by rfl⟩
instance : ZCellsC Tryz.prog 191 [.v (.int .u32 0)] := ⟨by rfl⟩
instance : ZCellsC Tryz.prog 200 [.v (.int .i64 0), .v (.int .i64 0), .v (.int .i64 0), .v (.int .i64 0), .v (.int .i64 0), .v (.int .i64 0), .v (.int .i64 0), .v (.int .i64 0), .v (.int .i64 0), .v (.int .i64 0), .v (.int .i64 0), .v (.int .i64 0), .v (.int .i64 0), .v (.int .i64 0), .v (.int .i64 0), .v (.int .i64 0), .v (.int .i64 0), .v (.int .i64 0), .v (.int .i64 0), .v (.int .i64 0)] := ⟨by rfl⟩
instance : AggC Tryz.prog 200 20 := ⟨by rfl, by rfl⟩
end Go.Proofs.YtjbokbikkcfjjaaGreat
end
section
set_option maxRecDepth 4000
namespace Go.Proofs.YtjbokbikkcfjjaaGreat
open Go.Cap
def ei (n : Int) : T := .v (.int .i64 n)
def es (s : List UInt8) : T := .v (.string (bs s))
def eB (b : Bool) : T := .v (.bool b)
structure En where
  term : Int
  conf : Int
  cmd : List UInt8
  deriving DecidableEq, Inhabited
def een (e : En) : T := .agg [ei e.term, ei e.conf, es e.cmd]
def eens (l : List En) : T := .sl false (l.map een)
structure F5 where
  a : Int
  b : Int
  c : Int
  d : Int
  e : Int
  deriving DecidableEq, Inhabited
def F5.get (f : F5) : Nat → Int
  | 0 => f.a
  | 1 => f.b
  | 2 => f.c
  | 3 => f.d
  | _ => f.e
def F5.set (f : F5) (i : Nat) (v : Int) : F5 := match i with
  | 0 => { f with a := v }
  | 1 => { f with b := v }
  | 2 => { f with c := v }
  | 3 => { f with d := v }
  | _ => { f with e := v }
def F5.all (v : Int) : F5 := ⟨v, v, v, v, v⟩
structure Nd where
  id : Int
  term : Int
  vote : Int
  base : Int
  baseTerm : Int
  baseConf : Int
  snap : List UInt8
  log : List En
  commit : Int
  role : Int
  wait : Int
  votes : Int
  next : F5
  mtch : F5
  deriving DecidableEq, Inhabited
def nodeC (n : Nd) (lg : T) : List T := [ei n.id, ei n.term, ei n.vote, ei n.base, ei n.baseTerm, ei n.baseConf, es n.snap, lg, ei n.commit, ei n.role, ei n.wait, ei n.votes,
  ei n.next.a, ei n.next.b, ei n.next.c, ei n.next.d, ei n.next.e, ei n.mtch.a, ei n.mtch.b, ei n.mtch.c, ei n.mtch.d, ei n.mtch.e]
def nd (n : Nd) : T := .agg (nodeC n (eens n.log))
structure Ms where
  kind : Int
  frm : Int
  to : Int
  term : Int
  index : Int
  logTerm : Int
  commit : Int
  conf : Int
  yes : Bool
  entries : List En
  snap : List UInt8
  deriving DecidableEq, Inhabited
def msC (m : Ms) (es' : T) : List T := [ei m.kind, ei m.frm, ei m.to, ei m.term, ei m.index, ei m.logTerm, ei m.commit, ei m.conf, eB m.yes, es', es m.snap]
def ms (m : Ms) : T := .agg (msC m (eens m.entries))
def mss (l : List Ms) : T := .sl false (l.map ms)
-- the last entry with members
def lc (l : List En) : Nat → Option (Nat × Int)
  | 0 => none
  | k + 1 => if (l.getD k default).conf ≠ 0 then some (k, (l.getD k default).conf) else lc l k
def confF (n : Nd) : Int × Int := match lc n.log n.log.length with
  | some (k, c) => (n.base + k + 1, c)
  | none => (n.base, n.baseConf)
def down (l : List En) (k : Nat) : List (Nat × En) := (List.range k).map fun j => (l.length - 1 - j, l.getD (l.length - 1 - j) default)
theorem down_succ (l : List En) (k : Nat) : down l (k + 1) = down l k ++ [(l.length - 1 - k, l.getD (l.length - 1 - k) default)] := by simp [down, List.range_succ]
theorem lc_down (l : List En) : ∀ (m k : Nat), m + k = l.length → (∀ p ∈ down l k, p.2.conf = 0) → lc l l.length = lc l m
  | m, 0, h, _ => by have : m = l.length := by omega
                     rw [this]
  | m, k + 1, h, h0 => by
    have h1 := lc_down l (m + 1) k (by omega) (fun p hp => h0 p (by rw [down_succ]; exact List.mem_append_left _ hp))
    have h2 := h0 _ (by rw [down_succ]; exact List.mem_append_right _ (List.mem_singleton.2 rfl))
    have e : l.length - 1 - k = m := by omega
    rw [e] at h2
    rw [h1, lc, if_neg (by simpa using h2)]
end Go.Proofs.YtjbokbikkcfjjaaGreat
end
section
set_option maxRecDepth 8000
namespace Go.Cap
section
variable {K : Ctx} {P : Program} {t : Env} {H : Heap} {dst : Option Tmp} {tp : TypeId} {pos : String} {aft : Array Edge} {g : Option (Nat × Bool)} {N : Env → Heap → Prop} {ty ty' : TypeId}
theorem pop_append_none {x y : Operand} {p : Option Addr} {n c : Nat} {f : Bool} {dy : T} {d : T} {by_ : Nat} (hx : t.ev x = .v (.slice p n c)) (hy : t.ev y = dy) (hyl : Le dy (.sl f [])) [hz : ElemZC P ty d by_] (hs : isSliceTy P ty' = true) (hc1 : n ≤ c) :
    POp P t H ⟨dst, .call ⟨.builtin .append, #[x, y], #[ty, ty']⟩, tp, pos, aft, g⟩ (.v (.slice p n c)) :=
  POp.run fun S w a hw _ hr => by
    have h1 := hr x (by simp [Op.operands, Call.operands]); rw [hx] at h1
    have h2 := hr y (by simp [Op.operands, Call.operands]); rw [hy] at h2
    replace h2 := hyl _ _ _ h2
    obtain ⟨e, i, z, hu, hi, hzz, hsz, hp, rfl, hby⟩ := elemZ_of hz.h
    obtain ⟨e', _, hu', _⟩ := slice_of hs
    have hl := ofVal_cells z
    have hk0 : 0 < (T.ofVal z).cells.length := by omega
    have e1 : (execOp a.eval ⟨dst, .call ⟨.builtin .append, #[x, y], #[ty, ty']⟩, tp, pos, aft, g⟩).run P w = ((Builtin.append_ #[ty, ty'] tp #[a.eval x, a.eval y]).run P w).andThen fun v w' => .ok (.value v) w' := by
      simp [execOp, resolve, invoke, builtin]
    rw [e1, h1.v_eq]
    have hlen := run_lenOf (P := P) h2
    obtain ⟨us, hus, hrel, hul⟩ := run_first (P := P) h2 (fun x hx => absurd hx (by simp)) hk0 0 (Nat.zero_le _)
    have hus0 : us = [] := List.length_eq_zero_iff.1 (by omega)
    subst hus0
    rw [run_app_none hu hu' hi hlen hc1 (by rw [hsz, ← hl]; exact hus)]
    exact ⟨_, w, S, rfl, Step.refl _ hw, .v _⟩
theorem OSl.capV {e : TypeId} {k : Nat} {xs : List T} {v : Value} {Hs : Heap} (h : OSl e k xs v Hs) : ∃ p c, v = .slice p xs.length c ∧ xs.length ≤ c := by
  obtain ⟨p, c, rfl⟩ := h.len
  exact ⟨p, c, rfl, h.cap⟩
theorem eop_append_osA {x y : Operand} {e : TypeId} {k : Nat} {xs ys : List T} {v : Value} {A B Hs : Heap} {f : Bool} {dy d : T} {by_ : Nat} [hz : ElemZC K.P ty d by_] (ho : OSl e k xs v Hs) (hH : H = A ++ (Hs ++ B)) (hx : t.ev x = .v v) (hy : t.ev y = dy) (hyl : Le dy (.sl f ys))
    (hkd : d.cells.length = k) (hk0 : elemTy K.P ty = e) (hs : isSliceTy K.P ty' = true) (hkx : ∀ x ∈ xs, x.cells.length = k) (hky : ∀ x ∈ ys, x.cells.length = k) (hyleaf : ∀ x ∈ ys, allLeaf x.cells = true) (hb : (xs.length + ys.length) * by_ ≤ 140737488355328) (hm : xs.length + ys.length ≤ 9223372036854775807)
    {kd : Tmp} (hd : Nat.blt kd K.n = true) (h : ∀ v' Hs', OSl e k (xs ++ ys) v' Hs' → N ((kd, .v v') :: t) (A ++ (Hs' ++ B))) : EOp K t H ⟨some kd, .call ⟨.builtin .append, #[x, y], #[ty, ty']⟩, tp, pos, aft, g⟩ N := by
  cases ys with
  | nil =>
    obtain ⟨p, c, rfl, hc⟩ := ho.capV
    have := h _ _ (by rw [List.append_nil]; exact ho)
    rw [← hH] at this
    exact EOp.of_pop (pop_append_none hx hy hyl hs hc) hd this
  | cons y0 ys => exact eop_append_os ho hH hx hy hyl (by simp) hkd hk0 hs hkx hky hyleaf hb hm hd h
variable {ops : Array Oper} {i : Nat} {l : List Oper} {kd : Tmp}
theorem e_osA {x y : Operand} {e : TypeId} {k : Nat} {xs ys : List T} {v : Value} {A B Hs : Heap} {f : Bool} {dy d : T} {by_ : Nat} [hz : ElemZC K.P ty d by_] (ho : OSl e k xs v Hs) (hkx : ∀ x ∈ xs, x.cells.length = k)
    (h : ∀ v' Hs', OSl e k (xs ++ ys) v' Hs' → SimFrom K ops (i + 1) l ((kd, .v v') :: t) (A ++ (Hs' ++ B)) N) (hH : H = A ++ (Hs ++ B) := by rfl) (hx : autoParam (t.ev x = .v v) zl._auto_1) (hy : autoParam (t.ev y = dy) zl._auto_1) (hyl : autoParam (Le dy (.sl f ys)) zL._auto_1)
    (hkd : d.cells.length = k := by rfl) (hk0 : elemTy K.P ty = e := by rfl) (hs : isSliceTy K.P ty' = true := by rfl) (hky : autoParam (∀ x ∈ ys, x.cells.length = k) zk._auto_1) (hyleaf : autoParam (∀ x ∈ ys, allLeaf x.cells = true) zf._auto_1)
    (hb : autoParam ((xs.length + ys.length) * by_ ≤ 140737488355328) zo._auto_1) (hm : autoParam (xs.length + ys.length ≤ 9223372036854775807) zo._auto_1) (hd : Nat.blt kd K.n = true := by rfl) :
    SimFrom K ops i (⟨some kd, .call ⟨.builtin .append, #[x, y], #[ty, ty']⟩, tp, pos, aft, none⟩ :: l) t H N := from_e (eop_append_osA ho hH hx hy hyl hkd hk0 hs hkx hky hyleaf hb hm hd h)
theorem eop_append_make {x y : Operand} {n : Nat} {k : IntKind} {d : T} {by_ : Nat} (hx : t.ev x = .v (.slice none 0 0)) (hy : t.ev y = .v (.int .i64 n)) [hz : ElemZC K.P ty d by_] (hs : P.underlying ty' = some (.int k)) (hP : P = K.P) (h0 : 0 < n) (hb : n * by_ ≤ 140737488355328) (hm : n ≤ 9223372036854775807)
    {kd : Tmp} (hd : Nat.blt kd K.n = true)
    (h : ∀ b c, (∀ c ∈ keys H, ¬ c = b) → n ≤ c → N ((kd, .v (.slice (some ⟨b, 0, none⟩) n c)) :: t) ((b, ⟨elemTy K.P ty, [], c * d.cells.length⟩) :: H)) :
    EOp K t H ⟨some kd, .call ⟨.builtin .append, #[x, y], #[ty, ty']⟩, tp, pos, aft, g⟩ N := by
  subst hP
  refine EOp.of_w (fun c e => by cases e) ?_
  intro a w ⟨S, hr⟩ Kc Q hk
  have h1 := hr.env.ev x; rw [hx] at h1
  have h2 := hr.env.ev y; rw [hy] at h2
  obtain ⟨e, i, z, hu, hi, hzz, hsz, hp, rfl, hby⟩ := elemZ_of hz.h
  have hl := ofVal_cells z
  have hee : elemTy K.P ty = e := by unfold elemTy; rw [hu]
  have e1 : (execOp a.eval ⟨some kd, .call ⟨.builtin .append, #[x, y], #[ty, ty']⟩, tp, pos, aft, g⟩).run K.P w = ((Builtin.append_ #[ty, ty'] tp #[a.eval x, a.eval y]).run K.P w).andThen fun v w' => .ok (.value v) w' := by
    simp [execOp, resolve, invoke, builtin]
  have hrun : (Builtin.append_ #[ty, ty'] tp #[.slice none 0 0, .int .i64 n]).run K.P w = .ok (.slice (some ⟨w.heap.size, 0, none⟩) n (grownCap w n 0 e))
      (w.drew.alloc (.cells (Builtin.zeroCells z.cells n ++ Builtin.zeroCells z.cells (grownCap w n 0 e - n)) e)) := by
    have hw64 : IntKind.i64.wrap (n : Int) = n := by simp [IntKind.wrap, IntKind.bits, IntKind.signed]; omega
    have h1' : ¬ (n = 0) := by omega
    have hz0 : 0 < z.cells.size := by omega
    have h48 : ¬ (281474976710656 < (n : Int) * (i.bytes : Int)) := by
      have : n * i.bytes ≤ 140737488355328 := by rw [hby]; exact hb
      have h3 : ((n * i.bytes : Nat) : Int) = (n : Int) * (i.bytes : Int) := by push_cast; rfl
      omega
    have h48' : ¬ (281474976710656 < Builtin.nextslicecap n 0 * i.bytes) := by
      unfold Builtin.nextslicecap
      rw [if_pos (by omega)]
      have : n * i.bytes ≤ 140737488355328 := by rw [hby]; exact hb
      omega
    have h63 : ¬ (9223372036854775807 < (n : Int)) := by omega
    have hsz0 : ¬ (i.size = 0) := by omega
    have hneg : ¬ ((n : Int) < 0) := by omega
    simp [Builtin.append_, run_underlying hu, run_underlying hs, sizeOf, typeInfo, zeroValue, asInt, asIntOf, hi, hzz, hw64, h1', h48, h48', h63, hsz0, hneg, Question.forced, Builtin.firstCells, newRow, grownCap]
    intro h; exact absurd h (by have : 0 < n * i.size := Nat.mul_pos h0 (by omega); omega)
  unfold Oper.wp
  rw [e1, h1.v_eq, h2.v_eq, hrun]
  have hcap : n ≤ grownCap w n 0 e := Nat.le_add_right _ _
  have hrd : R1 K t H a w.drew S := ⟨hr.size, hr.defers.step mono_drew (fun _ _ h _ => h) (Nat.le_refl _), hr.step.trans (step_drew hr.wf []) (by simp), hr.own.step (step_drew hr.wf []) hr.wf (by simp) (by simp), hr.mine, hr.env.mono mono_drew⟩
  have hcm : n * (T.ofVal z).cells.length ≤ grownCap w n 0 e * (T.ofVal z).cells.length := Nat.mul_le_mul_right _ hcap
  have hzs : (grownCap w n 0 e - n) * (T.ofVal z).cells.length = grownCap w n 0 e * (T.ofVal z).cells.length - n * (T.ofVal z).cells.length := Nat.sub_mul _ _ _
  have hfr := hrd.fresh (dst := some kd) (d := .v (.slice (some ⟨w.heap.size, 0, none⟩) n (grownCap w n 0 e)))
    (k := ⟨elemTy K.P ty, [], grownCap w n 0 e * (T.ofVal z).cells.length⟩)
    (cs := Builtin.zeroCells z.cells n ++ Builtin.zeroCells z.cells (grownCap w n 0 e - n))
    (by simp only [Array.size_append, zeroCells_size, ← hl]; omega) (by simp) (by simp; exact .nil) hd (.v _)
  rw [hee] at hfr
  have hh := h w.heap.size _ (fresh_ne hr) hcap
  rw [hee] at hh
  exact hk _ _ _ _ hh ⟨S, hfr⟩
theorem e_mk0 {x y : Operand} {n : Nat} {k : IntKind} {d : T} {by_ : Nat} [hz : ElemZC K.P ty d by_] (h : ∀ b c, (∀ c ∈ keys H, ¬ c = b) → n ≤ c → SimFrom K ops (i + 1) l ((kd, .v (.slice (some ⟨b, 0, none⟩) n c)) :: t) ((b, ⟨elemTy K.P ty, [], c * d.cells.length⟩) :: H) N) (hx : autoParam (t.ev x = .v (.slice none 0 0)) zl._auto_1) (hy : autoParam (t.ev y = .v (.int .i64 n)) zl._auto_1)
    (hs : K.P.underlying ty' = some (.int k) := by rfl) (h0 : autoParam (0 < n) zo._auto_1) (hb : autoParam (n * by_ ≤ 140737488355328) zo._auto_1) (hm : autoParam (n ≤ 9223372036854775807) zo._auto_1) (hd : Nat.blt kd K.n = true := by rfl) :
    SimFrom K ops i (⟨some kd, .call ⟨.builtin .append, #[x, y], #[ty, ty']⟩, tp, pos, aft, none⟩ :: l) t H N := from_e (eop_append_make hx hy hs rfl h0 hb hm hd h)
theorem p_cap {x : Operand} {p : Option Addr} {n c : Nat} {ats : Array TypeId} (hx : autoParam (t.ev x = .v (.slice p n c)) zl._auto_1) (ha : ats = #[ty] := by rfl) (hs : isSliceTy P ty = true := by rfl) : POp P t H ⟨dst, .call ⟨.builtin .cap, #[x], ats⟩, tp, pos, aft, g⟩ (.v (.int .i64 c)) :=
  POp.still fun S w a _ _ hr => by
    have h1 := hr x (by simp [Op.operands, Call.operands]); rw [hx] at h1
    subst ha
    refine ⟨_, ?_, .v _⟩
    obtain ⟨e, _, hu, _⟩ := slice_of hs
    simp [execOp, resolve, invoke, builtin, h1.v_eq, Builtin.cap_, run_underlying hu, goInt]
theorem run_markS (w : World) (cs : Array Value) (e : TypeId) : (markStringish ⟨w.heap.size, 0, none⟩).run P (w.alloc (.cells cs e)) = .ok () ((w.alloc (.cells cs e)).freeze ⟨w.heap.size, cs.size, none⟩ 1) := by
  have h : (w.alloc (.cells cs e)).shape? w.heap.size = some (e, cs.size) := by
    unfold World.shape?
    rw [heap_new]
  simp [markStringish, h]
theorem frozen_heap (w : World) (cs : Array Value) (e : TypeId) (b : Nat) : ((w.alloc (.cells cs e)).freeze ⟨w.heap.size, cs.size, none⟩ 1).heap[b]? = if b = w.heap.size then some (.cells cs e (cs.size, cs.size + 1)) else w.heap[b]? := by
  unfold World.freeze
  rw [if_neg (by simp)]
  simp only [Array.getElem?_modify]
  by_cases hb : b = w.heap.size
  · subst hb
    rw [if_pos rfl, heap_new]
    simp
  · rw [if_neg (fun h => hb h.symm), if_neg hb]
    by_cases h : b < w.heap.size
    · exact heap_older w _ h
    · rw [Array.getElem?_eq_none (by simp; omega), Array.getElem?_eq_none (by omega)]
theorem rel_bytes {S : Nat → Prop} {w : World} : ∀ (l : List UInt8), RelL S w (l.map eb) (l.map fun b => Value.int .u8 b.toNat)
  | [] => .nil
  | b :: l => .cons _ _ _ _ (.v _) (rel_bytes l)
theorem flat_u8 : ∀ (l : List UInt8), (l.map fun b => Value.int .u8 b.toNat).flatMap (fun v => v.cells.toList) = l.map fun b => Value.int .u8 b.toNat
  | [] => rfl
  | b :: l => by rw [List.map_cons, List.flatMap_cons, flat_u8 l]; rfl
theorem pop_bytes {x : Operand} {l : List UInt8} (hx : t.ev x = .v (.string (bs l))) (h1 : isStr P ty = true) (h2 : isBytesTy P ty' = true) : POp P t H ⟨dst, .convert ty ty' x, tp, pos, aft, g⟩ (.sl false (l.map eb)) :=
  POp.run fun S w a hw _ hr => by
    have hv := hr x (by simp [Op.operands]); rw [hx] at hv
    obtain ⟨e, he, he2⟩ := bytes_of h2
    have hs := str_of h1
    have hlen : (bs l).size = l.length := by simp [bs, ByteArray.size]
    have hsz : (((bs l).data.map fun b => Value.int .u8 b.toNat) ++ Array.replicate (grownCap w l.length 0 e - l.length) (Value.int .u8 0)).size = grownCap w l.length 0 e := by
      have h1 : l.length ≤ grownCap w l.length 0 e := Nat.le_add_right _ _
      have h2 : (bs l).data.size = l.length := hlen
      simp [h2]; omega
    have hl0 : (((bs l).data.map fun b => Value.int .u8 b.toNat) ++ Array.replicate (grownCap w l.length 0 e - l.length) (Value.int .u8 0)).toList = (l.map fun b => Value.int .u8 b.toNat) ++ List.replicate (grownCap w l.length 0 e - l.length) (Value.int .u8 0) := by
      simp [bs]
    have hcap : l.length ≤ grownCap w l.length 0 e := Nat.le_add_right _ _
    have hrun : ∀ cs, cs = ((bs l).data.map fun b => Value.int .u8 b.toNat) ++ Array.replicate (grownCap w l.length 0 e - l.length) (Value.int .u8 0) → (Conv.stringToBytes e (bs l)).run P w = .ok (.slice (some ⟨w.heap.size, 0, none⟩) l.length (grownCap w l.length 0 e)) ((w.drew.alloc (.cells cs e)).freeze ⟨w.drew.heap.size, cs.size, none⟩ 1) := by
      intro cs hcs
      have hm := run_markS (P := P) w.drew cs e
      rw [show w.drew.heap.size = w.heap.size from rfl] at hm ⊢
      have hcut : (choose (.appendCap l.length 0 e)).run P w = .ok (grownCap w l.length 0 e) w.drew := by simp [Question.forced, grownCap]
      have hnew : (newRow e cs).run P w.drew = .ok ⟨w.heap.size, 0, none⟩ (w.drew.alloc (.cells cs e)) := by simp [newRow]
      have hm' : (markStringish ⟨w.heap.size, 0, none⟩).run P (w.drew.alloc (.cells cs e)) = .ok () ((w.drew.alloc (.cells cs e)).freeze ⟨w.heap.size, cs.size, none⟩ 1) := hm
      unfold Conv.stringToBytes
      rw [Sem.run_bind, hlen, hcut, Result.andThen_ok]
      show ((do let a ← newRow e (((bs l).data.map fun b => Value.int .u8 b.toNat) ++ Array.replicate (grownCap w l.length 0 e - (bs l).size) (Value.int .u8 0)); markStringish a; pure (Value.slice (some a) (bs l).size (grownCap w l.length 0 e)) : Sem Value)).run P w.drew = _
      rw [hlen, ← hcs]
      rw [Sem.run_bind, hnew, Result.andThen_ok, Sem.run_bind, hm', Result.andThen_ok]
      rfl
    generalize ((bs l).data.map fun b => Value.int .u8 b.toNat) ++ Array.replicate (grownCap w l.length 0 e - l.length) (Value.int .u8 0) = cs at hsz hl0 hrun
    have hrun := hrun cs rfl
    have hh := frozen_heap w.drew cs e
    have hnew := (hh w.drew.heap.size).trans (if_pos rfl)
    have hold : ∀ b, b < w.heap.size → ((w.drew.alloc (.cells cs e)).freeze ⟨w.drew.heap.size, cs.size, none⟩ 1).heap[b]? = w.heap[b]? := fun b hb => (hh b).trans (if_neg (by have : w.drew.heap.size = w.heap.size := rfl; omega))
    have hfs : ((w.drew.alloc (.cells cs e)).freeze ⟨w.drew.heap.size, cs.size, none⟩ 1).heap.size = w.heap.size + 1 := by
      unfold World.freeze
      rw [if_neg (by simp)]
      simp only [Array.size_modify]
      simp
    have hst : Step [] S w (withNew S w) ((w.drew.alloc (.cells cs e)).freeze ⟨w.drew.heap.size, cs.size, none⟩ 1) :=
      ⟨rfl, rfl, rfl, by omega, fun b hb _ => hold b hb, fun b hb => .inl hb, fun b hb => hb.elim .inl fun e => .inr (.inl (Nat.le_of_eq e.symm)), fun b hb => by
        rw [hfs]; rcases hb with hb | hb
        · exact Nat.lt_succ_of_lt (hw b hb)
        · omega⟩
    refine ⟨.slice (some ⟨w.heap.size, 0, none⟩) l.length (grownCap w l.length 0 e), _, withNew S w, ?_, hst, ?_⟩
    rotate_left
    · have := Rel.sl (S := withNew S w) (w := (w.drew.alloc (.cells cs e)).freeze ⟨w.drew.heap.size, cs.size, none⟩ 1) false (l.map eb) w.heap.size 0 (grownCap w l.length 0 e) (l.map fun b => Value.int .u8 b.toNat) 1 cs e _ (.inr rfl) hnew (rel_bytes l)
        ⟨by simp [Value.cells], by
          rw [hl0]
          simp only [List.drop_zero, List.length_map, Nat.mul_one]
          rw [List.take_left' (by simp)]
          exact (flat_u8 l).symm⟩ (fun h => nomatch h) (by simpa using hcap)
      simpa using this
    · have hcv : (convert ty ty' (a.eval x)).run P w = .ok (.slice (some ⟨w.heap.size, 0, none⟩) l.length (grownCap w l.length 0 e)) ((w.drew.alloc (.cells cs e)).freeze ⟨w.drew.heap.size, cs.size, none⟩ 1) := by
        unfold convert
        rw [hv.v_eq]
        simp [run_underlying he, run_underlying hs, run_underlying he2, hrun]
      simp [execOp, hcv]
theorem p_by {x : Operand} {l : List UInt8} (hx : autoParam (t.ev x = .v (.string (bs l))) zl._auto_1) (h1 : isStr P ty = true := by rfl) (h2 : isBytesTy P ty' = true := by rfl) : POp P t H ⟨dst, .convert ty ty' x, tp, pos, aft, g⟩ (.sl false (l.map eb)) := pop_bytes hx h1 h2
end
end Go.Cap
end
