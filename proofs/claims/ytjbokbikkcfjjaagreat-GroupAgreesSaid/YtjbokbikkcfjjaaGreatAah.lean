/-
  Function values; addresses that are not nil; numbers of one kind as of another; bits.
-/
import Derived.Test.YtjbokbikkcfjjaaGreatAag
set_option maxRecDepth 16000
set_option maxHeartbeats 8000000
set_option linter.all false
namespace Go.Cap
section
variable {K : Ctx} {P : Program} {t : Env} {H Hr Hs : Qd} {dst : Option Tmp} {tp : TypeId} {pos : String} {aft : Array Edge} {g : Option (Nat × Bool)} {N : Env → Qd → Prop}
variable {S : Nat → Prop} {w : World} {ty ty' : TypeId} {x y : Operand} {d : T} {k k' : IntKind} {a b : Int}
theorem EvL.rel {xs : List Operand} {ds : List T} (h : EvL t xs ds) {a : Act} (hr : ∀ x ∈ xs, Rel S w (t.ev x) (a.eval x)) : Qr S w ds (xs.map a.eval) := h.eq ▸ ZE xs hr
theorem M0 {f : FuncId} {fs cs : Array Operand} {ds es : List T} (h1 : EvL t fs.toList ds) (h2 : EvL t cs.toList es) : POp P t H ⟨dst, .makeFunc (.func f) fs cs, tp, pos, aft, g⟩ (.clo f ds es) :=
 POp.still fun S w a _ _ hr => by
  have r1 := h1.rel (a := a) fun x hx => hr x (by simp [Op.operands]; exact .inl (by simpa using hx))
  have r2 := h2.rel (a := a) fun x hx => hr x (by simp [Op.operands]; exact .inr (by simpa using hx))
  refine ⟨_, by simp [execOp, Instr.makeFunc]; rfl, ?_⟩
  have := Rel.clo f ds es _ _ r1 r2
  have e1 : (fs.toList.map a.eval).toArray = fs.map a.eval := by apply Array.ext'; simp
  have e2 : (cs.toList.map a.eval).toArray = cs.map a.eval := by apply Array.ext'; simp
  rw [e1, e2] at this
  exact this
theorem Aq {f : FuncId} (h : QE P f = true) {c : Call} {a : Act} {us vs : List Value} {x : Operand} (hc : c.callee = .value x) (hx : a.eval x = .func (.func f) us.toArray vs.toArray) (w : World) :
  (execOp a.eval ⟨dst, .call c, tp, pos, aft, g⟩).run P w = .ok (.enter f (us ++ c.args.toList.map a.eval ++ vs).toArray) w := by
 have : (execOp a.eval ⟨dst, .call c, tp, pos, aft, g⟩).run P w = (callFunc f (us.toArray ++ c.args.map a.eval ++ vs.toArray)).run P w := by
  simp [execOp, resolve, hc, hx, Deferred.ofValue, invoke]
 rw [this, Y5 h]
 congr 2
 apply Array.ext'
 simp
theorem In {f : FuncId} {xs : Array Operand} {ats : Array TypeId} {fs cs args : List T} {Φ : T → Qd → Prop} (hx : t.ev x = .clo f fs cs) (hf : FnH K.P f (fs ++ args ++ cs) Hs Φ) (hp : H.Perm (Hs ++ Hr)) (hc : QE K.P f = true) (ha : EvL t xs.toList args)
  (hd : Xx dst K.n = true) (hn : ∀ r H', Φ r H' → N (t.put dst r) (H' ++ Hr)) : EOp K t H ⟨dst, .call ⟨.value x, xs, ats⟩, tp, pos, aft, g⟩ N := by
 refine EOp.of_w (fun c e => by cases e) ?_
 intro a w hR Kc Q hk
 obtain ⟨S, hr⟩ := hR.perm hp
 have h1 := hr.env.ev x; rw [hx] at h1
 generalize hu : a.eval x = u at h1
 cases h1 with
 | clo _ _ _ us vs r1 r2 =>
  unfold Oper.wp
  rw [Aq hc rfl hu]
  simp only [Oper.upon]
  have r3 := ha.rel (a := a) fun x _ => hr.env.ev x
  refine (hf S w _ hr.wf hr.own.left ((r1.append r3).append r2)).mono ?_
  rintro e w' ⟨u, S', r, H', rfl, hΦ, hrel, hown, hst, hkeys⟩
  exact hk _ _ _ _ (hn r H' hΦ) ⟨S', hr.called hown hst hkeys hd hrel⟩
def T.there : T → Bool
 | .adr _ | .v (.pointer (some _)) | .clo .. => true
 | _ => false
theorem MZ (hx : t.ev x = d) (hd : d.there = true) : POp P t H ⟨dst, .nilCheck x, tp, pos, aft, g⟩ d :=
 POp.still fun S w a _ _ hr => by
  have h1 := hr x (by simp [Op.operands]); rw [hx] at h1
  refine ⟨a.eval x, ?_, h1⟩
  generalize hu : a.eval x = u at h1
  cases h1 with
  | adr => simp [execOp, hu]
  | clo => simp [execOp, hu]
  | v u =>
   cases u with
   | pointer p => cases p <;> simp_all [T.there, execOp]
   | _ => simp [T.there] at hd
  | _ => simp [T.there] at hd
theorem Cw (hx : t.ev x = .v (.int k a)) (h1 : (P.underlying ty).isSome = true) (h2 : P.underlying ty' = some (.int k')) : POp P t H ⟨dst, .convert ty ty' x, tp, pos, aft, g⟩ (.v (.int k' (k'.wrap a))) :=
 POp.still fun S w c _ _ hr => by
  have hv := hr x (by simp [Op.operands]); rw [hx] at hv
  obtain ⟨u, hu⟩ := Option.isSome_iff_exists.1 h1
  refine ⟨.int k' (k'.wrap a), ?_, .v _⟩
  have : (convert ty ty' (.int k a)).run P w = .ok (.int k' (k'.wrap a)) w := by
   unfold convert
   simp [run_underlying hu, run_underlying h2, Conv.intToInt]
  simp [execOp, hv.v_eq, this]
variable {ops : Array Oper} {i n : Nat} {l : List Oper} {kd : Tmp} {Ψ : Exit → Env → Qd → Prop} {eff : List Nat} {pend : List Xb} {al : List (Nat × Oper)}
theorem Vc {f : FuncId} {fs cs : Array Operand} {ds es : List T} (h1 : EvL t fs.toList ds := by exact ze) (h2 : EvL t cs.toList es := by exact ze) : POp P t H ⟨dst, .makeFunc (.func f) fs cs, tp, pos, aft, g⟩ (.clo f ds es) := M0 h1 h2
theorem Qe (hx : t.ev x = d := by exact zl) (hd : d.there = true := by rfl) : POp P t H ⟨dst, .nilCheck x, tp, pos, aft, g⟩ d := MZ hx hd
theorem Yw (hx : t.ev x = .v (.int k a) := by exact zl) (h1 : (P.underlying ty).isSome = true := by rfl) (h2 : P.underlying ty' = some (.int k') := by rfl) : POp P t H ⟨dst, .convert ty ty' x, tp, pos, aft, g⟩ (.v (.int k' (k'.wrap a))) := Cw hx h1 h2
theorem WB (hx : t.ev x = .v (.int k a) := by exact zl) (hy : t.ev y = .v (.int k b) := by exact zl) : POp P t H ⟨dst, .binOp .add ty x y ty', tp, pos, aft, g⟩ (.v (.int k (k.wrap (a + b)))) := Oz hx hy
theorem NP (hx : t.ev x = .v (.int k a) := by exact zl) (hy : t.ev y = .v (.int k b) := by exact zl) : POp P t H ⟨dst, .binOp .mul ty x y ty', tp, pos, aft, g⟩ (.v (.int k (k.wrap (a * b)))) := Oy hx hy
def Lk (k : IntKind) (a b : Int) : Int := k.wrap (BitVec.ofInt k.bits a &&& BitVec.ofInt k.bits b).toNat
def bOr (k : IntKind) (a b : Int) : Int := k.wrap (BitVec.ofInt k.bits a ||| BitVec.ofInt k.bits b).toNat
def V4 (k : IntKind) (a b : Int) : Int := k.wrap (BitVec.ofInt k.bits a ^^^ BitVec.ofInt k.bits b).toNat
def Zo (k : IntKind) (a b : Int) : Int := k.wrap (a * 2 ^ (min b.toNat k.bits))
def Lj (k : IntKind) (a b : Int) : Int := a.fdiv (2 ^ (min b.toNat k.bits))
theorem Ux (hx : t.ev x = .v (.int k a) := by exact zl) (hy : t.ev y = .v (.int k b) := by exact zl) : POp P t H ⟨dst, .binOp .and ty x y ty', tp, pos, aft, g⟩ (.v (.int k (Lk k a b))) := AK hx hy
theorem VV (hx : t.ev x = .v (.int k a) := by exact zl) (hy : t.ev y = .v (.int k b) := by exact zl) : POp P t H ⟨dst, .binOp .or ty x y ty', tp, pos, aft, g⟩ (.v (.int k (bOr k a b))) := TX hx hy
theorem OC (hx : t.ev x = .v (.int k a) := by exact zl) (hy : t.ev y = .v (.int k b) := by exact zl) : POp P t H ⟨dst, .binOp .xor ty x y ty', tp, pos, aft, g⟩ (.v (.int k (V4 k a b))) := Au hx hy
theorem Uw (hx : t.ev x = .v (.int k a) := by exact zl) (hy : t.ev y = .v (.int k' b) := by exact zl) (h : 0 ≤ b := by exact zo) : POp P t H ⟨dst, .binOp .shl ty x y ty', tp, pos, aft, g⟩ (.v (.int k (Zo k a b))) := Ax hx hy h
theorem ZZ (hx : t.ev x = .v (.int k a) := by exact zl) (hy : t.ev y = .v (.int k' b) := by exact zl) (h : 0 ≤ b := by exact zo) : POp P t H ⟨dst, .binOp .shr ty x y ty', tp, pos, aft, g⟩ (.v (.int k (Lj k a b))) := Aw hx hy h
theorem Yx {b o n k : Nat} {i : Int} {kd : IntKind} [hs : B6 P ty n k] (hx : t.ev x = .v (.pointer (some ⟨b, o, none⟩)) := by exact zl) (hy : t.ev y = .v (.int kd i) := by exact zl) (h0 : 0 ≤ i := by exact zo) (h1 : i < n := by exact zo) :
  POp P t H ⟨dst, .indexAddr ty x y, tp, pos, aft, g⟩ (.v (.pointer (some ⟨b, o + i.toNat * k, none⟩))) := U8 hx hy h0 h1
theorem QV {f : FuncId} {xs : Array Operand} {ats : Array TypeId} {args : List T} {Φ : T → Qd → Prop} (hf : FnH K.P f args Hs Φ) (hp : H.Perm (Hs ++ Hr)) (hn : ∀ r H', Φ r H' → Qf K ops (i + 1) l (t.put dst r) (H' ++ Hr) N) (hc : QE K.P f = true := by rfl) (ha' : EvL t xs.toList args := by exact ze)
  (hd : Xx dst K.n = true := by rfl) : Qf K ops i (⟨dst, .call ⟨.value (.func f), xs, ats⟩, tp, pos, aft, none⟩ :: l) t H N := Vj rfl (YU hf hp hc ha' hd hn)
theorem UL {f : FuncId} {xs : Array Operand} {ats : Array TypeId} {fs cs args : List T} {Φ : T → Qd → Prop} (hf : FnH K.P f (fs ++ args ++ cs) Hs Φ) (hp : H.Perm (Hs ++ Hr)) (hn : ∀ r H', Φ r H' → Qf K ops (i + 1) l (t.put dst r) (H' ++ Hr) N) (hx : t.ev x = .clo f fs cs := by exact zl) (hc : QE K.P f = true := by rfl) (ha : EvL t xs.toList args := by exact ze)
  (hd : Xx dst K.n = true := by rfl) : Qf K ops i (⟨dst, .call ⟨.value x, xs, ats⟩, tp, pos, aft, none⟩ :: l) t H N := Vj rfl (In hx hf hp hc ha hd hn)
theorem PI {f : FuncId} {xs : Array Operand} {ats : Array TypeId} {args : List T} {Φ : T → Prop} (hf : FnP K.P f args Φ) (hn : ∀ r, Φ r → Qf K ops (i + 1) l ((kd, r) :: t) H N) (hc : QE K.P f = true := by rfl) (ha' : EvL t xs.toList args := by exact ze) (hd : Nat.blt kd K.n = true := by rfl) :
  Qf K ops i (⟨some kd, .call ⟨.value (.func f), xs, ats⟩, tp, pos, aft, none⟩ :: l) t H N := YA (LG hc ha' hf hd hn)
end
def VR (r : Loop) (c : Code) (go : Bool) : Loop := if go = true then r else { r with state := .done, pending := some c }
def Lp (P : Program) (l : Nat) (r : Loop) (c : Code) (S0 : Nat → Prop) (w0 : World) (ds : List T) (H : Qd) (Φ : Bool → Qd → Prop) : Prop :=
 ∀ (S : Nat → Prop) (w : World) (vs : List Value), Wf S w → ¬ S l → Own S w H → Qr S w ds vs → (∀ b, S0 b → S b ∧ w.heap[b]? = w0.heap[b]?) → w.heap[l]? = some (.loop r) →
  RoundIn (RF none) 0 P l r.fn ((r.params.zip vs.toArray).foldl (fun tmps (x : Tmp × Value) => tmps.setIfInBounds x.1 x.2) r.tmps) r.assign r.body w fun e w' =>
   ∃ (go : Bool) (S' : Nat → Prop) (H' : Qd), e = .returned (.bool go) ∧ Φ go H' ∧ Own S' w' H' ∧ QW (l :: keys H) S w S' w' ∧ ¬ S' l ∧ (∀ b ∈ keys H', b ∈ keys H ∨ w.heap.size ≤ b) ∧ w'.heap[l]? = some (.loop (VR r c go))
def ItC {α : Type} (P : Program) (g : FuncId) (caps : List T) (enc : α → List T) (Sd Sp : List α → Prop) : Prop :=
 ∀ (c : Code) (l : Nat) (r : Loop) (I Ix : List α → Qd → Prop) (Hx : Qd) (S : Nat → Prop) (w : World) (vs : List Value), r.state = .ready → r.pending = none → (∀ x, (enc x).length = r.params.size) →
  Wf S w → ¬ S l → w.heap[l]? = some (.loop r) → Own S w Hx → Qr S w caps vs → I [] Hx →
  (∀ pre x H, I pre H → Sp (pre ++ [x]) → Lp P l r c S w (enc x) H (fun go H' => if go = true then I (pre ++ [x]) H' else Ix (pre ++ [x]) H')) →
  Calls P g (#[.func (.yield l) #[] #[]] ++ vs.toArray) w fun e w' => ∃ u S' H', e = .returned u ∧ Own S' w' H' ∧ ¬ S' l ∧ QW (l :: keys Hx) S w S' w' ∧ (∀ b ∈ keys H', b ∈ keys Hx ∨ w.heap.size ≤ b) ∧
   ((∃ xs, Sd xs ∧ I xs H' ∧ w'.heap[l]? = some (.loop r)) ∨ (∃ pre, Sp pre ∧ Ix pre H' ∧ w'.heap[l]? = some (.loop (VR r c false))))
def B4 (c : Code) (e : Exit) : Prop := (c = .ret ∧ e = .ret) ∨ ∃ id, c = .exit id ∧ e = .exit id
def Ww (t : Env) : List Tmp → List T → Env
 | p :: ps, d :: ds => Ww ((p, d) :: t) ps ds
 | _, _ => t
def Ce {α : Type} (I Ix : List α → Qd → Prop) (e : Exit) (pre : List α) (x : α) (e' : Exit) (_ : Env) (H : Qd) : Prop :=
 ∃ H2, Qi H H2 ∧ ((e' = .normal ∧ I (pre ++ [x]) H2) ∨ (e' = e ∧ Ix (pre ++ [x]) H2))
section
variable {K : Ctx} {P : Program} {t : Env} {H : Qd} {S : Nat → Prop} {w : World}
theorem Own.obj (h : Own S w H) {l : Nat} {o : Obj} (ho : w.heap[l]? = some o) (hc : CM o = false) : l ∉ keys H := fun hm => by
 obtain ⟨p, hp, rfl⟩ := List.mem_map.1 hm
 obtain ⟨o', h1, h2⟩ := (h.has p hp).isMem
 rw [ho] at h1; cases h1; rw [hc] at h2; cases h2
theorem Own.putObj (h : Own S w H) {l : Nat} {o : Obj} (hl : l ∉ keys H) (hS : ¬ S l) : Own S (w.putObj l o) H := by
 have hm : ∀ b, S b → S b ∧ (w.putObj l o).heap[b]? = w.heap[b]? := fun b hb => ⟨hb, World.putObj_heap_other (fun e => hS (e ▸ hb))⟩
 exact ⟨h.nodup, h.apart, fun p hp => (h.has p hp).mono (World.putObj_heap_other (fun e => hl (e ▸ List.mem_map.2 ⟨p, hp, rfl⟩))) hm⟩
theorem JZ (h : Wf S w) (l : Nat) (o : Obj) : QW [l] S w S (w.putObj l o) :=
 ⟨rfl, rfl, rfl, by simp, fun b _ hn => World.putObj_heap_other (by simpa using hn), fun _ h => h, fun _ h => .inl h, fun b hb => by simpa using h b hb⟩
theorem L1 {a : Array Value} : ∀ (ps : List Tmp) (ds : List T) (vs : List Value) (t : Env) (a : Array Value), ds.length = ps.length → Qr S w ds vs → (∀ p ∈ ps, p < a.size) → (∀ k, Rel S w (t.get k) (a.getD k undef)) →
  ∀ k, Rel S w ((Ww t ps ds).get k) (((ps.zip vs).foldl (fun tmps (x : Tmp × Value) => tmps.setIfInBounds x.1 x.2) a).getD k undef)
 | [], [], _, t, a, _, _, _, h => by simpa [Ww] using h
 | [], _ :: _, _, _, _, hl, _, _, _ => by simp at hl
 | _ :: _, [], _, _, _, hl, _, _, _ => by simp at hl
 | p :: ps, d :: ds, _, t, a, hl, hr, hp, h => by
  cases hr with
  | cons _ v _ vs h1 h2 =>
   refine L1 (a := a) ps ds vs ((p, d) :: t) _ (by simpa using hl) h2 (fun q hq => by simpa using hp q (List.mem_cons_of_mem _ hq)) fun k => ?_
   have := (show ZR S w t { tmps := a, defers := [] } from h).put (dst := some p) (d := d) (v := v) (by simpa [Xx] using hp p List.mem_cons_self) h1
   exact this k
theorem WY : ∀ (l : List (Tmp × Value)) (a : Array Value), (l.foldl (fun tmps (x : Tmp × Value) => tmps.setIfInBounds x.1 x.2) a).size = a.size
 | [], a => rfl
 | x :: l, a => by rw [List.foldl_cons, WY l]; simp
theorem IJ {α : Type} {ps : Array Tmp} {assign body : Code} {c : Code} {e : Exit} (hce : B4 c e) {I Ix : List α → Qd → Prop} {enc : α → List T} {n l : Nat} {tmps : Array Value} {fn : FuncId} {D : Nat} (hsz : tmps.size = n) {Sb : Nat → Prop} {wb : World} (henv : ∀ k, Rel Sb wb (t.get k) (tmps.getD k undef))
  (hps : ∀ x, (enc x).length = ps.size) (hpn : ∀ p ∈ ps.toList, p < n) (pre : List α) (x : α) (H1 : Qd)
  (hround : ∀ S1 w1, Sim ⟨P, n, S1, w1, keys H1, some l, JR.none, w1.heap.size, []⟩ assign (Ww t ps.toList (enc x)) H1 (fun e' t' H' => e' = .normal ∧ ∀ S2 w2 mk, Sim ⟨P, n, S2, w2, keys H', some l, JR.none, mk, []⟩ body t' H' (Ce I Ix e pre x))) :
  Lp P l { state := .ready, pending := none, fn, tmps, params := ps, assign, body, defers := D } c Sb wb (enc x) H1 (fun go H' => if go = true then I (pre ++ [x]) H' else Ix (pre ++ [x]) H') := by
 intro S w vs hw hnl hown hrel hcomp hrec
 have hvl := hrel.length
 refine roundIn_of_wpIn (F := RF none) trivial ?_
 have hl1 : l ∉ keys H1 := hown.obj hrec rfl
 have hlt := (Array.getElem?_eq_some_iff.1 hrec).1
 have ezip : (ps.zip vs.toArray).foldl (fun tmps (x : Tmp × Value) => tmps.setIfInBounds x.1 x.2) tmps = (ps.toList.zip vs).foldl (fun tmps (x : Tmp × Value) => tmps.setIfInBounds x.1 x.2) tmps := by
  rw [← Array.foldl_toList]; simp
 have henv1 := L1 (a := tmps) ps.toList (enc x) vs t tmps (by rw [hps]; simp) hrel (by simpa [hsz] using hpn) (fun k => (henv k).mono hcomp)
 have h1 := hround S w { tmps := (ps.toList.zip vs).foldl (fun tmps (x : Tmp × Value) => tmps.setIfInBounds x.1 x.2) tmps, defers := [] } w
  ⟨S, by rw [WY]; exact hsz, ⟨Nat.le_refl _, Mks.zero, fun _ _ => trivial⟩, QW.refl _ hw, hown, fun b hb => .inl hb, henv1⟩
 simp only [ezip]
 refine wpIn_mono h1 ?_
 rintro e' a' w' ⟨t', H', ⟨rfl, hbody⟩, S', hr'⟩
 show ∃ w₂, (Instr.beginRound l).run P w' = .ok () w₂ ∧ body.wpIn ((RF none).inRound l) 0 P (roundPost P l _) a' w₂
 have hst1 : QW (keys H1) S w S' w' := hr'.step
 have hrec1 : w'.heap[l]? = some (.loop { state := .ready, pending := none, fn, tmps, params := ps, assign, body, defers := D }) := (hst1.keep l hlt hl1).trans hrec
 have hnl1 : ¬ S' l := fun h => by
  rcases hst1.new l h with h | h | h
  ·exact hnl h
  ·omega
  ·exact hl1 h
 have hl2 : l ∉ keys H' := hr'.own.obj hrec1 rfl
 refine ⟨_, run_beginRound hrec1 rfl, ?_⟩
 obtain ⟨w₂, hw2⟩ : ∃ w₂, w'.putObj l (.loop { state := .busy, pending := none, fn, tmps, params := ps, assign, body, defers := D }) = w₂ := ⟨_, rfl⟩
 show body.wpIn ((RF none).inRound l) 0 P (roundPost P l _) a' (w'.putObj l (.loop { state := .busy, pending := none, fn, tmps, params := ps, assign, body, defers := D }))
 rw [hw2]
 have hst2 : QW [l] S' w' S' w₂ := hw2 ▸ JZ hr'.wf l _
 have hown2 : Own S' w₂ H' := hw2 ▸ hr'.own.putObj hl2 hnl1
 have hm2 : ∀ b, S' b → S' b ∧ w₂.heap[b]? = w'.heap[b]? := fun b hb => ⟨hb, by rw [← hw2]; exact World.putObj_heap_other (fun e => hnl1 (e ▸ hb))⟩
 have hrec2 : w₂.heap[l]? = some (.loop { state := .busy, pending := none, fn, tmps, params := ps, assign, body, defers := D }) := by rw [← hw2]; exact World.putObj_heap_same (Array.getElem?_eq_some_iff.1 hrec1).1
 have hlt2 := (Array.getElem?_eq_some_iff.1 hrec2).1
 have hbd := hbody S' w₂ w.heap.size a' w₂ ⟨S', hr'.size, ⟨Nat.le_trans hr'.defers.low hst2.size, hr'.defers.marks.step fun E e3 => by
   rw [← hw2, World.putObj_heap_other (fun h => by rw [h, hrec1] at e3; cases e3)]; exact e3, fun _ _ => trivial⟩, QW.refl _ (hst2.wf), hown2, fun b hb => .inl hb, hr'.env.mono hm2⟩
 refine wpIn_mono hbd ?_
 rintro e2 a2 w4 ⟨t4, H4, ⟨H5, hfr, hcase⟩, S4, hr4⟩
 have hst3 : QW (keys H') S' w₂ S4 w4 := hr4.step
 have hrec4 : w4.heap[l]? = some (.loop { state := .busy, pending := none, fn, tmps, params := ps, assign, body, defers := D }) := (hst3.keep l hlt2 hl2).trans hrec2
 have hnl4 : ¬ S4 l := fun h => by
  rcases hst3.new l h with h | h | h
  ·exact hnl1 h
  ·omega
  ·exact hl2 h
 have hown5 : Own S4 w4 H5 := hr4.own.le (hfr.le hr4.own.nodup)
 have hl5 : l ∉ keys H5 := hown5.obj hrec4 rfl
 have hlt4 := (Array.getElem?_eq_some_iff.1 hrec4).1
 have hkeys5 : ∀ b ∈ keys H5, b ∈ keys H1 ∨ w.heap.size ≤ b := fun b hb => by
  rcases hr4.mine b ((hfr.le hr4.own.nodup).sub b hb) with h | h
  ·exact hr'.mine b h
  ·exact .inr (Nat.le_trans (Nat.le_trans hst1.size hst2.size) h)
 have hsteps : ∀ o, QW (l :: keys H1) S w S4 (w4.putObj l o) := fun o => by
  have s1 : QW (l :: keys H1) S w S' w' := hst1.weaken fun b hb => .inl (List.mem_cons_of_mem _ hb)
  have s2 := s1.trans hst2 (fun b hb => by simp at hb; exact .inl (by simp [hb]))
  have s3 := s2.trans hst3 (fun b hb => by
   rcases hr'.mine b hb with h | h
   ·exact .inl (List.mem_cons_of_mem _ h)
   ·exact .inr h)
  exact s3.trans (JZ hr4.wf l o) (fun b hb => by simp at hb; exact .inl (by simp [hb]))
 rcases hcase with ⟨rfl, hI⟩ | ⟨rfl, hI⟩
 ·refine ⟨_, _, run_endRound none hrec4, true, S4, H5, rfl, hI, hown5.putObj hl5 hnl4, hsteps _, hnl4, hkeys5, World.putObj_heap_same hlt4⟩
 ·rcases hce with ⟨rfl, rfl⟩ | ⟨id, rfl, rfl⟩
  ·exact ⟨_, _, run_endRound (some .ret) hrec4, false, S4, H5, rfl, hI, hown5.putObj hl5 hnl4, hsteps _, hnl4, hkeys5, World.putObj_heap_same hlt4⟩
  ·exact ⟨_, _, run_endRound (some (.exit id)) hrec4, false, S4, H5, rfl, hI, hown5.putObj hl5 hnl4, hsteps _, hnl4, hkeys5, World.putObj_heap_same hlt4⟩
theorem LV {α : Type} {gop : Operand} {ps : Array Tmp} {assign body : Code} {g : FuncId} {caps : List T} {enc : α → List T} {Sd Sp : List α → Prop} {Ψ : Exit → Env → Qd → Prop} (hit : ItC K.P g caps enc Sd Sp) (hg : t.ev gop = .clo g [] caps) (hcall : QE K.P g = true) (hrd : K.rd = none)
  (I Ix : List α → Qd → Prop) (c : Code) (e : Exit) (hce : B4 c e) (hps : ∀ x, (enc x).length = ps.size) (hpn : (ps.toList.all fun p => Nat.blt p K.n) = true) (h0 : I [] H)
  (hround : ∀ pre x H1, I pre H1 → Sp (pre ++ [x]) → ∀ l S1 w1, Sim ⟨K.P, K.n, S1, w1, keys H1, some l, JR.none, w1.heap.size, []⟩ assign (Ww t ps.toList (enc x)) H1 (fun e' t' H' => e' = .normal ∧ ∀ S2 w2 mk, Sim ⟨K.P, K.n, S2, w2, keys H', some l, JR.none, mk, []⟩ body t' H' (Ce I Ix e pre x)))
  (hdone : ∀ xs H', Sd xs → I xs H' → Ψ .normal t H') (hstop : ∀ pre H', Sp pre → Ix pre H' → Ψ e t H') : Sim K (.rangeFunc gop ps assign body) t H Ψ := by
 intro a w ⟨S, hr⟩
 have hgr := hr.env.ev gop; rw [hg] at hgr
 obtain ⟨vs, hgv, hcaps⟩ : ∃ vs : List Value, a.eval gop = .func (.func g) #[] vs.toArray ∧ Qr S w caps vs := by
  generalize a.eval gop = u at hgr
  cases hgr with
  | clo _ _ _ us vs r1 r2 => cases r1; exact ⟨vs, rfl, r2⟩
 refine wpIn_rangeFunc ?_
 intro fn _
 obtain ⟨rec, hrec⟩ : ∃ rec : Loop, rec = { state := .ready, pending := none, fn, tmps := a.tmps, params := ps, assign, body, defers := w.heap.size } := ⟨_, rfl⟩
 obtain ⟨W1, hW1⟩ : ∃ W1, (w.alloc (.deferred (some []))).alloc (.loop rec) = W1 := ⟨_, rfl⟩
 have hsz1 : W1.heap.size = w.heap.size + 1 + 1 := by rw [← hW1]; simp
 have hL1 : W1.heap[w.heap.size + 1]? = some (.loop rec) := by
  rw [← hW1]; have := World.alloc_heap_new (w.alloc (.deferred (some []))) (.loop rec); rwa [World.size_alloc] at this
 have hD1 : W1.heap[w.heap.size]? = some (.deferred (some [])) := by
  rw [← hW1, Ya _ _ (by simp)]; exact Zb w _
 have hst1 : QW [] S w S W1 := hW1 ▸ (Jh hr.wf _ []).trans (Jh (Jh hr.wf (.deferred (some [])) []).wf _ []) (by simp)
 have hm1 := hst1.mono hr.wf (by simp)
 have hown1 := hr.own.step hst1 hr.wf (by simp) (by simp)
 have hnl : ¬ S (w.heap.size + 1) := fun h => by have := hr.wf _ h; omega
 refine ⟨w.heap.size + 1, [{ target := .collected w.heap.size, args := #[] }], W1, { target := .fn (.func g) vs.toArray, args := #[.func (.yield (w.heap.size + 1)) #[] #[]] }, W1, g,
  #[.func (.yield (w.heap.size + 1)) #[] #[]] ++ vs.toArray, W1, ?_, ?_, fun _ _ => trivial, ?_, fun h => Bool.noConfusion (show false = true from h), ET _ ?_⟩
 ·rw [← hW1, hrec, show (RF K.rd).round = none from hrd]; exact run_enterLoop_outer _ _ _ _ _
 ·simp only [resolve, hgv]
  simp [go_sem]
 ·simp only [invoke]
  exact Y5 hcall _ _
 refine (hit c (w.heap.size + 1) rec I Ix H S W1 vs (by rw [hrec]) (by rw [hrec]) (fun x => by rw [hps x, hrec]) hst1.wf hnl hL1 hown1 (hcaps.mono hm1) h0 fun pre x H1 hI hsp => ?_).mono ?_
 ·rw [hrec]
  exact IJ hce hr.size (fun k => (hr.env k).mono hm1) hps (fun p hp => by simpa using List.all_eq_true.1 hpn p hp) pre x H1 (hround pre x H1 hI hsp _)
 ·rintro e' w3 ⟨u, S3, H3, rfl, hown3, hnl3, hst3, hkeys3, hcase⟩
  have hlH : w.heap.size + 1 ∉ keys H := fun hm => by have := hr.own.lt _ hm; omega
  have hDH : w.heap.size ∉ keys H := fun hm => by have := hr.own.lt _ hm; omega
  have hD3 : w3.heap[w.heap.size]? = some (.deferred (some [])) := (hst3.keep _ (by omega) (by simp; exact hDH)).trans hD1
  have fin : ∀ r', w3.heap[w.heap.size + 1]? = some (.loop r') → R K t H3 { a with defers := [{ target := .collected w.heap.size, args := #[] }] ++ a.defers } (w3.putObj (w.heap.size + 1) (.loop { r' with state := .exhausted })) := by
   intro r' hr3
   have hl3 : w.heap.size + 1 ∉ keys H3 := hown3.obj hr3 rfl
   have hst4 := JZ hst3.wf (w.heap.size + 1) (.loop { r' with state := .exhausted })
   have hS1 : ∀ b ∈ (w.heap.size + 1) :: keys H, ¬ S b := fun b hb => by
    rcases List.mem_cons.1 hb with rfl | hb
    ·exact hnl
    ·exact hr.own.apart b hb
   have hm3 := hst3.mono hst1.wf hS1
   have hm4 : ∀ b, S3 b → S3 b ∧ (w3.putObj (w.heap.size + 1) (.loop { r' with state := .exhausted })).heap[b]? = w3.heap[b]? := fun b hb => ⟨hb, World.putObj_heap_other (fun e => hnl3 (e ▸ hb))⟩
   have hobj : LO w (w3.putObj (w.heap.size + 1) (.loop { r' with state := .exhausted })) := fun b o hb ho => by
    have hlt := (Array.getElem?_eq_some_iff.1 hb).1
    have hbH : b ∉ keys H := hr.own.obj hb ho
    rw [World.putObj_heap_other (by omega), hst3.keep b (by omega) (by simp; exact ⟨by omega, hbH⟩), hst1.keep b hlt (by simp)]
    exact hb
   have hsz4 : w.heap.size ≤ (w3.putObj (w.heap.size + 1) (.loop { r' with state := .exhausted })).heap.size := by have := hst3.size; simp; omega
   have hext := hr.defers.step (fun b hb => ⟨(hm4 b (hm3 b (hm1 b hb).1).1).1, ((hm4 b (hm3 b (hm1 b hb).1).1).2.trans (hm3 b (hm1 b hb).1).2).trans (hm1 b hb).2⟩) hobj hsz4
   refine ⟨S3, hr.size, ⟨hext.low, ?_, hext.flags⟩, ((hr.step.trans hst1 (by simp)).trans hst3 (fun b hb => ?_)).trans hst4 (fun b hb => ?_), hown3.putObj hl3 hnl3, fun b hb => ?_, ((hr.env.mono hm1).mono hm3).mono hm4⟩
   ·exact hr.defers.marks.cons (fun E h3 => hobj E _ h3 rfl) hr.defers.low ((World.putObj_heap_other (by omega)).trans hD3)
   ·rcases List.mem_cons.1 hb with rfl | hb
    ·right; have := hr.step.size; omega
    ·exact hr.mine b hb
   ·simp at hb; subst hb; right; have := hr.step.size; omega
   ·rcases hkeys3 b hb with h | h
    ·exact hr.mine b h
    ·right; have := hr.step.size; omega
  rcases hcase with ⟨xs, hSd, hI, hr3⟩ | ⟨pre, hSp, hI, hr3⟩
  ·exact ⟨none, _, by rw [run_endLoop hr3 (by rw [hrec]; simp), hrec], t, H3, hdone xs H3 hSd hI, fin _ hr3⟩
  ·refine ⟨some c, _, run_endLoop hr3 (by simp [VR]), ?_⟩
   have := fin _ hr3
   rcases hce with ⟨rfl, rfl⟩ | ⟨id, rfl, rfl⟩
   ·exact wpIn_ret ⟨t, H3, hstop pre H3 hSp hI, this⟩
   ·exact wpIn_exit ⟨t, H3, hstop pre H3 hSp hI, this⟩
def Dj (l : Nat) (r : Loop) (c : Code) : JR where
 X := fun j w => match j with
  | 0 => w.heap[l]? = some (.loop r)
  | 1 => w.heap[l]? = some (.loop (VR r c false))
  | _ => True
 hX := fun j w w' h ho => by
  match j, h with
  | 0, h => exact ho _ _ h rfl
  | 1, h => exact ho _ _ h rfl
  | _ + 2, _ => trivial
def C1 {α : Type} (n : Nat) (Sd Sp : List α → Prop) (I Ix : List α → Qd → Prop) (e : Exit) (t : Env) (H : Qd) : Prop :=
 match e with
 | .normal | .ret => ∃ H', Qi H H' ∧ ((t.get n = .v undef ∧ ∃ xs, Sd xs ∧ I xs H') ∨ (t.get (n + 1) = .v undef ∧ ∃ pre, Sp pre ∧ Ix pre H'))
 | _ => False
structure ItK (K : Ctx) (l : Nat) (r : Loop) (c : Code) : Prop where
 fl : K.fl = Dj l r c
 nS : ¬ K.S0 l
 inF : l ∈ K.F0
 lt : l < K.w0.heap.size
 wf : Wf K.S0 K.w0
 disj : ∀ b ∈ K.F0, ¬ K.S0 b
theorem Eo {α : Type} {g : FuncId} {fn : Func} {code : Code} {caps : List T} {enc : α → List T} {Sd Sp : List α → Prop} (hf : P.funcs[g]? = some fn) (hb : fn.body = some code) (hn : Nat.ble (caps.length + 1) fn.ntmps = true) (hres : fn.results = #[])
  (h : ∀ (c : Code) (l : Nat) (r : Loop) (I Ix : List α → Qd → Prop) (Hx : Qd) (S : Nat → Prop) (w : World), (∀ x, (enc x).length = r.params.size) → r.state = .ready → r.pending = none → ItK ⟨P, fn.ntmps, S, w, l :: keys Hx, none, Dj l r c, w.heap.size, []⟩ l r c → I [] Hx →
   (∀ pre x H, I pre H → Sp (pre ++ [x]) → Lp P l r c S w (enc x) H (fun go H' => if go = true then I (pre ++ [x]) H' else Ix (pre ++ [x]) H')) →
   Sim ⟨P, fn.ntmps, S, w, l :: keys Hx, none, Dj l r c, w.heap.size, []⟩ code ((fn.ntmps, .v undef) :: (0, .v (.func (.yield l) #[] #[])) :: (List.range' 1 caps.length).zip caps) Hx (C1 fn.ntmps Sd Sp I Ix)) :
  ItC P g caps enc Sd Sp := by
 intro c l r I Ix Hx S w vs hr1 hr2 hlen hw hnl hrec hown hcaps h0 hY
 have hlt := (Array.getElem?_eq_some_iff.1 hrec).1
 have hl := hcaps.length
 have hn' : caps.length + 1 ≤ fn.ntmps := Nat.le_of_ble_eq_true hn
 have hargs : Qr S w (.v (.func (.yield l) #[] #[]) :: caps) (.func (.yield l) #[] #[] :: vs) := .cons _ _ _ _ (.v _) hcaps
 have henv := Vo hargs fn.ntmps
 have eenv : ((List.range (T.v (.func (.yield l) #[] #[]) :: caps).length).zip (T.v (.func (.yield l) #[] #[]) :: caps)) = (0, .v (.func (.yield l) #[] #[])) :: (List.range' 1 caps.length).zip caps := by
  rw [List.length_cons, List.range_eq_range', List.range'_succ, List.zip_cons_cons]
 rw [eenv] at henv
 have earg : (#[.func (.yield l) #[] #[]] ++ vs.toArray : Array Value) = (.func (.yield l) #[] #[] :: vs).toArray := by simp
 rw [earg]
 refine (callsIn_wide (n := 0)).1 (callsIn_of_wp_marks hf hb trivial ?_)
 refine wpIn_mono (h c l r I Ix Hx S w hlen hr1 hr2 ⟨rfl, hnl, List.mem_cons_self, hlt, hw, fun b hb => by
   rcases List.mem_cons.1 hb with rfl | hb
   ·exact hnl
   ·exact hown.apart b hb⟩ h0 hY { tmps := (.func (.yield l) #[] #[] :: vs).toArray ++ Array.replicate (fn.ntmps - (.func (.yield l) #[] #[] :: vs).toArray.size) undef, defers := [] } w
  ⟨S, by simp; omega, ⟨Nat.le_refl _, Mks.zero, fun j hj => ?_⟩, QW.refl _ hw, hown, fun b hb => .inl (List.mem_cons_of_mem _ hb), fun k => ?_⟩) ?_
 ·have hge : ∀ j, Env.get ((0, T.v (.func (.yield l) #[] #[])) :: (List.range' 1 caps.length).zip caps) (fn.ntmps + j) = .any := fun j => by
   have key : ∀ (xs : List T) (i k : Nat), i + xs.length ≤ k → Env.get ((List.range' i xs.length).zip xs) k = .any := by
    intro xs
    induction xs with
    | nil => intro i k _; rfl
    | cons x xs ih =>
     intro i k hk
     rw [List.length_cons, List.range'_succ, List.zip_cons_cons]
     simp only [List.length_cons] at hk
     simp only [Env.get, Z6 (show ¬ i = k by omega), cond_false]
     exact ih (i + 1) k (by omega)
   simp only [Env.get, Z6 (show ¬ 0 = fn.ntmps + j by omega), cond_false]
   exact key caps 1 _ (by omega)
  match j, hj with
  | 0, _ => exact hrec
  | j + 1, hj =>
   have := hj (.bool true) (by
    show Rel S w (Env.get ((fn.ntmps, .v undef) :: _) (fn.ntmps + (j + 1))) _
    simp only [Env.get, Z6 (show ¬ fn.ntmps = fn.ntmps + (j + 1) by omega), cond_false]
    exact (hge (j + 1)) ▸ .any _)
   simp [undef] at this
 ·by_cases hk : k = fn.ntmps
  ·subst hk
   have : Env.get ((fn.ntmps, .v undef) :: (0, T.v (.func (.yield l) #[] #[])) :: (List.range' 1 caps.length).zip caps) fn.ntmps = .v undef := by simp [Env.get]
   rw [this, Array.getD_eq_getD_getElem?, Array.getElem?_eq_none (by simp; omega)]
   exact .v _
  ·have : Env.get ((fn.ntmps, .v undef) :: (0, T.v (.func (.yield l) #[] #[])) :: (List.range' 1 caps.length).zip caps) k = Env.get ((0, T.v (.func (.yield l) #[] #[])) :: (List.range' 1 caps.length).zip caps) k := by
    simp [Env.get, Z6 (show ¬ fn.ntmps = k by omega)]
   rw [this]; exact henv k
 ·rintro e a' w' ⟨t', H', hp, S', hr'⟩
  have fin : (∃ H2, Qi H' H2 ∧ ((t'.get fn.ntmps = .v undef ∧ ∃ xs, Sd xs ∧ I xs H2) ∨ (t'.get (fn.ntmps + 1) = .v undef ∧ ∃ pre, Sp pre ∧ Ix pre H2))) → LeavesInM Fence.wide 0 P fn a'.tmps
    (fun e w' => ∃ u S' H', e = .returned u ∧ Own S' w' H' ∧ ¬ S' l ∧ QW (l :: keys Hx) S w S' w' ∧ (∀ b ∈ keys H', b ∈ keys Hx ∨ w.heap.size ≤ b) ∧
     ((∃ xs, Sd xs ∧ I xs H' ∧ w'.heap[l]? = some (.loop r)) ∨ (∃ pre, Sp pre ∧ Ix pre H' ∧ w'.heap[l]? = some (.loop (VR r c false))))) a'.defers .returning w' := by
   rintro ⟨H2, hfr, hcase⟩
   have hle := hfr.le hr'.own.nodup
   have hund : ∀ k, t'.get k = .v undef → ∀ u, Rel S' w' (t'.get k) u → u = undef := fun k hk u hu => by rw [hk] at hu; exact hu.v_eq
   have hX : (∃ xs, Sd xs ∧ I xs H2 ∧ w'.heap[l]? = some (.loop r)) ∨ (∃ pre, Sp pre ∧ Ix pre H2 ∧ w'.heap[l]? = some (.loop (VR r c false))) := by
    rcases hcase with ⟨h1, xs, h2, h3⟩ | ⟨h1, pre, h2, h3⟩
    ·exact .inl ⟨xs, h2, h3, hr'.defers.flags 0 (hund _ h1)⟩
    ·exact .inr ⟨pre, h2, h3, hr'.defers.flags 1 (hund _ h1)⟩
   have hnc : ∀ cs ty fz, w'.heap[l]? ≠ some (.cells cs ty fz) := fun cs ty fz => by
    rcases hX with ⟨_, _, _, h⟩ | ⟨_, _, _, h⟩ <;> rw [h] <;> simp
   obtain ⟨hnd, hmk⟩ := hr'.defers.marks.nil
   refine JE w.heap.size _ w' hnd hmk fun w2 e1 e2 e3 e4 e5 => ?_
   let B : Nat → Prop := fun b => (⟨.collected b, #[]⟩ : Deferred) ∈ a'.defers ∨ b = l
   have hBm : ∀ b, B b → ∀ ms c, w'.heap[b]? ≠ some (.map ms c) := fun b hbm ms c => by
    rcases hbm with hbm | rfl
    ·obtain ⟨D, hD, h0, h1⟩ := hmk _ hbm
     cases hD
     rw [h1]; simp
    ·rcases hX with ⟨_, _, _, h⟩ | ⟨_, _, _, h⟩ <;> rw [h] <;> simp
   have hB : ∀ b, B b → (w.heap.size ≤ b ∨ b = l) ∧ ∀ cs ty fz, w'.heap[b]? ≠ some (.cells cs ty fz) := fun b hbm => by
    rcases hbm with hbm | rfl
    ·obtain ⟨D, hD, h0, h1⟩ := hmk _ hbm
     cases hD
     exact ⟨.inl h0, fun cs ty fz => by rw [h1]; simp⟩
    ·exact ⟨.inr rfl, hnc⟩
   have hlm : (⟨.collected l, #[]⟩ : Deferred) ∉ a'.defers := fun hm => by
    obtain ⟨D, hD, h0, h1⟩ := hmk _ hm
    cases hD
    exact absurd hlt (Nat.not_lt.2 h0)
   have hm : ∀ b, (S' b ∧ ¬ B b) → (S' b ∧ ¬ B b) ∧ w2.heap[b]? = w'.heap[b]? := fun b hb => ⟨hb, e5 b (fun h => hb.2 (.inl h))⟩
   have hown' := hr'.own.le hle
   have hown2 : Own (fun b => S' b ∧ ¬ B b) w2 H2 := ⟨hown'.nodup, fun b hb hS => hown'.apart b hb hS.1, fun p hp => by
    exact (hown'.has p hp).shrunk (fun b hb => (hB b hb).2) hBm (fun hnb => e5 p.1 (fun h => hnb (.inl h))) hm⟩
   refine ⟨.tuple #[], by simp [results, hres], .tuple #[], fun b => S' b ∧ ¬ B b, H2, rfl, hown2, fun h => h.2 (.inr rfl), ⟨e1.trans hr'.step.os, e2.trans hr'.step.tape, e3.trans hr'.step.output, by rw [e4]; exact hr'.step.size,
    fun b hb hn => (e5 b (fun hbm => ?_)).trans (hr'.step.keep b hb hn), fun b hb => ⟨hr'.step.sub b hb, fun hbm => ?_⟩, fun b hb => hr'.step.new b hb.1, fun b hb => by rw [e4]; exact hr'.step.wf b hb.1⟩, fun b hb => ?_, ?_⟩
   ·rcases (hB b (.inl hbm)).1 with h | h
    ·omega
    ·exact hlm (h ▸ hbm)
   ·rcases (hB b hbm).1 with h | h
    ·have := hw b hb; omega
    ·exact hnl (h ▸ hb)
   ·rcases hr'.mine b (hle.sub b hb) with h | h
    ·rcases List.mem_cons.1 h with rfl | h
     ·exact absurd hb (hown'.obj (o := w'.heap[b]'(by
       rcases hX with ⟨_, _, _, h⟩ | ⟨_, _, _, h⟩ <;> exact (Array.getElem?_eq_some_iff.1 h).1)) (by simp) (by
        rcases hX with ⟨_, _, _, h⟩ | ⟨_, _, _, h⟩ <;> (rw [(Array.getElem?_eq_some_iff.1 h).2]; rfl)))
     ·exact .inl h
    ·exact .inr h
   ·rw [e5 l hlm]; exact hX
  cases e with
  | normal => exact fin hp
  | ret => exact fin hp
  | _ => exact hp.elim
theorem Ij {N : Env → Qd → Prop} {l : Nat} {r : Loop} {c : Code} {x : Operand} {xs : Array Operand} {ats : Array TypeId} {ds : List T} {Hx Hr : Qd} {Φ : Bool → Qd → Prop} {tp : TypeId} {pos : String} {aft : Array Edge} {gd : Option (Nat × Bool)} {kd : Tmp}
  (hY : Lp K.P l r c K.S0 K.w0 ds Hx Φ) (hp : H.Perm (Hx ++ Hr)) (hlen : ds.length = r.params.size) (hK : ItK K l r c) (hflag : t.get K.n = .v undef) (hx : t.ev x = .v (.func (.yield l) #[] #[])) (ha : EvL t xs.toList ds) (hd : Nat.blt kd K.n = true)
  (hT : ∀ H', Φ true H' → N ((kd, .v (.bool true)) :: t) (H' ++ Hr)) (hF : ∀ H', Φ false H' → N ((kd, .v (.bool false)) :: (K.n + 1, .v undef) :: (K.n, .any) :: t) (H' ++ Hr)) :
  EOp K t H ⟨some kd, .call ⟨.value x, xs, ats⟩, tp, pos, aft, gd⟩ N := by
 intro a w hR Kc Q hk
 obtain ⟨S, hr⟩ := hR.perm hp
 have h1 := hr.env.ev x; rw [hx] at h1
 have hrl : Qr S w ds (xs.toList.map a.eval) := ha.rel fun x _ => hr.env.ev x
 have hrec : w.heap[l]? = some (.loop r) := by
  have := hr.defers.flags 0 (fun u hu => by rw [Nat.add_zero, hflag] at hu; exact hu.v_eq)
  rw [hK.fl] at this; exact this
 have hnc : ∀ cs ty fz, w.heap[l]? ≠ some (.cells cs ty fz) := fun _ _ _ => by rw [hrec]; simp
 have hlH : l ∉ keys (Hx ++ Hr) := hr.own.obj hrec rfl
 have hlx : l ∉ keys Hx := fun h => hlH (by rw [Ql]; exact List.mem_append_left _ h)
 have hlt := (Array.getElem?_eq_some_iff.1 hrec).1
 have hkn : kd < K.n := by simpa using hd
 have hshL : ∀ {x : List T} {y : List Value}, Qr S w x y → Qr (fun b => S b ∧ ¬ b = l) w x y := fun h => Qr.shrink (B := fun b => b = l) (fun b hb cs ty fz => by subst hb; exact hnc cs ty fz) h
 have hsh : ∀ {x : T} {y : Value}, Rel S w x y → Rel (fun b => S b ∧ ¬ b = l) w x y := fun h => Rel.shrink (B := fun b => b = l) (fun b hb cs ty fz => by subst hb; exact hnc cs ty fz) h
 have hwf1 : Wf (fun b => S b ∧ ¬ b = l) w := fun b hb => hr.wf b hb.1
 have hown1 : Own (fun b => S b ∧ ¬ b = l) w (Hx ++ Hr) := ⟨hr.own.nodup, fun b hb hS => hr.own.apart b hb hS.1, fun p hp => by
  exact (hr.own.has p hp).shrunk (B := fun b => b = l) (fun b hb cs ty fz => by subst hb; exact hnc cs ty fz) (fun b hb ms c => by subst hb; rw [hrec]; simp) (fun _ => rfl) (fun b hb => ⟨hb, rfl⟩)⟩
 have hcomp : ∀ b, K.S0 b → (S b ∧ ¬ b = l) ∧ w.heap[b]? = K.w0.heap[b]? := fun b hb =>
  ⟨⟨hr.step.sub b hb, fun e => hK.nS (e ▸ hb)⟩, hr.step.keep b (hK.wf b hb) fun h => hK.disj b h hb⟩
 have hst0 : QW K.F0 K.S0 K.w0 (fun b => S b ∧ ¬ b = l) w := ⟨hr.step.os, hr.step.tape, hr.step.output, hr.step.size, hr.step.keep, fun b hb => (hcomp b hb).1, fun b hb => hr.step.new b hb.1, hwf1⟩
 have hrun : (execOp a.eval ⟨some kd, .call ⟨.value x, xs, ats⟩, tp, pos, aft, gd⟩).run K.P w = .ok (.round l r.fn ((r.params.zip (xs.toList.map a.eval).toArray).foldl (fun tmps (x : Tmp × Value) => tmps.setIfInBounds x.1 x.2) r.tmps) r.assign r.body) w := by
  have e1 : (execOp a.eval ⟨some kd, .call ⟨.value x, xs, ats⟩, tp, pos, aft, gd⟩).run K.P w = (Instr.yield l (xs.map a.eval)).run K.P w := by
   simp [execOp, resolve, h1.v_eq, Deferred.ofValue, invoke]
  have e2 : xs.map a.eval = (xs.toList.map a.eval).toArray := by apply Array.ext'; simp
  rw [e1, e2, run_yield hrec (by have := hrl.length; simp at this ⊢; omega)]
 have e0 : Oper.semAt (RF K.rd).round a.eval ⟨some kd, .call ⟨.value x, xs, ats⟩, tp, pos, aft, gd⟩ = execOp a.eval ⟨some kd, .call ⟨.value x, xs, ats⟩, tp, pos, aft, gd⟩ := by
  cases K.rd <;> rfl
 refine ⟨fun _ _ => trivial, ?_⟩
 rw [e0, hrun]
 refine ⟨fun h => Bool.noConfusion (show false = true from h), ?_⟩
 have := hY _ w _ hwf1 (fun h => h.2 rfl) hown1.left (hshL hrl) hcomp hrec
 refine RoundIn.mono (show RoundIn (RF K.rd) 0 K.P l r.fn _ r.assign r.body w _ from this) ?_
 rintro e w' ⟨go, S', H', rfl, hΦ, hown', hst, hnl', hkeys, hrec'⟩
 have hdis : ∀ b ∈ l :: keys Hx, ¬ (S b ∧ ¬ b = l) := fun b hb hS => by
  rcases List.mem_cons.1 hb with rfl | hb
  ·exact hS.2 rfl
  ·exact hown1.left.apart b hb hS
 have hm := hst.mono hwf1 hdis
 have hlr : l ∉ keys Hr := fun h => hlH (by rw [Ql]; exact List.mem_append_right _ h)
 have hkl : ∀ b ∈ l :: keys Hx, b ∈ K.F0 ∨ K.w0.heap.size ≤ b := fun b hb => by
  rcases List.mem_cons.1 hb with rfl | hb
  ·exact .inl hK.inF
  ·exact hr.mine b (by rw [Ql]; exact List.mem_append_left _ hb)
 have hobj : ∀ b o, b ≠ l → w.heap[b]? = some o → CM o = false → w'.heap[b]? = some o := fun b o hbl hb ho => by
  have hbH := hr.own.obj hb ho
  exact (hst.keep b (Array.getElem?_eq_some_iff.1 hb).1 (fun h => by
   rcases List.mem_cons.1 h with h | h
   ·exact hbl h
   ·exact hbH (by rw [Ql]; exact List.mem_append_left _ h))).trans hb
 have hownF : Own S' w' (H' ++ Hr) := by
  refine ⟨?_, ?_, ?_⟩
  ·rw [Ql]
   refine List.nodup_append.2 ⟨hown'.nodup, hr.own.right.nodup, fun b hb c hc' e => ?_⟩
   subst e
   rcases hkeys b hb with h1 | h1
   ·exact hr.own.disj b h1 hc'
   ·have := hr.own.right.lt b hc'; omega
  ·intro b hb hS
   rw [Ql] at hb
   rcases List.mem_append.1 hb with hb | hb
   ·exact hown'.apart b hb hS
   ·rcases hst.new b hS with h1 | h1 | h1
    ·exact hr.own.right.apart b hb h1.1
    ·have := hr.own.right.lt b hb; omega
    ·rcases List.mem_cons.1 h1 with rfl | h1
     ·exact hlr hb
     ·exact hr.own.disj b h1 hb
  ·intro p hp'
   rcases List.mem_append.1 hp' with hp' | hp'
   ·exact hown'.has p hp'
   ·have hk' : p.1 ∈ keys Hr := List.mem_map.2 ⟨p, hp', rfl⟩
    have h1 := hown1.right.has p hp'
    exact h1.mono (hst.keep _ h1.lt (fun h => by
     rcases List.mem_cons.1 h with h | h
     ·exact hlr (h ▸ hk')
     ·exact hr.own.disj _ h hk')) hm
 have hmine : ∀ b ∈ keys (H' ++ Hr), b ∈ K.F0 ∨ K.w0.heap.size ≤ b := fun b hb => by
  rw [Ql] at hb
  rcases List.mem_append.1 hb with hb | hb
  ·rcases hkeys b hb with h1 | h1
   ·exact hr.mine b (by rw [Ql]; exact List.mem_append_left _ h1)
   ·have := hr.step.size; exact .inr (by omega)
  ·exact hr.mine b (by rw [Ql]; exact List.mem_append_right _ hb)
 have henv : ZR S' w' t a := fun k => (hsh (hr.env k)).mono hm
 have hmarks : Mks K.D K.mb a.defers w' := hr.defers.marks.step fun D h3 => hobj D _ (fun e => by rw [e, hrec] at h3; cases h3) h3 rfl
 have hlow := Nat.le_trans hr.defers.low hst.size
 have hsize : (a.put (some kd) (.bool go)).tmps.size = K.n := by simp [hr.size]
 cases go with
 | true =>
  refine hk _ _ _ _ (hT H' hΦ) ⟨S', hsize, Ext.put (dst := some kd) ⟨hlow, hmarks, fun j hj => ?_⟩ (by simpa [Xx] using hd), hst0.trans hst hkl, hownF, hmine, henv.put (dst := some kd) (by rw [hr.size]; exact hd) (.v _)⟩
  have hX := hr.defers.flags j fun u hu => hj u ((hsh hu).mono hm)
  rw [hK.fl] at hX ⊢
  match j, hX with
  | 0, _ => exact hrec'
  | 1, h =>
   have h : w.heap[l]? = some (.loop (VR r c false)) := h
   show w'.heap[l]? = some (.loop (VR r c false))
   rw [hrec] at h
   rw [← h]; exact hrec'
  | _ + 2, _ => trivial
 | false =>
  refine hk _ _ _ _ (hF H' hΦ) ⟨S', hsize, Ext.put (dst := some kd) (t := (K.n + 1, .v undef) :: (K.n, .any) :: t) ⟨hlow, hmarks, fun j hj => ?_⟩ (by simpa [Xx] using hd), hst0.trans hst hkl, hownF, hmine, ?_⟩
  ·rw [hK.fl]
   match j, hj with
   | 0, hj =>
    have := hj (.bool true) (by
     have : Env.get ((K.n + 1, .v undef) :: (K.n, .any) :: t) (K.n + 0) = .any := by simp [Env.get, Z6 (show ¬ K.n + 1 = K.n by omega)]
     rw [this]; exact .any _)
    simp [undef] at this
   | 1, _ => exact hrec'
   | _ + 2, _ => trivial
  ·refine ZR.put (dst := some kd) (t := (K.n + 1, .v undef) :: (K.n, .any) :: t) (fun k => ?_) (by rw [hr.size]; exact hd) (.v _)
   by_cases h1 : k = K.n + 1
   ·subst h1
    have : Env.get ((K.n + 1, .v undef) :: (K.n, .any) :: t) (K.n + 1) = .v undef := by simp [Env.get]
    rw [this, Array.getD_eq_getD_getElem?, Array.getElem?_eq_none (by rw [hr.size]; omega)]
    exact .v _
   ·by_cases h2 : k = K.n
    ·subst h2
     have : Env.get ((K.n + 1, .v undef) :: (K.n, .any) :: t) K.n = .any := by simp [Env.get, Z6 (show ¬ K.n + 1 = K.n by omega)]
     rw [this]; exact .any _
    ·have : Env.get ((K.n + 1, .v undef) :: (K.n, .any) :: t) k = t.get k := by simp [Env.get, Z6 (show ¬ K.n + 1 = k by omega), Z6 (show ¬ K.n = k by omega)]
     rw [this]; exact henv k
theorem Pf {N : Env → Qd → Prop} {l : Nat} {r : Loop} {c : Code} {x : Operand} {xs : Array Operand} {ats : Array TypeId} {ds : List T} {Hx Hr : Qd} {Φ : Bool → Qd → Prop} {tp : TypeId} {pos : String} {aft : Array Edge} {kd : Tmp} {ops : Array Oper} {i : Nat} {ol : List Oper}
  (hY : Lp K.P l r c K.S0 K.w0 ds Hx Φ) (hp : H.Perm (Hx ++ Hr)) (hlen : ds.length = r.params.size) (hK : ItK K l r c)
  (hT : ∀ H', Φ true H' → Qf K ops (i + 1) ol ((kd, .v (.bool (decide True))) :: t) (H' ++ Hr) N) (hF : ∀ H', Φ false H' → Qf K ops (i + 1) ol ((kd, .v (.bool (decide False))) :: (K.n + 1, .v undef) :: (K.n, .any) :: t) (H' ++ Hr) N)
  (hflag : t.get K.n = .v undef := by exact zG) (hx : t.ev x = .v (.func (.yield l) #[] #[]) := by exact zl) (ha : EvL t xs.toList ds := by exact ze) (hd : Nat.blt kd K.n = true := by rfl) :
  Qf K ops i (⟨some kd, .call ⟨.value x, xs, ats⟩, tp, pos, aft, none⟩ :: ol) t H N := Vj rfl (Ij hY hp hlen hK hflag hx ha hd (fun H' h => hT H' h) (fun H' h => hF H' h))
theorem WR {α : Type} {n : Nat} {Sd Sp : List α → Prop} {I Ix : List α → Qd → Prop} {t : Env} {H : Qd} {xs : List α} (h1 : Sd xs) (h2 : I xs H) (h : t.get n = .v undef := by exact zG) : C1 n Sd Sp I Ix .normal t H := ⟨H, kR, .inl ⟨h, xs, h1, h2⟩⟩
theorem OT {α : Type} {n : Nat} {Sd Sp : List α → Prop} {I Ix : List α → Qd → Prop} {t : Env} {H : Qd} {pre : List α} (h1 : Sp pre) (h2 : Ix pre H) (h : t.get (n + 1) = .v undef := by exact zG) : C1 n Sd Sp I Ix .ret t H := ⟨H, kR, .inr ⟨h, pre, h1, h2⟩⟩
end
end Go.Cap
