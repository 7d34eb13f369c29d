/-
  frames: Frame, One, Scan.
-/
import Derived.Test.YtjbokbikkcfjjaaGreatAaq
set_option maxRecDepth 16000
set_option maxHeartbeats 8000000
set_option linter.all false
namespace Go.Proofs.YtjbokbikkcfjjaaGreat
open Go.Cap
attribute [local irreducible] POp Qi SO EOp Sim FnH T.gp
def QL (x : List UInt8) : List UInt8 := Wn x.length ++ (Wn (Ox x) ++ x)
theorem J4 (n : Int) : (Wn n).length = 4 := rfl
theorem YA (x : List UInt8) : (QL x).length = 8 + x.length := by simp [QL, J4]; omega
theorem Oj {x : List UInt8} (hx : x.length ≤ 4194304) (r : List UInt8) : WQ (QL x ++ r) = x.length := by
 unfold QL
 rw [List.append_assoc]
 exact L6 (by omega) (by omega) _
theorem Ok (x : List UInt8) (r : List UInt8) : WQ ((QL x ++ r).drop 4) = Ox x := by
 unfold QL
 rw [List.append_assoc, List.drop_left' (J4 _), List.append_assoc]
 exact L6 (VO x).1 (VO x).2 _
theorem DC (x r : List UInt8) : (QL x ++ r).drop 8 = x ++ r := by
 unfold QL
 rw [List.append_assoc, List.append_assoc, ← List.append_assoc, List.drop_left' (by rw [List.length_append]; rfl)]
theorem Ol (f : Bool) (x : List UInt8) (hx : x.length ≤ 4194304) : FnP Tryz.prog 166 [.sl f (x.map eb)] (fun r => r = .tup [bl (QL x), ei 0]) := by
 have hr := VO x
 obtain ⟨c, hc⟩ : ∃ c : Nat, Ox x = (c : Int) := ⟨(Ox x).toNat, by omega⟩
 have h1 := IZ x.length
 have h2 := RL f x (by omega)
 have h3 := IZ c
 rw [← hc] at h3
 have h4 := DP true [(true, Wn x.length), (true, Wn c), (f, x)] (by simp [Vp, J4]; omega) (by simp)
 rw [← hc] at h4
 refine fe Tryz.func166 fun S0 w0 => ?_
 show Sim _ _ [(0, .sl f (x.map eb))] _ _
 refine zC ?_
 refine cr <| s_ Qb <| s_ Qb <| zC ?_
 refine cr <| s_ Qa ?_
 (first | refine s_ QS ?_ | refine s_ QP ?_)
 refine s_ XX <| zC ?_
 refine ci ?_ ?_
 ·intro h; exact absurd h (by simp only [List.length_map]; omega)
 intro _
 refine zC ?_
 refine cr <| s_ Qa ?_
 (first | refine s_ QS ?_ | refine s_ QP ?_)
 refine s_ YG ?_
 rw [List.length_map, VX (a := ((x.length : Nat) : Int)) (by omega) (by omega)]
 refine s_ (Qr (h1)) <| s_ Qa <| s_ (Qr (h2)) <| s_ (Qr (h3)) <| s_ Qa <| s_ XS <| s_ (Qr (h4)) <| s_ Qb <| s_ Qb <| zC ?_
 refine zE ?_
 exact Le.of_eq (by simp [Yv, Vp, bl, QL]; rfl)
theorem Kv (x : List UInt8) (hx : x.length ≤ 4194304) : FnP Tryz.prog 93 [.sl false ((QL x).map eb)] (fun r => r = .tup [bl x, ei 0]) := by
 have hlen := YA x
 have h1 := Ji false (QL x) (by omega)
 have hn := Oj hx []
 have hcr := Ok x []
 have hdr := DC x []
 rw [List.append_nil] at hn hcr hdr
 rw [hn] at h1
 rw [List.append_nil] at hdr
 have h2 := RL false x (by omega)
 have h3 := Ji false ((QL x).drop 4) (by rw [List.length_drop]; omega)
 rw [hcr] at h3
 have h4 := Jo false x (by omega)
 refine fe Tryz.func93 fun S0 w0 => ?_
 show Sim _ _ [(0, .sl false ((QL x).map eb))] _ _
 refine zC ?_
 refine cr <| s_ Qb <| s_ Qb <| zC ?_
 refine cr <| s_ Qa ?_
 (first | refine s_ QS ?_ | refine s_ QP ?_)
 refine s_ QN <| zC ?_
 refine ci ?_ ?_
 ·intro h; exact absurd h (by simp only [List.length_map]; omega)
 intro _
 refine zC ?_
 refine ca [0, 1, 2, 3, 4, 5] [] <| a_ (fun _ => Qa) <| a_ (fun _ => Qr (h1)) <| a_ (fun _ => Qa) <| a_ (fun _ => WM (i := 8) (xs := (QL x).map eb) (ys := x.map eb) (by rw [← hdr, List.map_drop]; rfl)) <| a_ (fun _ => Qb) <| a_ (fun _ => Qb) ?_
 apply an
 refine zC ?_
 refine cr <| s_ Qa <| s_ XX <| s_ Qb <| zC ?_
 refine ci ?_ ?_
 ·intro h; exact absurd h (by omega)
 intro _
 refine zC ?_
 refine cr <| s_ Qa <| s_ YG ?_
 rw [ZI (a := ((x.length : Nat) : Int)) (by omega) (by omega)]
 refine s_ Qa ?_
 (first | refine s_ QS ?_ | refine s_ QP ?_)
 refine s_ XX <| s_ Qb <| zC ?_
 refine ci ?_ ?_
 ·intro h; exact absurd h (by simp only [List.length_map]; omega)
 intro _
 refine zC ?_
 refine cr <| s_ Qa <| s_ YG ?_
 rw [ZI (a := ((x.length : Nat) : Int)) (by omega) (by omega)]
 refine s_ Qa ?_
 (first | refine s_ QS ?_ | refine s_ QP ?_)
 refine s_ QN <| s_ Qb <| zC ?_
 refine ci ?_ ?_
 ·intro h; exact absurd h (by simp only [List.length_map]; omega)
 intro _
 refine zC ?_
 refine ca [0, 1, 2, 3, 4, 5, 6] [] <| a_ (fun _ => Qa) <| a_ (fun _ => Qr (h2)) <| a_ (fun _ => Qa) <| a_ (fun _ => WM (i := 4) (xs := (QL x).map eb) (ys := ((QL x).drop 4).map eb) (by rw [List.map_drop]; rfl)) <| a_ (fun _ => Qr (h3)) <| a_ (fun _ => XE) <| a_ (fun _ => Qb) ?_
 apply an
 refine zC ?_
 refine ci ?_ ?_
 ·intro h; exact absurd rfl h
 intro _
 refine zC ?_
 refine cr <| s_ Qa <| s_ (Qr (h4)) <| s_ Qb <| s_ Qb <| zC ?_
 refine zE ?_
 exact Le.refl _
def tBl (l : List (List UInt8)) : T := .sl false (l.map bl)
def OBl (l : List (List UInt8)) (v : Value) (Hs : Qd) : Prop := OSl tBB 1 (l.map bl) v Hs
theorem bl1 (l : List (List UInt8)) : ∀ x ∈ l.map bl, x.cells.length = 1 := zk
theorem SD (l : List (List UInt8)) : ∀ x ∈ l.map bl, x.solid := JX _ (fun _ => .inl rfl) _
theorem OBl.len {l : List (List UInt8)} {v : Value} {Hs : Qd} (h : OBl l v Hs) : ∃ p c, v = .slice p (l.map bl).length c := OSl.len h
def R2 (t : List UInt8) : Prop := t.length < 8 ∨ 4194304 < WQ t ∨ (t.length : Int) - 8 < WQ t
theorem Bp (l : List (List UInt8)) {k : Nat} (hk : k < l.length) : (l.take (k + 1)).flatMap QL = (l.take k).flatMap QL ++ QL l[k] := by
 rw [List.take_succ_eq_append_getElem hk, List.flatMap_append]
 simp
theorem Rx (l : List (List UInt8)) (k : Nat) (t : List UInt8) : (l.flatMap QL ++ t).drop ((l.take k).flatMap QL).length = (l.drop k).flatMap QL ++ t := by
 conv => lhs; rw [← List.take_append_drop k l]
 rw [List.flatMap_append, List.append_assoc, List.take_append_drop, List.drop_left' rfl]
theorem P9 (l : List (List UInt8)) (k : Nat) : ((l.take k).flatMap QL).length ≤ (l.flatMap QL).length := by
 conv => rhs; rw [← List.take_append_drop k l]
 rw [List.flatMap_append, List.length_append]; omega
theorem Pe (l : List (List UInt8)) (tl : List UInt8) (hst : R2 tl) (hl : ∀ x ∈ l, x.length ≤ 4194304) (hb : (l.flatMap QL ++ tl).length ≤ 100000000) : FnP Tryz.prog 95 [.sl false ((l.flatMap QL ++ tl).map eb)] (fun r => r = .tup [tBl l, ei (l.flatMap QL).length]) := by
 obtain ⟨B, hB⟩ : ∃ B, B = l.flatMap QL ++ tl := ⟨_, rfl⟩
 rw [← hB] at hb ⊢
 have hcnt : l.length ≤ 100000000 := by
  have : l.length ≤ (l.flatMap QL).length := by
   clear hl hB
   induction l with
   | nil => simp
   | cons x l ih => rw [List.flatMap_cons, List.length_append, YA, List.length_cons]; omega
  rw [hB, List.length_append] at hb
  omega
 refine FnH.give (Φ := fun r H => ∃ v, r = .tup [.v v, ei (l.flatMap QL).length] ∧ OBl l v H) ?_ (by rintro r H ⟨v, rfl, ho⟩; exact QJ.tup (Qk.cons (OSl.lend ho (fun _ h => h) (bl1 _) (SD _)) (Qk.cons (QJ.le (Le.refl _)) Qk.nil)))
 refine fe Tryz.func95 fun S0 w0 => ?_
 show Sim _ _ [(0, .sl false (B.map eb))] _ _
 refine zC ?_
 refine cr <| s_ Qb <| s_ Qb <| zC ?_
 apply Qm (σ := Nat × Value × Qd) (ok := fun s => s.1 ≤ l.length ∧ OBl (l.take s.1) s.2.1 s.2.2) (env := fun s => [(2, .v s.2.1), (3, ei ((l.take s.1).flatMap QL).length), (0, .sl false (B.map eb))]) (heap := fun s => s.2.2) (μ := fun s => l.length + 1 - s.1) (s0 := (0, .slice none 0 0, []))
 ·exact ⟨Nat.zero_le _, YE⟩
 ·exact eL
 ·exact kR
 rintro ⟨k, v, H⟩ ⟨hk, ho⟩
 simp only at hk ho
 show Sim _ _ [(2, .v v), (3, ei ((l.take k).flatMap QL).length), (0, .sl false (B.map eb))] H _
 have hsp := Rx l k tl
 rw [← hB] at hsp
 have hle := P9 l k
 have hBl : (l.flatMap QL).length ≤ B.length := by rw [hB, List.length_append]; omega
 obtain ⟨p, c, rfl⟩ := ho.len
 by_cases hkl : k < l.length
 ·obtain ⟨x, hx⟩ : ∃ x, x = l[k] := ⟨_, rfl⟩
  obtain ⟨rest, hrest⟩ : ∃ rest, rest = (l.drop (k + 1)).flatMap QL ++ tl := ⟨_, rfl⟩
  have htodo : (l.drop k).flatMap QL ++ tl = QL x ++ rest := by
   rw [List.drop_eq_getElem_cons hkl, List.flatMap_cons, List.append_assoc, ← hrest, ← hx]
  rw [htodo] at hsp
  have hxl : x.length ≤ 4194304 := hl x (by rw [hx]; exact List.getElem_mem hkl)
  have hfl := YA x
  have h1 := Ji false (QL x ++ rest) (by rw [List.length_append]; omega)
  rw [Oj hxl rest] at h1
  have h2 := RL false x (by omega)
  have h3 := Ji false ((QL x ++ rest).drop 4) (by rw [List.length_drop, List.length_append]; omega)
  rw [Ok x rest] at h3
  have h4 := Jo false x (by omega)
  have hnx := Bp l hkl
  rw [← hx] at hnx
  have htot : (QL x ++ rest).length ≤ 100000000 := by rw [← hsp, List.length_drop]; omega
  refine zC ?_
  refine cr <| s_ Qa <| s_ Qa <| s_ (WM (i := ((((l.take k).flatMap QL).length : Nat) : Int)) (xs := B.map eb) (ys := (QL x ++ rest).map eb) (by rw [← hsp, List.map_drop]; rfl)) <| s_ Qb <| zC ?_
  refine cr <| s_ Qa ?_
  (first | refine s_ QS ?_ | refine s_ QP ?_)
  refine s_ QN <| zC ?_
  refine ci ?_ ?_
  ·intro h; exact absurd h (by simp only [List.length_map, List.length_append]; omega)
  intro _
  refine zC ?_
  refine cr <| s_ Qa <| s_ (Qr (h1)) <| s_ Qb <| zC ?_
  refine zC ?_
  refine cr <| s_ Qa <| s_ XX <| s_ Qa <| gF (fun hg => Qa) ?_
  refine gF (fun hg => YG (hx := u_ hg)) ?_
  refine gF (fun hg => Qa) ?_
  (first | refine gF (fun hg => QS (hx := u_ hg)) ?_ | refine gF (fun hg => QP (hx := u_ hg)) ?_)
  refine gF (fun hg => Yr (hx := u_ hg)) ?_
  refine gF (fun hg => XX (hx := u_ hg) (hy := u_ hg)) ?_
  refine s_ XC <| zC ?_
  refine ci ?_ ?_
  ·intro h
   rw [ZI (a := ((x.length : Nat) : Int)) (by omega) (by omega)] at h
   exact absurd h (by simp only [List.length_map, List.length_append]; omega)
  intro _
  refine zC ?_
  refine cr <| s_ Qa <| s_ Qa <| s_ L0 ?_
  rw [VX (a := 8 + ((x.length : Nat) : Int)) (by omega) (by omega)]
  refine s_ (Ko (i := 8) (j := 8 + ((x.length : Nat) : Int)) (xs := (QL x ++ rest).map eb) (ys := x.map eb) (by
   rw [← List.map_drop, ← List.map_take, show (8 : Int).toNat = 8 from rfl, DC, show (8 + ((x.length : Nat) : Int)).toNat - 8 = x.length by omega, List.take_left' rfl]) (h2 := by simp only [List.length_map, List.length_append]; omega)) ?_
  refine s_ Qb <| zC ?_
  refine zC ?_
  refine ca [0, 1, 2, 3, 4, 5] [] <| a_ (fun _ => Qa) <| a_ (fun _ => Qr (h2)) <| a_ (fun _ => Qa) <| a_ (fun _ => WM (i := 4) (xs := (QL x ++ rest).map eb) (ys := ((QL x ++ rest).drop 4).map eb) (by rw [List.map_drop]; rfl) (h2 := by simp only [List.length_map, List.length_append]; omega)) <| a_ (fun _ => Qr (h3)) <| a_ (fun _ => XE) ?_
  apply an
  refine zC ?_
  refine ci ?_ ?_
  ·intro h; exact absurd rfl h
  intro _
  refine zC ?_
  refine cr <| s_ Qa <| s_ Qa <| s_ (Qr (h4)) <| s_ XS ?_
  refine Ot (ho := ho) (A := []) (B := []) (ys := [bl x]) (f := true) (bl1 _) (fun v' Hs' ho' => ?_) (hH := by simp)
  obtain ⟨p', c', rfl⟩ := ho'.len
  refine s_ Qb <| zC ?_
  refine cr <| s_ Qa <| s_ Qa <| s_ YG ?_
  rw [ZI (a := ((x.length : Nat) : Int)) (by omega) (by omega)]
  refine s_ QQ <| s_ QQ <| s_ Qb <| zC ?_
  refine ⟨(k + 1, .slice p' (List.map bl (List.take k l) ++ [bl x]).length c', Hs'), ⟨by simp only; omega, ?_⟩, (by simp only []; omega), ⟨?_, ?_, eL⟩, by simp only [List.nil_append, List.append_nil]; exact kR⟩
  ·simp only
   rw [List.take_succ_eq_append_getElem hkl, ← hx]
   unfold OBl
   rw [List.map_append]
   exact ho'
  ·apply Qh; (exact zG)
   exact Le.refl _
  ·apply Qh; (exact zG)
   simp only
   rw [hnx, List.length_append, hfl]
   exact Le.of_eq (by simp [ei])
 ·have hke : k = l.length := by omega
  subst hke
  rw [List.drop_length, List.flatMap_nil, List.nil_append] at hsp
  rw [List.take_length] at hsp hle ho
  rw [List.take_length]
  have hbb : B.length = (l.flatMap QL).length + tl.length := by rw [hB, List.length_append]
  refine zC ?_
  refine cr <| s_ Qa <| s_ Qa <| s_ (WM (i := (((l.flatMap QL).length : Nat) : Int)) (xs := B.map eb) (ys := tl.map eb) (by rw [← hsp, List.map_drop]; rfl)) <| s_ Qb <| zC ?_
  refine cr <| s_ Qa ?_
  (first | refine s_ QS ?_ | refine s_ QP ?_)
  refine s_ QN <| zC ?_
  refine ci ?_ ?_
  ·intro _
   refine zC ?_
   refine cr <| s_ Qa <| s_ Qa <| s_ Qb <| s_ Qb <| zC ?_
   refine zR ?_
   exact rh kR ⟨_, rfl, ho⟩ (Le.refl _)
  intro h8
  have h8' : 8 ≤ tl.length := by simp only [List.length_map] at h8; omega
  have hr := Rc tl (by omega)
  have h1 := Ji false tl (by omega)
  refine zC ?_
  refine cr <| s_ Qa <| s_ (Qr (h1)) <| s_ Qb <| zC ?_
  refine zC ?_
  refine cr <| s_ Qa <| s_ XX <| s_ Qa <| gF (fun hg => Qa) ?_
  refine gF (fun hg => YG (hx := u_ hg)) ?_
  refine gF (fun hg => Qa) ?_
  (first | refine gF (fun hg => QS (hx := u_ hg)) ?_ | refine gF (fun hg => QP (hx := u_ hg)) ?_)
  refine gF (fun hg => Yr (hx := u_ hg)) ?_
  refine gF (fun hg => XX (hx := u_ hg) (hy := u_ hg)) ?_
  refine s_ XC <| zC ?_
  refine ci ?_ ?_
  ·intro _
   refine zC ?_
   refine cr <| s_ Qa <| s_ Qa <| s_ Qb <| s_ Qb <| zC ?_
   refine zR ?_
   exact rh kR ⟨_, rfl, ho⟩ (Le.refl _)
  ·intro h
   refine absurd ?_ h
   rw [ZI (by omega) (by omega), List.length_map]
   rcases hst with h | h | h
   ·omega
   ·exact .inl h
   ·exact .inr h
end Go.Proofs.YtjbokbikkcfjjaaGreat
namespace Go.Cap
section
variable {K : Ctx} {t : Env} {H Hs Hr : Qd} {N : Env → Qd → Prop} {ops : Array Oper} {i j kg : Nat} {l : List Oper} {ty ty' tp : TypeId} {pos : String} {aft : Array Edge} {kd : Tmp} {p : Prop} {ip : Decidable p}
theorem HY {dst : Option Tmp} {op : Op} {want b0 : Bool} (hj : (ops[j]?).bind (·.dst) = some kg) (hb : t.get kg = .v (.bool b0)) (hw : b0 = want) (h : EOp K t H ⟨dst, op, tp, pos, aft, some (j, want)⟩ (fun t' H' => Qi K ops (i + 1) l t' H' N)) :
  Qi K ops i (⟨dst, op, tp, pos, aft, some (j, want)⟩ :: l) t H N := by
 intro hl a w Q hr hq
 rw [UD]
 unfold wpOpIn
 have hv : a.tmps.getD kg undef = .bool b0 := by obtain ⟨S, hr⟩ := hr; have := hr.env kg; rw [hb] at this; exact this.v_eq
 simp only [ML hl, (XA (o := ⟨dst, op, tp, pos, aft, some (j, want)⟩) rfl hj hv).1 (by rw [hw]), if_true]
 exact h a w hr _ Q fun t' H' a' w' hn hr' => hn (WD hl) a' w' Q hr' hq
theorem IY {f : FuncId} {xs : Array Operand} {ats : Array TypeId} {args : List T} {Φ : T → Qd → Prop} (hp : ¬ p) (hf : FnH K.P f args Hs Φ) (hP : H.Perm (Hs ++ Hr)) (hn : ∀ r H', Φ r H' → Qi K ops (i + 1) l ((kd, r) :: t) (H' ++ Hr) N) (hj : (ops[j]?).bind (·.dst) = some kg := by rfl) (hb : t.get kg = .v (.bool (decide p)) := by exact zG)
  (ha' : EvL t xs.toList args) (hc : QT K.P f = true := by rfl) (hd : XO (some kd) K.n = true := by rfl) : Qi K ops i (⟨some kd, .call ⟨.value (.func f), xs, ats⟩, tp, pos, aft, some (j, false)⟩ :: l) t H N :=
 HY hj hb (by simpa using hp) (Zk hf hP hc ha' hd hn)
theorem Sw {x : Operand} {n : Nat} {d : T} {by_ : Nat} {k : IntKind} [hz : QB K.P ty d by_] (h : ∀ b, (∀ c ∈ keys H, ¬ c = b) → Qi K ops (i + 1) l ((kd, .v (.slice (some ⟨b, 0, none⟩) n n)) :: t) ((b, ⟨Xc K.P ty, (List.replicate n d.cells).flatten, n * d.cells.length⟩) :: H) N)
  (hx : t.ev x = .v (.int k n) := by exact zl) (hb : n * by_ ≤ 281474976710656 := by exact zo) (hm : (n : Int) ≤ 9223372036854775807 := by exact zo) (hd : Nat.blt kd K.n = true := by rfl) : Qi K ops i (⟨some kd, .makeSlice ty x x, tp, pos, aft, none⟩ :: l) t H N :=
 Yw (Ni hx hx (by omega) (Int.le_refl _) (by rw [Int.toNat_natCast]; exact hb) hm hd (by simpa using h))
theorem KH {x y : Operand} {b o n c m : Nat} {ty0 : TypeId} {cells : List T} {f : Bool} {xs : List T} {kk : Nat} {H' : Qd} [hs : Zv K.P ty kk] (h : Qi K ops (i + 1) l ((kd, .v (.int .i64 (min xs.length n : Nat))) :: t) H' N) (ho : o + min xs.length n * kk ≤ cells.length) (hx : t.ev x = .v (.slice (some ⟨b, o, none⟩) n c) := by exact zl) (hy : t.ev y = .sl f xs := by exact zl)
  (hi : JM H (b, ⟨ty0, cells, m⟩) (b, ⟨ty0, lay cells o ((xs.take (min xs.length n)).flatMap T.cells), m⟩) H' := by exact zr) (hp : Nat.blt 0 kk = true := by rfl) (hk : ∀ x ∈ xs, x.cells.length = kk := by exact zk) (hl : ∀ x ∈ xs, Qx x.cells = true := by exact zf) (hd : Nat.blt kd K.n = true := by rfl) :
  Qi K ops i (⟨some kd, .call ⟨.builtin .copy, #[x, y], #[ty, ty']⟩, tp, pos, aft, none⟩ :: l) t H N := Yw (Bv hx hy hi hp hk hl ho hd h)
end
end Go.Cap
namespace Go.Proofs.YtjbokbikkcfjjaaGreat
open Go.Cap
attribute [local irreducible] POp Qi SO EOp Sim FnH T.gp
theorem Wv (l : List UInt8) : (l.map eb).flatMap T.cells = l.map eb := Bs eb (fun _ => rfl) l
theorem PW (Z A B : List T) (h : Z.length = A.length + B.length) : lay (lay Z 0 A) A.length B = A ++ B := by
 unfold lay
 simp only [List.take_zero, List.nil_append, Nat.zero_add]
 rw [List.take_left' rfl, List.drop_of_length_le (l := A ++ Z.drop A.length) (by simp; omega), List.append_nil]
theorem L1 (l : List UInt8) (hl : l.length ≤ 1000000000000) : FnP Tryz.prog 73 [bl l] (fun r => r = bl l) := by
 refine FnH.give (Φ := fun r H => ∃ v, r = .v v ∧ OB l v H) ?_ (by rintro r H ⟨v, rfl, ho⟩; exact ho.lend fun _ h => h)
 refine fe Tryz.func73 fun S0 w0 => ?_
 show Sim _ _ [(0, .sl false (l.map eb))] _ _
 refine zC ?_
 refine cr <| s_ Qb <| zC ?_
 refine cr <| s_ Qa ?_
 (first | refine s_ QS ?_ | refine s_ QP ?_)
 refine Sw (fun b6 _ => ?_)
 refine s_ Qb <| zC ?_
 refine cr <| s_ Qa <| s_ Qa ?_
 refine KH ?_ ?_
 rotate_left
 ·simp [ZM, T.cells, Value.cells]
 refine zC ?_
 refine cr <| s_ Qa <| s_ Qb <| zC ?_
 refine zR ?_
 refine rh kR ⟨_, rfl, .inr ⟨b6, (l.map eb).length, rfl, Nat.le_refl _, ?_⟩⟩ (Le.refl _)
 rw [Nat.min_self, List.take_length, Wv, Dr _ _ (by rw [ZM]; simp [T.cells, Value.cells])]
 rfl
structure Dk where
 left : Int
 odd : Int
 dead : Bool
 log : List UInt8
 synced : Int
 snap : List UInt8
 room : Int
def tD : TypeId := 89
def dkC (d : Dk) : List T := [ei d.left, ei d.odd, eB d.dead, bl d.log, ei d.synced, bl d.snap, ei d.room]
def DkH (b : Nat) (d : Dk) : Qd := [(b, ⟨tD, dkC d, 7⟩)]
structure VV (d : Dk) : Prop where
 l0 : 0 ≤ d.left
 l1 : d.left ≤ 1000000000
 r0 : 0 ≤ d.room
 r1 : d.room ≤ 16777216
 used : ((d.log.length + d.snap.length : Nat) : Int) ≤ 100000000
theorem ZZ (b : Bool) : ∃ (p : Prop) (ip : Decidable p), b = @decide p ip := ⟨b = true, inferInstance, by simp⟩
def Xu (d : Dk) : Dk × Bool := if 0 < d.left then ({ d with left := d.left - 1, dead := decide (d.left - 1 = 0) }, !decide (d.left - 1 = 0)) else (d, !d.dead)
theorem V2 (b : Nat) (d : Dk) (hd : VV d) : FnH Tryz.prog 128 [pW b] (DkH b d) (fun r H => r = eB (Xu d).2 ∧ H = DkH b (Xu d).1) := by
 have h1 := hd.l1
 obtain ⟨left, odd, dead, log, synced, snap, room⟩ := d
 obtain ⟨p, ip, rfl⟩ := ZZ dead
 simp only at h1
 refine fe Tryz.func128 fun S0 w0 => ?_
 show Sim _ _ [(0, pW b)] (DkH b _) _
 unfold DkH dkC eB
 refine zC ?_
 refine cr <| s_ Qb <| zC ?_
 refine cr <| s_ Qa <| s_ Qe <| s_ Qc <| s_ Ql <| s_ XX <| zC ?_
 refine ci ?_ ?_
 ·intro hlt
  have hlt' : 0 < left := hlt
  refine zC ?_
  refine cr <| s_ Qa <| s_ Qe <| s_ Qc <| s_ Ql <| s_ Yr <| s_ Qe <| s_ Qc <| Qn ?_
  refine zC ?_
  refine cr <| s_ Qa <| s_ Qa <| s_ Qe <| s_ Qc <| s_ Ql <| s_ Q5 <| s_ Qe <| s_ Qc <| Qn ?_
  refine zC ?_
  refine cr <| s_ Qa <| s_ Qe <| s_ Qc <| s_ Ql <| s_ Yb <| s_ Qb <| zC ?_
  refine zR ?_
  refine rh kR (d := eB (!decide (left - 1 = 0))) ?_ ?_
  ·simp only [Xu, if_pos hlt']
   exact ⟨rfl, rfl⟩
  ·exact Le.of_eq (by simp [Yv, eB])
 ·intro hlt
  have hlt' : ¬ 0 < left := hlt
  refine zC ?_
  refine cr <| s_ Qa <| s_ Qe <| s_ Qc <| s_ Ql <| s_ Yb <| s_ Qb <| zC ?_
  refine zR ?_
  refine rh kR (d := eB (!decide p)) ?_ ?_
  ·simp only [Xu, if_neg hlt']
   exact ⟨rfl, trivial⟩
  ·exact Le.of_eq (by simp [Yv, eB])
theorem Jx (d : Dk) : ∃ left dead done, Xu d = (⟨left, d.odd, dead, d.log, d.synced, d.snap, d.room⟩, done) := by
 unfold Xu
 split
 ·exact ⟨_, _, _, rfl⟩
 ·exact ⟨_, _, _, rfl⟩
def VT (d : Dk) (x : List UInt8) : Dk × Int := if d.dead then (d, 20) else if d.room - d.log.length - d.snap.length < x.length then (d, 19) else
 ({ (Xu d).1 with log := d.log ++ x }, if (Xu d).2 then 0 else 20)
theorem Ov (b : Nat) (d : Dk) (x : List UInt8) (hd : VV d) (hx : x.length ≤ 1000000000) : FnH Tryz.prog 167 [pW b, bl x] (DkH b d) (fun r H => r = ei (VT d x).2 ∧ H = DkH b (VT d x).1) := by
 have hr0 := hd.r0
 have hr1 := hd.r1
 have hu := hd.used
 have hsf := V2 b d hd
 obtain ⟨left1, dead1, done, hsp⟩ := Jx d
 obtain ⟨left, odd, dead, log, synced, snap, room⟩ := d
 obtain ⟨p, ip, rfl⟩ := ZZ dead
 simp only at hr0 hr1 hu hsp
 rw [hsp] at hsf
 obtain ⟨q, iq, rfl⟩ := ZZ done
 refine fe Tryz.func167 fun S0 w0 => ?_
 show Sim _ _ [(0, pW b), (1, .sl false (x.map eb))] [(b, ⟨tD, [ei left, ei odd, .v (.bool (decide p)), .sl false (log.map eb), ei synced, .sl false (snap.map eb), ei room], 7⟩)] _
 refine zC ?_
 refine cr <| s_ Qb <| zC ?_
 refine cr <| s_ Qa <| s_ Qe <| s_ Qc <| s_ Qc <| s_ Ql <| s_ Qb <| zC ?_
 refine ci ?_ ?_
 ·intro hp
  refine zC ?_
  refine cr <| s_ Qb <| zC ?_
  refine zR ?_
  refine rh kR ⟨?_, ?_⟩ (Le.refl _)
  ·simp [VT, hp]; rfl
  ·simp [VT, hp]; rfl
 intro hp
 refine zC ?_
 refine ca [0, 1, 2, 3, 4, 5, 6, 7, 8, 9, 10, 11, 12, 13, 14, 15, 16, 17, 18, 19] [] <| a_ (fun _ => Qa) ?_
 (first | refine a_ (fun _ => QS) ?_ | refine a_ (fun _ => QP) ?_)
 refine a_ (fun _ => Qa) <| a_ (fun _ => Qe) <| a_ (fun _ => Qc) <| Qv ?_
 refine a_ (fun _ => Qa) <| a_ (fun _ => Qe) <| a_ (fun _ => Qc) <| Qv ?_
 (first | refine a_ (fun _ => QS) ?_ | refine a_ (fun _ => QP) ?_)
 refine a_ (fun _ => Yr) <| a_ (fun _ => Qa) <| a_ (fun _ => Qe) <| a_ (fun _ => Qc) <| Qv ?_
 (first | refine a_ (fun _ => QS) ?_ | refine a_ (fun _ => QP) ?_)
 refine a_ (fun _ => Yr) <| a_ (fun _ => XX) <| a_ (fun _ => Qb) ?_
 apply an
 refine zC ?_
 refine ci ?_ ?_
 ·intro hf
  simp only [List.length_map] at hf
  refine zC ?_
  refine cr <| s_ Qb <| zC ?_
  refine zR ?_
  refine rh kR ⟨?_, ?_⟩ (Le.refl _)
  ·simp [VT, hp, hf]; rfl
  ·simp [VT, hp, hf]; rfl
 intro hf
 simp only [List.length_map] at hf
 refine zC ?_
 refine cr <| s_ Qa <| s_ Qe <| s_ Qc ?_
 refine QY hsf (fun r H' ⟨hr1, hr2⟩ => ?_)
 subst hr1 hr2
 show Qi _ _ _ _ ((36, .v (.bool (decide q))) :: _) [(b, ⟨tD, [ei left1, ei odd, .v (.bool dead1), .sl false (log.map eb), ei synced, .sl false (snap.map eb), ei room], 7⟩)] _
 refine s_ Qb <| zC ?_
 refine cr <| s_ Qa <| s_ Qe <| s_ Qc <| s_ Ql ?_
 (first | refine s_ QS ?_ | refine s_ QP ?_)
 refine s_ Qa ?_
 (first | refine s_ QS ?_ | refine s_ QP ?_)
 refine s_ QQ ?_
 have hcast : (((log.map eb).length : Nat) : Int) + (((x.map eb).length : Nat) : Int) = ((log.length + x.length : Nat) : Int) := by simp
 rw [hcast]
 refine Sw (fun b6 _ => ?_)
 refine s_ Qb <| zC ?_
 refine cr <| s_ Qa <| s_ Qa <| s_ Qa <| s_ Qe <| s_ Qc <| s_ Ql ?_
 refine KH ?_ ?_
 rotate_left
 ·simp [ZM, T.cells, Value.cells]
 have hmin : min (log.map eb).length (log.length + x.length) = log.length := by simp
 rw [hmin, show ((log.map eb).take log.length).flatMap T.cells = log.map eb by rw [List.take_of_length_le (by simp), Wv]]
 obtain ⟨o, ho, hol, hsub⟩ : ∃ o, (o = log.length ∨ x = []) ∧ o + x.length ≤ log.length + x.length ∧ YV 1 (some ⟨b6, 0, none⟩) (log.length + x.length) ((log.length : Nat) : Int).toNat (log.length + x.length - ((log.length : Nat) : Int).toNat) = .slice (some ⟨b6, o, none⟩) x.length x.length := by
  by_cases hx0 : x = []
  ·subst hx0
   exact ⟨0, .inr rfl, by simp, by simp [YV]⟩
  ·have : x.length ≠ 0 := fun h => hx0 (List.length_eq_zero_iff.1 h)
   refine ⟨log.length, .inl rfl, by omega, ?_⟩
   simp only [YV, Int.toNat_natCast, Option.map_some]
   rw [if_neg (by omega), show log.length + x.length - log.length = x.length by omega]
   simp [Addr.add]
   intro h; simp [h]
 have hfin : lay (lay (List.replicate (log.length + x.length) (T.v (Value.int IntKind.u8 0)).cells).flatten 0 (log.map eb)) o (((x.map eb).take (min (x.map eb).length x.length)).flatMap T.cells) = (log ++ x).map eb := by
  have hz : ((List.replicate (log.length + x.length) (T.v (Value.int IntKind.u8 0)).cells).flatten).length = (log.map eb).length + (x.map eb).length := by simp [ZM, T.cells, Value.cells]
  rw [List.length_map, Nat.min_self, List.take_of_length_le (by simp), Wv, List.map_append]
  rcases ho with rfl | rfl
  ·have := PW _ (log.map eb) (x.map eb) hz
   rwa [List.length_map] at this
  ·simp only [List.map_nil, List.append_nil, List.length_nil, Nat.add_zero] at hz ⊢
   rw [Dr _ _ hz]
   simp [lay]
 refine s_ (Iu (d := T.v (.int .u8 0)) (i := ((log.length : Nat) : Int)) (p := some ⟨b6, 0, none⟩) (n := log.length + x.length) (c := log.length + x.length) (Nat.le_refl _) hsub) <| s_ Qa ?_
 refine KH ?_ ?_
 rotate_left
 ·rw [VI (by simp [ZM, T.cells, Value.cells])]
  simp [ZM, T.cells, Value.cells]; omega
 rw [hfin]
 refine zC ?_
 refine GQ 6 (bl (log ++ x)) (G := [_]) (H1 := [_]) ?_ (.refl _) ?_
 ·refine OB.lend (l := log ++ x) (Hs := [_]) (.inr ⟨b6, log.length + x.length, by simp, by simp, ?_⟩) (fun _ h => h)
  rw [Wv]; rfl
 unfold bl
 have hA : VT ⟨left, odd, decide p, log, synced, snap, room⟩ x = (⟨left1, odd, dead1, log ++ x, synced, snap, room⟩, if decide q then 0 else 20) := by
  unfold VT
  rw [if_neg (by simpa using hp), if_neg hf, hsp]
 rw [hA]
 refine zC ?_
 refine cr <| s_ Qa <| s_ Qa <| s_ Qe <| s_ Qc <| Qn ?_
 refine zC ?_
 refine cr <| s_ Qa <| s_ Yb <| zC ?_
 refine ci ?_ ?_
 ·intro hq
  refine zC ?_
  refine cr <| s_ Qb <| zC ?_
  refine zR ?_
  refine rh kR ⟨?_, ?_⟩ (Le.refl _)
  ·simp [hq]; rfl
  ·rfl
 ·intro hq
  refine zC ?_
  refine cr <| s_ Qb <| zC ?_
  refine zR ?_
  refine rh kR ⟨?_, ?_⟩ (Le.refl _)
  ·simp [Decidable.not_not.1 hq]; rfl
  ·rfl
def Uu (d : Dk) : Dk × Int := if d.dead then (d, 20) else if (Xu d).2 then ({ (Xu d).1 with synced := d.log.length }, 0) else ((Xu d).1, 20)
theorem N6 (b : Nat) (d : Dk) (hd : VV d) : FnH Tryz.prog 168 [pW b] (DkH b d) (fun r H => r = ei (Uu d).2 ∧ H = DkH b (Uu d).1) := by
 have hsf := V2 b d hd
 obtain ⟨left1, dead1, done, hsp⟩ := Jx d
 obtain ⟨left, odd, dead, log, synced, snap, room⟩ := d
 obtain ⟨p, ip, rfl⟩ := ZZ dead
 simp only at hsp
 rw [hsp] at hsf
 obtain ⟨q, iq, rfl⟩ := ZZ done
 refine fe Tryz.func168 fun S0 w0 => ?_
 show Sim _ _ [(0, pW b)] [(b, ⟨tD, [ei left, ei odd, .v (.bool (decide p)), .sl false (log.map eb), ei synced, .sl false (snap.map eb), ei room], 7⟩)] _
 by_cases hp : p
 ·have hA : Uu ⟨left, odd, decide p, log, synced, snap, room⟩ = (⟨left, odd, decide p, log, synced, snap, room⟩, 20) := by
   unfold Uu
   rw [if_pos (by simpa using hp)]
  rw [hA]
  refine zC ?_
  refine cr <| s_ Qb <| zC ?_
  refine cr <| s_ Qa <| s_ Qe <| s_ Qc <| s_ Qc <| s_ Ql <| s_ Qa <| gF (fun hg => Qa) ?_
  refine gF (fun hg => Qe (hx := u_ hg)) ?_
  refine gF (fun hg => Qc (hx := u_ hg)) ?_
  refine gF (d := .any) (fun hg => absurd hp hg) ?_
  refine gF (d := .v (.bool (decide False))) (fun hg => absurd hp hg) ?_
  refine s_ XC <| zC ?_
  refine ci ?_ ?_
  ·intro _
   refine zC ?_
   refine cr <| s_ Qb <| zC ?_
   refine zR ?_
   exact rh kR ⟨rfl, rfl⟩ (Le.refl _)
  ·intro h; exact absurd (.inl hp) h
 ·have hA : Uu ⟨left, odd, decide p, log, synced, snap, room⟩ = if decide q then (⟨left1, odd, dead1, log, log.length, snap, room⟩, 0) else (⟨left1, odd, dead1, log, synced, snap, room⟩, 20) := by
   unfold Uu
   rw [if_neg (by simpa using hp), hsp]
  refine zC ?_
  refine cr <| s_ Qb <| zC ?_
  refine cr <| s_ Qa <| s_ Qe <| s_ Qc <| s_ Qc <| s_ Ql <| s_ Qa <| gF (fun hg => Qa) ?_
  refine gF (fun hg => Qe (hx := u_ hg)) ?_
  refine gF (fun hg => Qc (hx := u_ hg)) ?_
  refine IY (Hr := []) hp hsf W9 (fun r H' ⟨hr1, hr2⟩ => ?_) (ha' := by refine Qu (u_ hp) ?_; exact Xh)
  subst hr1 hr2
  show Qi _ _ _ _ ((12, .v (.bool (decide q))) :: _) [(b, ⟨tD, [ei left1, ei odd, .v (.bool dead1), .sl false (log.map eb), ei synced, .sl false (snap.map eb), ei room], 7⟩)] _
  refine gF (p := p) (fun hg => Yb) ?_
  refine s_ XC <| zC ?_
  refine ci ?_ ?_
  ·intro h
   have hq : ¬ q := h.resolve_left hp
   rw [hA, if_neg (by simpa using hq)]
   refine zC ?_
   refine cr <| s_ Qb <| zC ?_
   refine zR ?_
   exact rh kR ⟨rfl, rfl⟩ (Le.refl _)
  ·intro h
   have hq : q := Decidable.not_not.1 fun hn => h (.inr hn)
   rw [hA, if_pos (by simpa using hq)]
   refine zC ?_
   refine cr <| s_ Qa <| s_ Qa <| s_ Qe <| s_ Qc <| s_ Ql ?_
   (first | refine s_ QS ?_ | refine s_ QP ?_)
   refine s_ Qe <| s_ Qc <| Qn ?_
   refine zC ?_
   refine cr <| s_ Qb <| zC ?_
   refine zR ?_
   refine rh kR ⟨rfl, ?_⟩ (Le.refl _)
   simp only [List.length_map]; rfl
def M1 (d : Dk) (n : Int) : Dk × Int := if d.dead then (d, 20) else if n < 0 ∨ (d.log.length : Int) < n then (d, 1) else
 (if (Xu d).2 = true ∨ d.odd = 0 then { (Xu d).1 with log := d.log.take n.toNat, synced := n } else (Xu d).1, if (Xu d).2 then 0 else 20)
theorem KK (b : Nat) (d : Dk) (n : Int) (hd : VV d) : FnH Tryz.prog 96 [pW b, ei n] (DkH b d) (fun r H => r = ei (M1 d n).2 ∧ H = DkH b (M1 d n).1) := by
 have hu := hd.used
 have hsf := V2 b d hd
 obtain ⟨left1, dead1, done, hsp⟩ := Jx d
 obtain ⟨left, odd, dead, log, synced, snap, room⟩ := d
 obtain ⟨p, ip, rfl⟩ := ZZ dead
 simp only at hsp hu
 rw [hsp] at hsf
 obtain ⟨q, iq, rfl⟩ := ZZ done
 refine fe Tryz.func96 fun S0 w0 => ?_
 show Sim _ _ [(0, pW b), (1, ei n)] [(b, ⟨tD, [ei left, ei odd, .v (.bool (decide p)), .sl false (log.map eb), ei synced, .sl false (snap.map eb), ei room], 7⟩)] _
 refine zC ?_
 refine cr <| s_ Qb <| zC ?_
 refine cr <| s_ Qa <| s_ Qe <| s_ Qc <| s_ Qc <| s_ Ql <| s_ Qb <| zC ?_
 refine ci ?_ ?_
 ·intro hp
  have hA : M1 ⟨left, odd, decide p, log, synced, snap, room⟩ n = (⟨left, odd, decide p, log, synced, snap, room⟩, 20) := by
   unfold M1
   rw [if_pos (by simpa using hp)]
  rw [hA]
  refine zC ?_
  refine cr <| s_ Qb <| zC ?_
  refine zR ?_
  exact rh kR ⟨rfl, rfl⟩ (Le.refl _)
 intro hp
 refine zC ?_
 refine cr <| s_ Qa <| s_ QN <| s_ Qa <| gF (fun hg => Qa) ?_
 refine gF (fun hg => Qa) ?_
 refine gF (fun hg => Qe (hx := u_ hg)) ?_
 refine gF (fun hg => Qc (hx := u_ hg)) ?_
 refine gF (fun hg => Ql (hx := u_ hg)) ?_
 (first | refine gF (fun hg => QS (hx := u_ hg)) ?_ | refine gF (fun hg => QP (hx := u_ hg)) ?_)
 refine gF (fun hg => XX (hx := u_ hg) (hy := u_ hg)) ?_
 refine s_ XC <| s_ Qb <| zC ?_
 refine ci ?_ ?_
 ·intro hf
  simp only [List.length_map] at hf
  have hA : M1 ⟨left, odd, decide p, log, synced, snap, room⟩ n = (⟨left, odd, decide p, log, synced, snap, room⟩, 1) := by
   unfold M1
   rw [if_neg (by simpa using hp), if_pos hf]
  rw [hA]
  refine zC ?_
  refine cr <| s_ Qb <| zC ?_
  refine zR ?_
  exact rh kR ⟨rfl, rfl⟩ (Le.refl _)
 intro hf
 simp only [List.length_map] at hf
 have hA : M1 ⟨left, odd, decide p, log, synced, snap, room⟩ n = (if q ∨ odd = 0 then ⟨left1, odd, dead1, log.take n.toNat, n, snap, room⟩ else ⟨left1, odd, dead1, log, synced, snap, room⟩, if decide q then 0 else 20) := by
  unfold M1
  rw [if_neg (by simpa using hp), if_neg hf, hsp]
  simp only [decide_eq_true_eq]
 rw [hA]
 have ho := L1 (log.take n.toNat) (by rw [List.length_take]; omega)
 refine zC ?_
 refine cr <| s_ Qa <| s_ Qe <| s_ Qc ?_
 refine QY hsf (fun r H' ⟨hr1, hr2⟩ => ?_)
 subst hr1 hr2
 show Qi _ _ _ _ ((27, .v (.bool (decide q))) :: _) [(b, ⟨tD, [ei left1, ei odd, .v (.bool dead1), .sl false (log.map eb), ei synced, .sl false (snap.map eb), ei room], 7⟩)] _
 refine s_ Qb <| zC ?_
 refine cr <| s_ Qa <| s_ Qa <| gF (fun hg => Qa) ?_
 refine gF (fun hg => Qe (hx := u_ hg)) ?_
 refine gF (fun hg => Qc (hx := u_ hg)) ?_
 refine gF (fun hg => Qc (hx := u_ hg)) ?_
 refine gF (fun hg => Ql (hx := u_ hg)) ?_
 refine gF (fun hg => Q5 (hx := u_ hg)) ?_
 refine s_ XC <| zC ?_
 refine ci ?_ ?_
 ·intro ho2
  rw [if_pos ho2]
  refine zC ?_
  refine cr <| s_ Qa <| s_ Qa <| s_ Qa <| s_ Qe <| s_ Qc <| s_ Ql <| s_ Qa <| s_ (Rb (i := n) (xs := log.map eb) (ys := (log.take n.toNat).map eb) (by rw [List.map_take]) (h2 := by simp only [List.length_map]; omega)) <| s_ (Qr (ho)) <| s_ Qa <| s_ Qe <| s_ Qc <| Qn ?_
  refine s_ Qe <| s_ Qc <| Qn ?_
  refine zC ?_
  refine cr <| s_ Qa <| s_ Yb <| zC ?_
  refine ci ?_ ?_
  ·intro hq
   refine zC ?_
   refine cr <| s_ Qb <| zC ?_
   refine zR ?_
   refine rh kR ⟨?_, rfl⟩ (Le.refl _)
   simp [hq]; rfl
  ·intro hq
   refine zC ?_
   refine cr <| s_ Qb <| zC ?_
   refine zR ?_
   refine rh kR ⟨?_, rfl⟩ (Le.refl _)
   simp [Decidable.not_not.1 hq]; rfl
 ·intro ho2
  rw [if_neg ho2]
  refine zC ?_
  refine cr <| s_ Qa <| s_ Yb <| zC ?_
  refine ci ?_ ?_
  ·intro hq
   refine zC ?_
   refine cr <| s_ Qb <| zC ?_
   refine zR ?_
   refine rh kR ⟨?_, rfl⟩ (Le.refl _)
   simp [hq]; rfl
  ·intro hq
   exact absurd (.inl (Decidable.not_not.1 hq)) ho2
def JT (d : Dk) (x : List UInt8) : Dk × Int := if d.dead then (d, 20) else if d.room < x.length then (d, 19) else
 (if (Xu d).2 = true ∨ d.odd = 0 then { (Xu d).1 with snap := x, log := [], synced := 0 } else (Xu d).1, if (Xu d).2 then 0 else 20)
theorem N7 (b : Nat) (d : Dk) (x : List UInt8) (hd : VV d) (hx : x.length ≤ 1000000000) : FnH Tryz.prog 169 [pW b, bl x] (DkH b d) (fun r H => r = ei (JT d x).2 ∧ H = DkH b (JT d x).1) := by
 have hsf := V2 b d hd
 obtain ⟨left1, dead1, done, hsp⟩ := Jx d
 obtain ⟨left, odd, dead, log, synced, snap, room⟩ := d
 obtain ⟨p, ip, rfl⟩ := ZZ dead
 simp only at hsp
 rw [hsp] at hsf
 obtain ⟨q, iq, rfl⟩ := ZZ done
 have ho := L1 x (by omega)
 refine fe Tryz.func169 fun S0 w0 => ?_
 show Sim _ _ [(0, pW b), (1, .sl false (x.map eb))] [(b, ⟨tD, [ei left, ei odd, .v (.bool (decide p)), .sl false (log.map eb), ei synced, .sl false (snap.map eb), ei room], 7⟩)] _
 refine zC ?_
 refine cr <| s_ Qb <| zC ?_
 refine cr <| s_ Qa <| s_ Qe <| s_ Qc <| s_ Qc <| s_ Ql <| s_ Qb <| zC ?_
 refine ci ?_ ?_
 ·intro hp
  have hA : JT ⟨left, odd, decide p, log, synced, snap, room⟩ x = (⟨left, odd, decide p, log, synced, snap, room⟩, 20) := by
   unfold JT
   rw [if_pos (by simpa using hp)]
  rw [hA]
  refine zC ?_
  refine cr <| s_ Qb <| zC ?_
  refine zR ?_
  exact rh kR ⟨rfl, rfl⟩ (Le.refl _)
 intro hp
 refine zC ?_
 refine cr <| s_ Qa ?_
 (first | refine s_ QS ?_ | refine s_ QP ?_)
 refine s_ Qa <| s_ Qe <| s_ Qc <| s_ Ql <| s_ XX <| s_ Qb <| zC ?_
 refine ci ?_ ?_
 ·intro hf
  simp only [List.length_map] at hf
  have hA : JT ⟨left, odd, decide p, log, synced, snap, room⟩ x = (⟨left, odd, decide p, log, synced, snap, room⟩, 19) := by
   unfold JT
   rw [if_neg (by simpa using hp), if_pos hf]
  rw [hA]
  refine zC ?_
  refine cr <| s_ Qb <| zC ?_
  refine zR ?_
  exact rh kR ⟨rfl, rfl⟩ (Le.refl _)
 intro hf
 simp only [List.length_map] at hf
 have hA : JT ⟨left, odd, decide p, log, synced, snap, room⟩ x = (if q ∨ odd = 0 then ⟨left1, odd, dead1, [], 0, x, room⟩ else ⟨left1, odd, dead1, log, synced, snap, room⟩, if decide q then 0 else 20) := by
  unfold JT
  rw [if_neg (by simpa using hp), if_neg hf, hsp]
  simp only [decide_eq_true_eq]
 rw [hA]
 refine zC ?_
 refine cr <| s_ Qa <| s_ Qe <| s_ Qc ?_
 refine QY hsf (fun r H' ⟨hr1, hr2⟩ => ?_)
 subst hr1 hr2
 show Qi _ _ _ _ ((23, .v (.bool (decide q))) :: _) [(b, ⟨tD, [ei left1, ei odd, .v (.bool dead1), .sl false (log.map eb), ei synced, .sl false (snap.map eb), ei room], 7⟩)] _
 refine s_ Qb <| zC ?_
 refine cr <| s_ Qa <| s_ Qa <| gF (fun hg => Qa) ?_
 refine gF (fun hg => Qe (hx := u_ hg)) ?_
 refine gF (fun hg => Qc (hx := u_ hg)) ?_
 refine gF (fun hg => Qc (hx := u_ hg)) ?_
 refine gF (fun hg => Ql (hx := u_ hg)) ?_
 refine gF (fun hg => Q5 (hx := u_ hg)) ?_
 refine s_ XC <| zC ?_
 refine ci ?_ ?_
 ·intro ho2
  rw [if_pos ho2]
  refine zC ?_
  refine cr <| s_ Qa <| s_ Qa <| s_ Qa <| s_ Qa <| s_ (Qr (ho)) <| s_ Qe <| s_ Qc <| Qn ?_
  refine s_ Qe <| s_ Qc <| Qn ?_
  refine s_ Qe <| s_ Qc <| Qn ?_
  refine zC ?_
  refine cr <| s_ Qa <| s_ Yb <| zC ?_
  refine ci ?_ ?_
  ·intro hq
   refine zC ?_
   refine cr <| s_ Qb <| zC ?_
   refine zR ?_
   refine rh (H' := DkH b ⟨left1, odd, dead1, [], 0, x, room⟩) (kK kR) ⟨?_, rfl⟩ (Le.refl _)
   simp [hq]; rfl
  ·intro hq
   refine zC ?_
   refine cr <| s_ Qb <| zC ?_
   refine zR ?_
   refine rh (H' := DkH b ⟨left1, odd, dead1, [], 0, x, room⟩) (kK kR) ⟨?_, rfl⟩ (Le.refl _)
   simp [Decidable.not_not.1 hq]; rfl
 ·intro ho2
  rw [if_neg ho2]
  refine zC ?_
  refine cr <| s_ Qa <| s_ Yb <| zC ?_
  refine ci ?_ ?_
  ·intro hq
   refine zC ?_
   refine cr <| s_ Qb <| zC ?_
   refine zR ?_
   refine rh kR ⟨?_, rfl⟩ (Le.refl _)
   simp [hq]; rfl
  ·intro hq
   exact absurd (.inl (Decidable.not_not.1 hq)) ho2
theorem PM (n : Int) (h0 : 1 ≤ n) (h1 : n ≤ 16777216) : FnH Tryz.prog 26 [ei n] [] (fun r H => ∃ b, r = .tup [pW b, ei 0] ∧ H = DkH b ⟨0, 0, false, [], 0, [], n⟩) := by
 refine fe Tryz.func26 fun S0 w0 => ?_
 show Sim _ _ [(0, ei n)] _ _
 refine zC ?_
 refine cr <| s_ Qb <| s_ Qb <| zC ?_
 refine cr <| s_ Qa <| s_ QN <| s_ Qa <| gF (fun hg => Qa) ?_
 refine gF (fun hg => XX (hx := u_ hg)) ?_
 refine s_ XC <| zC ?_
 refine ci ?_ ?_
 ·intro h; exact absurd h (by omega)
 intro _
 refine zC ?_
 refine cr <| s_ Qa <| s_ (YH 7 [_, _, _, _, _, _, _]) ?_
 refine Xk fun b12 _ => ?_
 refine s_ Qb <| s_ Qb <| zC ?_
 refine zR ?_
 exact rh (H' := DkH b12 ⟨0, 0, false, [], 0, [], n⟩) (kK kR) ⟨_, rfl, rfl⟩ (Le.refl _)
def V0 (d : Dk) (n : Int) : Dk := { d with left := max n 0, odd := (max n 0).tmod 2 }
theorem N9 (b : Nat) (d : Dk) (n : Int) : FnH Tryz.prog 43 [pW b, ei n] (DkH b d) (fun r H => r = .tup [] ∧ H = DkH b (V0 d n)) := by
 refine fe Tryz.func43 fun S0 w0 => ?_
 show Sim _ _ [(0, pW b), (1, ei n)] (DkH b d) _
 unfold DkH dkC
 refine zC ?_
 refine cr <| s_ Qa <| s_ Qa <| s_ Qa <| s_ VG <| s_ Qa <| s_ VG <| s_ WN <| s_ Qe <| s_ Qc <| Qn ?_
 refine s_ Qe <| s_ Qc <| Qn ?_
 refine zC ?_
 exact rhn kR ⟨rfl, rfl⟩ (Le.refl _)
theorem I5 (b : Nat) (d : Dk) : FnH Tryz.prog 74 [pW b] (DkH b d) (fun r H => r = eB d.dead ∧ H = DkH b d) := by
 refine fe Tryz.func74 fun S0 w0 => ?_
 show Sim _ _ [(0, pW b)] (DkH b d) _
 unfold DkH dkC
 refine zC ?_
 refine cr <| s_ Qb <| zC ?_
 refine cr <| s_ Qa <| s_ Qe <| s_ Qc <| s_ Ql <| s_ Qb <| zC ?_
 refine zR ?_
 exact rh kR ⟨rfl, rfl⟩ (Le.refl _)
theorem Hi (b : Nat) (d : Dk) (hd : VV d) : FnH Tryz.prog 94 [pW b] (DkH b d) (fun r H => r = bl d.log ∧ H = DkH b d) := by
 have hu := hd.used
 have ho := L1 d.log (by omega)
 refine fe Tryz.func94 fun S0 w0 => ?_
 show Sim _ _ [(0, pW b)] (DkH b d) _
 unfold DkH dkC
 refine zC ?_
 refine cr <| s_ Qb <| zC ?_
 refine cr <| s_ Qa <| s_ Qe <| s_ Qc <| s_ Ql <| s_ (Qr (ho)) <| s_ Qb <| zC ?_
 refine zR ?_
 exact rh kR ⟨rfl, rfl⟩ (Le.refl _)
theorem Nr (b : Nat) (d : Dk) (hd : VV d) : FnH Tryz.prog 92 [pW b] (DkH b d) (fun r H => r = bl d.snap ∧ H = DkH b d) := by
 have hu := hd.used
 have ho := L1 d.snap (by omega)
 refine fe Tryz.func92 fun S0 w0 => ?_
 show Sim _ _ [(0, pW b)] (DkH b d) _
 unfold DkH dkC
 refine zC ?_
 refine cr <| s_ Qb <| zC ?_
 refine cr <| s_ Qa <| s_ Qe <| s_ Qc <| s_ Ql <| s_ (Qr (ho)) <| s_ Qb <| zC ?_
 refine zR ?_
 exact rh kR ⟨rfl, rfl⟩ (Le.refl _)
def Jc (d : Dk) (pick : Int) : Int := let n := (d.log.length : Int) - d.synced + 1; ((pick.tmod n) + n).tmod n
def Ur (d : Dk) (pick : Int) : Dk := { d with left := 0, odd := 0, dead := false, log := d.log.take (d.synced + Jc d pick).toNat, synced := ((d.log.take (d.synced + Jc d pick).toNat).length : Nat) }
theorem Jw (d : Dk) (pick : Int) (h0 : 0 ≤ d.synced) (h1 : d.synced ≤ d.log.length) : 0 ≤ Jc d pick ∧ Jc d pick ≤ (d.log.length : Int) - d.synced := by
 unfold Jc
 obtain ⟨n, hn⟩ : ∃ n, n = (d.log.length : Int) - d.synced + 1 := ⟨_, rfl⟩
 rw [← hn]
 have hp : 0 < n := by omega
 have h2 := LN pick n hp
 have h3 : 0 ≤ pick.tmod n + n := by
  have := Int.emod_nonneg pick (show n ≠ 0 by omega)
  by_cases h : pick.tmod n < 0
  ·rw [h2.1 h]; exact this
  ·omega
 have h4 := Int.tmod_nonneg n h3
 have h5 := Int.tmod_lt_of_pos (pick.tmod n + n) hp
 show 0 ≤ (pick.tmod n + n).tmod n ∧ (pick.tmod n + n).tmod n ≤ _
 omega
theorem Ny (b : Nat) (d : Dk) (pick : Int) (hd : VV d) (h0 : 0 ≤ d.synced) (h1 : d.synced ≤ d.log.length) : FnH Tryz.prog 45 [pW b, ei pick] (DkH b d) (fun r H => r = ei (Jc d pick) ∧ H = DkH b (Ur d pick)) := by
 have hu := hd.used
 have hk := Jw d pick h0 h1
 have ho := L1 (d.log.take (d.synced + Jc d pick).toNat) (by rw [List.length_take]; omega)
 obtain ⟨n, hn⟩ : ∃ n, n = (d.log.length : Int) - d.synced + 1 := ⟨_, rfl⟩
 have hks : Jc d pick = ((pick.tmod n) + n).tmod n := by rw [hn]; rfl
 have hp : 0 < n := by omega
 have hb1 := Int.tmod_lt_of_pos pick hp
 have hb2 : -n ≤ pick.tmod n := by
  have h2 := LN pick n hp
  have := Int.emod_nonneg pick (show n ≠ 0 by omega)
  by_cases h : pick.tmod n < 0
  ·have := h2.1 h; omega
  ·omega
 refine fe Tryz.func45 fun S0 w0 => ?_
 show Sim _ _ [(0, pW b), (1, ei pick)] (DkH b d) _
 unfold DkH dkC bl
 refine zC ?_
 refine cr <| s_ Qb <| zC ?_
 refine ca [0, 1, 2, 3, 4, 5, 6, 7, 8, 9, 10, 11] [] <| a_ (fun _ => Qa) <| a_ (fun _ => Qe) <| a_ (fun _ => Qc) <| Qv ?_
 (first | refine a_ (fun _ => QS) ?_ | refine a_ (fun _ => QP) ?_)
 refine a_ (fun _ => Qa) <| a_ (fun _ => Qe) <| a_ (fun _ => Qc) <| Qv ?_
 refine a_ (fun _ => Yr) <| a_ (fun _ => QQ) ?_
 rw [List.length_map, ← hn]
 refine a_ (fun _ => Qb) ?_
 apply an
 refine zC ?_
 refine cr <| s_ Qa <| s_ Qa <| s_ WN <| s_ Qa <| s_ QQ <| s_ Qa <| s_ WN <| s_ Qb <| zC ?_
 rw [← hks]
 refine zC ?_
 refine ca [0, 1, 2, 3, 4, 5, 6, 7, 8, 9, 10, 11, 12, 13, 14, 15] [15] <| a_ (fun _ => Qa) <| a_ (fun _ => Qa) <| a_ (fun _ => Qe) <| a_ (fun _ => Qc) <| Qv ?_
 refine a_ (fun _ => Qa) <| a_ (fun _ => Qe) <| a_ (fun _ => Qc) <| Qv ?_
 refine a_ (fun _ => Qa) <| a_ (fun _ => QQ) <| a_ (fun _ => Rb (i := d.synced + Jc d pick) (xs := d.log.map eb) (ys := (d.log.take (d.synced + Jc d pick).toNat).map eb) (by rw [List.map_take]) (h2 := by simp only [List.length_map]; omega)) <| a_ (fun _ => Qr (ho)) <| a_ (fun _ => Qe) <| a_ (fun _ => Qc) <| Q2 ?_
 apply an
 refine zC ?_
 unfold bl
 refine zC ?_
 refine cr <| s_ Qa <| s_ Qa <| s_ Qe <| s_ Qc <| s_ Ql ?_
 (first | refine s_ QS ?_ | refine s_ QP ?_)
 refine s_ Qe <| s_ Qc <| Qn ?_
 refine zC ?_
 refine cr <| s_ Qa <| s_ (YH 3 [_, _, _]) <| s_ Qe <| s_ Qc <| Qn ?_
 refine zC ?_
 refine cr <| s_ Qa <| s_ Qb <| zC ?_
 refine zR ?_
 refine rh kR ⟨rfl, ?_⟩ (Le.refl _)
 simp only [List.length_map]
 rfl
def tJ : TypeId := 157
def JrH (bj bd : Nat) (n : Int) (d : Dk) : Qd := (bj, ⟨tJ, [pW bd, ei n], 2⟩) :: DkH bd d
theorem Oy (bj bd : Nat) (n : Int) (d : Dk) : FnH Tryz.prog 161 [pW bj] (JrH bj bd n d) (fun r H => r = ei n ∧ H = JrH bj bd n d) := by
 refine fe Tryz.func161 fun S0 w0 => ?_
 show Sim _ _ [(0, pW bj)] (JrH bj bd n d) _
 unfold JrH
 refine zC ?_
 refine cr <| s_ Qb <| zC ?_
 refine cr <| s_ Qa <| s_ Qe <| s_ Qc <| s_ Ql <| s_ Qb <| zC ?_
 refine zR ?_
 exact rh kR ⟨rfl, rfl⟩ (Le.refl _)
def YN (n : Int) (d : Dk) (x : List UInt8) : Int × Dk × Int :=
 let a := VT d (QL x)
 if a.2 = 0 then let s := Uu a.1; if s.2 = 0 then (n + 1, s.1, 0) else (n, s.1, s.2) else (n, a.1, a.2)
theorem IR (bj bd : Nat) (n : Int) (d : Dk) (x : List UInt8) (hd : VV d) (hd2 : VV (VT d (QL x)).1) (hx : x.length ≤ 4194304) (h0 : 0 ≤ n) (h1 : n ≤ 1000) :
  FnH Tryz.prog 162 [pW bj, bl x] (JrH bj bd n d) (fun r H => r = ei (YN n d x).2.2 ∧ H = JrH bj bd (YN n d x).1 (YN n d x).2.1) := by
 have hf := Ol false x hx
 have hfl := YA x
 have ha := Ov bd d (QL x) hd (by omega)
 have hs := N6 bd (VT d (QL x)).1 hd2
 obtain ⟨⟨d1, e1⟩, hap⟩ : ∃ a, VT d (QL x) = a := ⟨_, rfl⟩
 obtain ⟨⟨d2, e2⟩, hsy⟩ : ∃ a, Uu d1 = a := ⟨_, rfl⟩
 rw [hap] at ha hs
 simp only at ha hs
 rw [hsy] at hs
 simp only at hs
 have hA : YN n d x = if e1 = 0 then (if e2 = 0 then (n + 1, d2, 0) else (n, d2, e2)) else (n, d1, e1) := by
  unfold YN
  rw [hap]
  simp only
  rw [hsy]
 rw [hA]
 refine fe Tryz.func162 fun S0 w0 => ?_
 show Sim _ _ [(0, pW bj), (1, bl x)] (JrH bj bd n d) _
 unfold JrH
 refine zC ?_
 refine cr <| s_ Qb <| zC ?_
 refine cr <| s_ Qa <| s_ (Qr (hf)) <| s_ Qa <| s_ Qt <| s_ Qt <| s_ Qb <| s_ Qb <| zC ?_
 refine zC ?_
 refine cr <| s_ Qa <| s_ Q5 <| zC ?_
 refine ci ?_ ?_
 rotate_left
 ·intro h; exact absurd rfl h
 intro _
 refine zC ?_
 refine cr <| s_ Qa <| s_ Qe <| s_ Qc <| s_ Ql <| s_ Qa ?_
 refine Q1 (Hr := [_]) ha (List.perm_append_comm (l₁ := [_])) (fun r H' ⟨hr1, hr2⟩ => ?_)
 subst hr1 hr2
 refine QV List.perm_append_comm ?_
 refine s_ Qb <| zC ?_
 refine cr <| s_ Qa <| s_ Q5 <| zC ?_
 refine ci ?_ ?_
 ·intro he1
  have he1' : e1 = 0 := he1
  rw [if_pos he1']
  refine zC ?_
  refine cr <| s_ Qa <| s_ Qe <| s_ Qc <| s_ Ql ?_
  refine Q1 (Hr := [_]) hs (List.perm_append_comm (l₁ := [_])) (fun r H' ⟨hr1, hr2⟩ => ?_)
  subst hr1 hr2
  refine QV List.perm_append_comm ?_
  refine s_ Qb <| zC ?_
  refine cr <| s_ Qa <| s_ Q5 <| zC ?_
  refine ci ?_ ?_
  ·intro he2
   have he2' : e2 = 0 := he2
   rw [if_pos he2']
   subst he2'
   refine zC ?_
   refine cr <| s_ Qa <| s_ Qe <| s_ Qc <| s_ Ql <| s_ QQ <| s_ Qe <| s_ Qc <| Qn ?_
   refine zC ?_
   refine cr <| s_ Qa <| s_ Qb <| zC ?_
   refine zR ?_
   exact rh kR ⟨rfl, rfl⟩ (Le.refl _)
  ·intro he2
   have he2' : ¬ e2 = 0 := he2
   rw [if_neg he2']
   refine zC ?_
   refine cr <| s_ Qa <| s_ Qb <| zC ?_
   refine zR ?_
   exact rh kR ⟨rfl, rfl⟩ (Le.refl _)
 ·intro he1
  have he1' : ¬ e1 = 0 := he1
  rw [if_neg he1']
  refine zC ?_
  refine cr <| s_ Qa <| s_ Q5 <| zC ?_
  refine ci ?_ ?_
  ·intro h; exact absurd h he1
  intro _
  refine zC ?_
  refine cr <| s_ Qa <| s_ Qb <| zC ?_
  refine zR ?_
  exact rh kR ⟨rfl, rfl⟩ (Le.refl _)
def X1 (n : Int) (d : Dk) (x : List UInt8) : Int × Dk × Int := let a := JT d (QL x); if a.2 = 0 then (0, a.1, 0) else (n, a.1, a.2)
theorem TL (bj bd : Nat) (n : Int) (d : Dk) (x : List UInt8) (hd : VV d) (hx : x.length ≤ 4194304) :
  FnH Tryz.prog 163 [pW bj, bl x] (JrH bj bd n d) (fun r H => r = ei (X1 n d x).2.2 ∧ H = JrH bj bd (X1 n d x).1 (X1 n d x).2.1) := by
 have hf := Ol false x hx
 have hfl := YA x
 have ha := N7 bd d (QL x) hd (by omega)
 obtain ⟨⟨d1, e1⟩, hap⟩ : ∃ a, JT d (QL x) = a := ⟨_, rfl⟩
 rw [hap] at ha
 simp only at ha
 have hA : X1 n d x = if e1 = 0 then (0, d1, 0) else (n, d1, e1) := by
  unfold X1
  rw [hap]
 rw [hA]
 refine fe Tryz.func163 fun S0 w0 => ?_
 show Sim _ _ [(0, pW bj), (1, bl x)] (JrH bj bd n d) _
 unfold JrH
 refine zC ?_
 refine cr <| s_ Qb <| zC ?_
 refine cr <| s_ Qa <| s_ (Qr (hf)) <| s_ Qa <| s_ Qt <| s_ Qt <| s_ Qb <| s_ Qb <| zC ?_
 refine zC ?_
 refine cr <| s_ Qa <| s_ Q5 <| zC ?_
 refine ci ?_ ?_
 rotate_left
 ·intro h; exact absurd rfl h
 intro _
 refine zC ?_
 refine cr <| s_ Qa <| s_ Qe <| s_ Qc <| s_ Ql <| s_ Qa ?_
 refine Q1 (Hr := [_]) ha (List.perm_append_comm (l₁ := [_])) (fun r H' ⟨hr1, hr2⟩ => ?_)
 subst hr1 hr2
 refine QV List.perm_append_comm ?_
 refine s_ Qb <| zC ?_
 refine cr <| s_ Qa <| s_ Q5 <| zC ?_
 refine ci ?_ ?_
 ·intro he1
  have he1' : e1 = 0 := he1
  rw [if_pos he1']
  subst he1'
  refine zC ?_
  refine cr <| s_ Qa <| s_ Qe <| s_ Qc <| Qn ?_
  refine zC ?_
  refine cr <| s_ Qa <| s_ Qb <| zC ?_
  refine zR ?_
  exact rh kR ⟨rfl, rfl⟩ (Le.refl _)
 ·intro he1
  have he1' : ¬ e1 = 0 := he1
  rw [if_neg he1']
  refine zC ?_
  refine cr <| s_ Qa <| s_ Qb <| zC ?_
  refine zR ?_
  exact rh kR ⟨rfl, rfl⟩ (Le.refl _)
end Go.Proofs.YtjbokbikkcfjjaaGreat
namespace Go.Proofs.YtjbokbikkcfjjaaGreat
open Go.Cap
attribute [local irreducible] M2 J9
def Gb : Option (List UInt8) → List UInt8
 | none => []
 | some s => QL s
def JB (d : Dk) (l : List (List UInt8)) (tl : List UInt8) : Dk := if tl = [] then d else { d with log := l.flatMap QL, synced := (l.flatMap QL).length }
theorem Ts {H : Qd} {b5 : Nat} (v2 v3 v4 : Value) (hm : (b5, (⟨25, [ei 0], 1⟩ : Blk)) ∈ H) : DfH Tryz.prog 91 #[.pointer (some ⟨b5, 0, none⟩), v2, v3, v4] H (fun H' => H' = H) := by
 refine DN Tryz.func91 (vs := [.pointer (some ⟨b5, 0, none⟩), v2, v3, v4]) (by rfl) (by rfl) (by rfl) ?_
 intro S0 w0
 show Sim _ _ [(0, pW b5), (1, .v v2), (2, .v v3), (3, .v v4)] H _
 refine zC ?_
 refine cr <| s_ (Ql (hi := hm)) <| s_ XE <| zC ?_
 refine ci ?_ ?_
 ·intro h; exact absurd rfl h
 intro _
 refine zC ?_
 exact ⟨.inl rfl, _, kR, rfl⟩
theorem AD {d : Dk} (hdead : d.dead = false) (hleft : d.left = 0) : Xu d = (d, true) := by
 unfold Xu
 rw [if_neg (by omega), hdead]
 rfl
theorem Nx {d : Dk} {l : List (List UInt8)} {tl : List UInt8} (hdead : d.dead = false) (hleft : d.left = 0) (hlog : d.log = l.flatMap QL ++ tl) (htl : tl ≠ []) : M1 d ((l.flatMap QL).length : Nat) = (JB d l tl, 0) := by
 have ht : d.log.take (((l.flatMap QL).length : Nat) : Int).toNat = l.flatMap QL := by rw [hlog, Int.toNat_natCast, List.take_left' rfl]
 have hle : (l.flatMap QL).length ≤ d.log.length := by rw [hlog, List.length_append]; omega
 unfold M1 JB
 rw [AD hdead hleft, hdead, ht, if_neg (by simp), if_neg (by omega), if_neg htl, if_pos (.inl rfl), if_pos rfl]
 simp [hdead]
theorem Tr (bd : Nat) (d : Dk) (so : Option (List UInt8)) (l : List (List UInt8)) (tl : List UInt8) (hd : VV d) (hdead : d.dead = false) (hleft : d.left = 0) (hso : d.snap = Gb so) (hsl : ∀ s, so = some s → s.length ≤ 4194304) (hlog : d.log = l.flatMap QL ++ tl) (hst : R2 tl) (hl : ∀ x ∈ l, x.length ≤ 4194304) :
  FnH Tryz.prog 65 [pW bd] (DkH bd d) (fun r H => ∃ bj, r = .tup [pW bj, bl (so.getD []), tBl l, ei 0] ∧ H = JrH bj bd l.length (JB d l tl)) := by
 have hu := hd.used
 have hde := I5 bd d
 rw [hdead] at hde
 have hsn := Nr bd d hd
 have hlg := Hi bd d hd
 have hsc := Pe l tl hst hl (by rw [← hlog]; omega)
 rw [← hlog] at hsc
 have hct := KK bd d ((l.flatMap QL).length : Nat) hd
 refine Vj Tryz.func65 (by rfl) (by rfl) ?_
 intro S0 w0 hw0
 show M2 _ _ _ [(0, pW bd)] (DkH bd d) _
 refine UI ?_
 refine zC ?_
 apply cr
 refine Xt fun b2 _ => ?_
 refine Xt fun b3 _ => ?_
 refine Xt fun b4 _ => ?_
 refine Xt fun b5 _ => ?_
 refine zC ?_
 refine ⟨rfl, ?_⟩
 refine UI ?_
 refine zC ?_
 refine cr <| s_ Qa <| s_ Qe <| s_ Qc ?_
 refine Q1 (Hr := [_, _, _, _]) hde (List.perm_append_comm (l₁ := [_, _, _, _])) (fun r H' ⟨hr1, hr2⟩ => ?_)
 subst hr1 hr2
 refine zC ?_
 refine ci (p := False) (fun h => h.elim) (fun _ => ?_)
 refine zC ?_
 refine ⟨rfl, ?_⟩
 refine Jy ?_
 refine d_s Wd ?_
 refine LE [.pointer (some ⟨b5, 0, none⟩), .pointer (some ⟨b2, 0, none⟩), .pointer (some ⟨b3, 0, none⟩), .pointer (some ⟨b4, 0, none⟩)] ?_ rfl rfl (zl)
 refine V5 hw0 ?_
 refine zC ?_
 refine cr <| s_ Qa ?_
 refine Q1 (Hr := [_, _, _, _]) hsn (.refl _) (fun r H' ⟨hr1, hr2⟩ => ?_)
 subst hr1 hr2
 refine s_ Qb <| zC ?_
 refine cr <| s_ Qa ?_
 (first | refine s_ QS ?_ | refine s_ QP ?_)
 refine s_ XX <| zC ?_
 refine Y8 [(0, pW bd), (2, pW b2), (3, pW b3), (4, pW b4), (5, pW b5)] (DkH bd d ++ [(b5, ⟨25, [ei 0], 1⟩), (b4, ⟨117, [.v (.slice none 0 0)], 1⟩), (b3, ⟨34, [bl (so.getD [])], 1⟩), (b2, ⟨91, [.v (.pointer none)], 1⟩)]) ?_ ?_
 ·refine ci ?_ ?_
  ·intro hpos
   rcases so with _ | s
   ·exact absurd hpos (by rw [hso]; simp [Gb])
   have h1 := Kv s (hsl s rfl)
   have hso' : d.snap = QL s := hso
   rw [hso']
   refine zC ?_
   refine cr <| s_ Qa <| s_ (Qr (h1)) <| s_ Qa <| s_ Qt <| s_ Qt <| Qn ?_
   refine Qn ?_
   refine zC ?_
   refine cr <| s_ Ql <| s_ XE <| zC ?_
   refine ci ?_ ?_
   ·intro h; exact absurd rfl h
   intro _
   refine zC ?_
   exact ⟨eL, kR⟩
  ·intro hpos
   rcases so with _ | s
   ·refine zC ?_
    exact ⟨eL, kH (kK (kK (kK kR)))⟩
   ·refine absurd ?_ hpos
    have := YA s
    have hso' : d.snap = QL s := hso
    rw [hso', List.length_map]; omega
 refine zC ?_
 refine cr <| s_ Qa ?_
 refine Q1 (Hr := [_, _, _, _]) hlg (.refl _) (fun r H' ⟨hr1, hr2⟩ => ?_)
 subst hr1 hr2
 refine s_ Qb <| zC ?_
 refine cr <| s_ Qa <| s_ (Qr (hsc)) <| s_ Qa <| s_ Qt <| s_ Qt <| Qn ?_
 refine s_ Qb <| zC ?_
 refine cr <| s_ Qa <| s_ Wd <| s_ Qb <| zC ?_
 refine cr <| s_ Qa <| s_ Qa ?_
 (first | refine s_ QS ?_ | refine s_ QP ?_)
 refine s_ QN <| zC ?_
 refine Y8 [(0, pW bd), (2, pW b2), (3, pW b3), (4, pW b4), (5, pW b5)] (DkH bd (JB d l tl) ++ [(b5, ⟨25, [ei 0], 1⟩), (b4, ⟨117, [tBl l], 1⟩), (b3, ⟨34, [bl (so.getD [])], 1⟩), (b2, ⟨91, [.v (.pointer none)], 1⟩)]) ?_ ?_
 ·refine ci ?_ ?_
  ·intro hlt
   have htl : tl ≠ [] := by
    rintro rfl
    rw [hlog, List.append_nil, List.length_map] at hlt
    omega
   have hcf := Nx hdead hleft hlog htl
   rw [hcf] at hct
   refine zC ?_
   refine cr <| s_ Qa <| s_ Qa ?_
   refine VN (fs := [pW bd]) (args := [ei ((l.flatMap QL).length : Nat)]) (cs := []) hct (Hr := [_, _, _, _]) (.refl _) (fun r H' ⟨hr1, hr2⟩ => ?_)
   subst hr1 hr2
   refine Qn ?_
   refine zC ?_
   exact ⟨eL, kR⟩
  ·intro hge
   have htl : tl = [] := by
    rw [hlog, List.length_map, List.length_append] at hge
    exact List.length_eq_zero_iff.1 (by omega)
   have ho : JB d l tl = d := if_pos htl
   rw [ho]
   refine zC ?_
   exact ⟨eL, kR⟩
 refine zC ?_
 refine ca [0, 1, 2, 3, 5, 6, 7, 4, 8, 9, 10, 11] [4, 8, 9, 10, 11] <| a_ (fun _ => Qa) <| Qv ?_
 (first | refine a_ (fun _ => QS) ?_ | refine a_ (fun _ => QP) ?_)
 refine a_ (fun _ => YH 2 [_, _]) <| Qv ?_
 refine Qv ?_
 refine Qv ?_
 refine S8 fun b47 _ => ⟨zd, ?_⟩
 refine Q2 ?_
 refine Q2 ?_
 refine Q2 ?_
 refine Q2 ?_
 apply an
 refine zC ?_
 apply YW
 refine ⟨_, Ts _ _ _ (zm), ?_⟩
 rintro H1 rfl
 refine ⟨_, _, JrH b47 bd l.length (JB d l tl), zrs, Le.refl _, ⟨b47, rfl, rfl⟩, Qp.le ?_⟩
 refine .keep _ _ _ _ _ ?_ (.keep _ _ _ _ _ (YZ.refl _) (.nil _))
 refine NH rfl ?_ rfl rfl
 refine LeL.cons (Le.refl _) (LeL.cons (Le.of_eq ?_) LeL.nil)
 rw [List.length_map]
 rfl
end Go.Proofs.YtjbokbikkcfjjaaGreat
