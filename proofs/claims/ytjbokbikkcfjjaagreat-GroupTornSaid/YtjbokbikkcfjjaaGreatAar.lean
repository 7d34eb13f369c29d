/-
  frames: checksums, heads, frames.
-/
import Derived.Test.YtjbokbikkcfjjaaGreatAaq
set_option maxRecDepth 16000
set_option maxHeartbeats 8000000
set_option linter.all false
namespace Go.Cap
section
variable {P : Program} {t : Env} {H : Qc} {dst : Option Tmp} {tp : TypeId} {pos : String} {aft : Array Edge} {g : Option (Nat × Bool)} {ty : TypeId} {x : Operand} {k : IntKind} {a : Int}
theorem C8 (hx : t.ev x = .v (.int .u32 a)) : POp P t H ⟨dst, .unOp .xor ty x, tp, pos, aft, g⟩ (.v (.int .u32 (DV .u32 4294967295 a))) :=
 POp.still fun S w a' _ _ hr => by
  have h1 := hr x (by simp [Op.operands]); rw [hx] at h1
  exact ⟨.int .u32 (DV .u32 4294967295 a), by simp only [execOp]; rw [h1.v_eq]; rfl, .v _⟩
theorem Tj (hx : t.ev x = .v (.int .u32 a) := by exact zl) : POp P t H ⟨dst, .unOp .xor ty x, tp, pos, aft, g⟩ (.v (.int .u32 (DV .u32 4294967295 a))) := C8 hx
end
end Go.Cap
namespace Go.Proofs.YtjbokbikkcfjjaaGreat
open Go.Cap
attribute [local irreducible] POp Qf TO EOp Sim FnH T.gp
def BK (c : Int) : Int := DV .u32 (WF .u32 c 1) (IntKind.u32.wrap (3988292384 * WG .u32 c 1))
def AT : Nat → Int → Int
 | 0, c => c
 | k + 1, c => BK (AT k c)
def EQ (c : Int) (x : UInt8) : Int := AT 8 (DV .u32 c (IntKind.u32.wrap (x.toNat : Int)))
def Re (l : List UInt8) : Int := l.foldl EQ 4294967295
def DL (l : List UInt8) : Int := DV .u32 4294967295 (Re l)
theorem Rd (l : List UInt8) {k : Nat} (hk : k < l.length) : Re (l.take (k + 1)) = EQ (Re (l.take k)) l[k] := by
 unfold Re
 rw [List.take_succ_eq_append_getElem hk, List.foldl_append]
 rfl
theorem G3 (a : Int) : 0 ≤ IntKind.u32.wrap a ∧ IntKind.u32.wrap a < 4294967296 := by
 simp [IntKind.wrap, IntKind.bits, IntKind.signed]
 omega
theorem Uh (l : List UInt8) : 0 ≤ DL l ∧ DL l < 4294967296 := G3 _
def tS : TypeId := 191
def CrH (b : Nat) (c : Int) : Qc := [(b, ⟨tS, [.v (.int .u32 c)], 1⟩)]
theorem BM (b : Nat) (c : Int) (x : UInt8) : FnH Tryz.prog 153 [pW b, eb x] (CrH b c) (fun r H => r = .tup [] ∧ H = CrH b (EQ c x)) := by
 refine fe Tryz.func153 fun S0 w0 => ?_
 show Sim _ _ [(0, pW b), (1, eb x)] (CrH b c) _
 unfold CrH
 refine zC ?_
 refine cr <| s_ Qa <| s_ Qe <| s_ Ql <| s_ Qa <| s_ Yv <| s_ B2 <| s_ Qe <| Qz ?_
 refine zC ?_
 refine cr <| s_ Qa <| zC ?_
 apply Qo (σ := Nat) (ok := fun k => k ≤ 8) (env := fun k => [(11, ei k), (0, pW b)]) (heap := fun k => [(b, ⟨tS, [.v (.int .u32 (AT k (DV .u32 c (IntKind.u32.wrap (x.toNat : Int)))))], 1⟩)]) (μ := fun k => 8 - k) (s0 := 0)
 ·exact Nat.zero_le _
 ·exact eL
 ·exact kR
 intro k hk
 refine zC ?_
 refine cr <| s_ QU <| zC ?_
 refine ci ?_ ?_
 ·intro hlt
  refine zC ?_
  refine ca [0, 1, 2, 3, 4, 5, 6, 7, 8, 9, 10, 11, 12] [12] <| a_ (fun _ => Qa) <| a_ (fun _ => Qa) <| a_ (fun _ => Qe) <| QJ ?_
  refine a_ (fun _ => ZM) <| a_ (fun _ => Qa) <| a_ (fun _ => Qe) <| QJ ?_
  refine a_ (fun _ => J3) <| a_ (fun _ => Tf) <| a_ (fun _ => B2) <| a_ (fun _ => Qe) <| XN ?_
  apply an
  refine zC ?_
  refine cr <| s_ QY <| s_ Qa <| zC ?_
  refine ⟨k + 1, by omega, (by simp only []; omega), ⟨?_, eL⟩, kR⟩
  apply Qi; (exact zG)
  exact Le.refl _
 ·intro hge
  have : k = 8 := by omega
  subst this
  refine zC ?_
  exact rhn kR ⟨rfl, rfl⟩ (Le.refl _)
theorem EP (f : Bool) (l : List UInt8) (hl : l.length ≤ 1000000000000) : FnP Tryz.prog 126 [.sl f (l.map eb)] (fun r => r = .v (.int .u32 (DL l))) := by
 refine fe Tryz.func126 fun S0 w0 => ?_
 show Sim _ _ [(0, T.sl f (l.map eb))] _ _
 refine zC ?_
 refine cr <| s_ Qb <| zC ?_
 apply cr
 refine Yd fun b3 _ => ?_
 refine Qz ?_
 refine zC ?_
 refine cr <| s_ UE <| s_ Qb <| zC ?_
 refine cr <| s_ Qa ?_
 (first | refine s_ QP ?_ | refine s_ QO ?_)
 refine s_ Qa <| zC ?_
 apply Qo (σ := Nat) (ok := fun k => k ≤ l.length) (env := fun k => [(10, ei k), (9, ei (l.length : Nat)), (8, .sl f (l.map eb)), (4, .clo 153 [pW b3] []), (3, pW b3)]) (heap := fun k => CrH b3 (Re (l.take k))) (μ := fun k => l.length - k) (s0 := 0)
 ·exact Nat.zero_le _
 ·refine ⟨?_, ?_, eL⟩
  ·apply Qi; (exact zG)
   exact Le.refl _
  ·apply Qi; (exact zG)
   exact Le.of_eq (by simp [ei])
 ·exact kR
 intro k hk
 refine zC ?_
 refine cr <| s_ QU <| zC ?_
 refine ci ?_ ?_
 ·intro hlt
  have hlt' : k < l.length := by omega
  refine zC ?_
  apply cr
  (first | refine s_ (Xd hix) ?_ | refine s_ (Xd hix2) ?_ | refine s_ YE ?_ | refine s_ ZE ?_)
  (first | refine s_ Qm ?_ | refine s_ Ql ?_)
  refine s_ Qb <| zC ?_
  refine cr <| s_ Qa <| s_ Qa ?_
  refine Ug (fs := [pW b3]) (args := [eb l[k]]) (cs := []) (BM b3 (Re (l.take k)) l[k]) (Hr := []) Vf (fun r H' ⟨hr1, hr2⟩ => ?_)
  subst hr1 hr2
  refine zC ?_
  refine cr <| s_ QY <| s_ Qa <| zC ?_
  refine ⟨k + 1, by omega, (by simp only []; omega), ⟨?_, eL⟩, ?_⟩
  ·apply Qi; (exact zG)
   exact Le.refl _
  ·rw [List.append_nil, ← Rd _ hlt']; exact kR
 ·intro hge
  have hke : k = l.length := by omega
  subst hke
  rw [List.take_length]
  unfold CrH
  refine zC ?_
  refine cr <| s_ Ql <| s_ Tj <| s_ Qb <| zC ?_
  refine zE ?_
  exact Le.refl _
def UL (n : Int) : List UInt8 := [UInt8.ofNat (n.toNat % 256), UInt8.ofNat (n.toNat / 256 % 256), UInt8.ofNat (n.toNat / 65536 % 256), UInt8.ofNat (n.toNat / 16777216 % 256)]
theorem Vt (n : Nat) : IntKind.u8.wrap (n : Int) = ((UInt8.ofNat (n % 256)).toNat : Int) := by
 simp [IntKind.wrap, IntKind.bits, IntKind.signed]
theorem LU (n : Nat) {j : Int} {k : Nat} (hj : 0 ≤ j) (hk : j ≤ 32) (h : 2 ^ j.toNat = k) : WF .u32 (n : Int) j = ((n / k : Nat) : Int) := by
 unfold WF
 rw [show min j.toNat IntKind.u32.bits = j.toNat by simp only [IntKind.bits]; omega, show (2 : Int) ^ j.toNat = ((k : Nat) : Int) by rw [← h]; push_cast; rfl, Int.fdiv_eq_ediv_of_nonneg _ (by omega)]
 push_cast
 rfl
theorem GJ (n : Nat) : FnP Tryz.prog 175 [.v (.int .u32 n)] (fun r => r = .sl true ((UL n).map eb)) := by
 refine fe Tryz.func175 fun S0 w0 => ?_
 show Sim _ _ [(0, .v (.int .u32 n))] _ _
 refine zC ?_
 refine cr <| s_ Qb <| zC ?_
 refine cr <| s_ Qa <| s_ Yv <| s_ Qa <| s_ ZM <| s_ Yv <| s_ Qa <| s_ ZM <| s_ Yv <| s_ Qa <| s_ ZM <| s_ Yv ?_
 rw [LU n (j := 8) (k := 256) (by omega) (by omega) rfl, LU n (j := 16) (k := 65536) (by omega) (by omega) rfl, LU n (j := 24) (k := 16777216) (by omega) (by omega) rfl, Vt n, Vt (n / 256), Vt (n / 65536), Vt (n / 16777216)]
 refine s_ JG <| s_ Qb <| zC ?_
 refine zE ?_
 exact Le.refl _
def UZ (l : List UInt8) : Int := bOr .u32 (bOr .u32 (bOr .u32 (l.getD 0 0).toNat (Zy .u32 (l.getD 1 0).toNat 8)) (Zy .u32 (l.getD 2 0).toNat 16)) (Zy .u32 (l.getD 3 0).toNat 24)
theorem Al (x : UInt8) : IntKind.u32.wrap (x.toNat : Int) = (x.toNat : Int) := by
 have := x.toNat_lt
 simp [IntKind.wrap, IntKind.bits, IntKind.signed]
 omega
theorem Zr (f : Bool) (l : List UInt8) (hl : 4 ≤ l.length) : FnP Tryz.prog 125 [.sl f (l.map eb)] (fun r => r = .v (.int .u32 (UZ l))) := by
 obtain ⟨a, b, c, d, r, rfl⟩ : ∃ a b c d r, l = a :: b :: c :: d :: r := by
  match l, hl with
  | a :: b :: c :: d :: r, _ => exact ⟨a, b, c, d, r, rfl⟩
 refine fe Tryz.func125 fun S0 w0 => ?_
 show Sim _ _ [(0, .sl f ((a :: b :: c :: d :: r).map eb))] _ _
 refine zC ?_
 refine cr <| s_ Qb <| zC ?_
 refine zC ?_
 refine ca [0, 1, 2, 3, 4, 5, 6, 7, 8, 9, 10, 11, 12, 13, 14, 15, 16, 17, 18, 19, 20, 21, 22] [] <| a_ (fun _ => Qa) ?_
 (first | refine a_ (fun _ => Xd hix) ?_ | refine a_ (fun _ => Xd hix2) ?_ | refine a_ (fun _ => YE) ?_)
 refine a_ (fun _ => Qm) <| a_ (fun _ => Yv) <| a_ (fun _ => Qa) ?_
 (first | refine a_ (fun _ => Xd hix) ?_ | refine a_ (fun _ => Xd hix2) ?_ | refine a_ (fun _ => YE) ?_)
 refine a_ (fun _ => Qm) <| a_ (fun _ => Yv) <| a_ (fun _ => UD) <| a_ (fun _ => Vg) <| a_ (fun _ => Qa) ?_
 (first | refine a_ (fun _ => Xd hix) ?_ | refine a_ (fun _ => Xd hix2) ?_ | refine a_ (fun _ => YE) ?_)
 refine a_ (fun _ => Qm) <| a_ (fun _ => Yv) <| a_ (fun _ => UD) <| a_ (fun _ => Vg) <| a_ (fun _ => Qa) ?_
 (first | refine a_ (fun _ => Xd hix) ?_ | refine a_ (fun _ => Xd hix2) ?_ | refine a_ (fun _ => YE) ?_)
 refine a_ (fun _ => Qm) <| a_ (fun _ => Yv) <| a_ (fun _ => UD) <| a_ (fun _ => Vg) <| a_ (fun _ => Qb) ?_
 apply an
 refine zC ?_
 refine zE ?_
 exact Le.of_eq (by simp [XW, UZ, Al])
theorem Un {a : Int} (h0 : 0 ≤ a) (h1 : a < 4294967296) : IntKind.u32.wrap a = a := by
 simp [IntKind.wrap, IntKind.bits, IntKind.signed]
 omega
theorem AB {a x i k : Nat} (hi : i ≤ 31) (hk : 2 ^ i = k) (ha : a < k) (hx : a + k * x < 4294967296) : bOr .u32 (a : Int) (Zy .u32 (x : Int) (i : Int)) = ((a + k * x : Nat) : Int) := by
 have e2 : Zy .u32 (x : Int) (i : Int) = ((k * x : Nat) : Int) := by
  unfold Zy
  rw [show min ((i : Int)).toNat IntKind.u32.bits = i by simp only [IntKind.bits]; omega]
  have : (x : Int) * 2 ^ i = ((k * x : Nat) : Int) := by rw [← hk]; push_cast; rw [Int.mul_comm]
  rw [this, Un (by omega) (by omega)]
 rw [e2]
 unfold bOr
 have e3 : (BitVec.ofInt IntKind.u32.bits (a : Int) ||| BitVec.ofInt IntKind.u32.bits ((k * x : Nat) : Int)).toNat = a + k * x := by
  rw [BitVec.toNat_or, BitVec.toNat_ofInt, BitVec.toNat_ofInt]
  show ((a : Int) % 4294967296).toNat ||| (((k * x : Nat) : Int) % 4294967296).toNat = _
  rw [show ((a : Int) % 4294967296).toNat = a by omega, show (((k * x : Nat) : Int) % 4294967296).toNat = k * x by omega, Nat.or_comm, ← hk, ← Nat.two_pow_add_eq_or_of_lt (by rw [hk]; exact ha) x]
  omega
 rw [e3]
 exact Un (by omega) (by omega)
theorem Gq (a b c d : UInt8) (r : List UInt8) : UZ (a :: b :: c :: d :: r) = ((a.toNat + 256 * b.toNat + 65536 * c.toNat + 16777216 * d.toNat : Nat) : Int) := by
 have ha := a.toNat_lt
 have hb := b.toNat_lt
 have hc := c.toNat_lt
 have hd := d.toNat_lt
 unfold UZ
 show bOr .u32 (bOr .u32 (bOr .u32 (a.toNat : Int) (Zy .u32 (b.toNat : Int) ((8 : Nat) : Int))) (Zy .u32 (c.toNat : Int) ((16 : Nat) : Int))) (Zy .u32 (d.toNat : Int) ((24 : Nat) : Int)) = _
 rw [AB (i := 8) (k := 256) (by omega) rfl (by omega) (by omega), AB (i := 16) (k := 65536) (by omega) rfl (by omega) (by omega), AB (i := 24) (k := 16777216) (by omega) rfl (by omega) (by omega)]
theorem Ej (l : List UInt8) (h : 4 ≤ l.length) : 0 ≤ UZ l ∧ UZ l < 4294967296 := by
 match l, h with
 | a :: b :: c :: d :: r, _ =>
  have ha := a.toNat_lt
  have hb := b.toNat_lt
  have hc := c.toNat_lt
  have hd := d.toNat_lt
  rw [Gq]
  omega
theorem V2 {n : Int} (h0 : 0 ≤ n) (h1 : n < 4294967296) (r : List UInt8) : UZ (UL n ++ r) = n := by
 obtain ⟨m, rfl⟩ := Int.eq_ofNat_of_zero_le h0
 show UZ (UInt8.ofNat (m % 256) :: UInt8.ofNat (m / 256 % 256) :: UInt8.ofNat (m / 65536 % 256) :: UInt8.ofNat (m / 16777216 % 256) :: r) = _
 rw [Gq]
 simp only [UInt8.toNat_ofNat']
 omega
def Qt (x : List UInt8) : List UInt8 := UL x.length ++ (UL (DL x) ++ x)
theorem Z6 (n : Int) : (UL n).length = 4 := rfl
theorem XG (x : List UInt8) : (Qt x).length = 8 + x.length := by simp [Qt, Z6]; omega
theorem Dy {x : List UInt8} (hx : x.length ≤ 4194304) (r : List UInt8) : UZ (Qt x ++ r) = x.length := by
 unfold Qt
 rw [List.append_assoc]
 exact V2 (by omega) (by omega) _
theorem Dz (x : List UInt8) (r : List UInt8) : UZ ((Qt x ++ r).drop 4) = DL x := by
 unfold Qt
 rw [List.append_assoc, List.drop_left' (Z6 _), List.append_assoc]
 exact V2 (Uh x).1 (Uh x).2 _
theorem Lx (x r : List UInt8) : (Qt x ++ r).drop 8 = x ++ r := by
 unfold Qt
 rw [List.append_assoc, List.append_assoc, ← List.append_assoc, List.drop_left' (by rw [List.length_append]; rfl)]
theorem DA (f : Bool) (x : List UInt8) (hx : x.length ≤ 4194304) : FnP Tryz.prog 166 [.sl f (x.map eb)] (fun r => r = .tup [bl (Qt x), ei 0]) := by
 have hr := Uh x
 obtain ⟨c, hc⟩ : ∃ c : Nat, DL x = (c : Int) := ⟨(DL x).toNat, by omega⟩
 have h1 := GJ x.length
 have h2 := EP f x (by omega)
 have h3 := GJ c
 rw [← hc] at h3
 have h4 := LG true [(true, UL x.length), (true, UL c), (f, x)] (by simp [JZ, Z6]; omega) (by simp)
 rw [← hc] at h4
 refine fe Tryz.func166 fun S0 w0 => ?_
 show Sim _ _ [(0, .sl f (x.map eb))] _ _
 refine zC ?_
 refine cr <| s_ Qb <| s_ Qb <| zC ?_
 refine cr <| s_ Qa ?_
 (first | refine s_ QP ?_ | refine s_ QO ?_)
 refine s_ Yu <| zC ?_
 refine ci ?_ ?_
 ·intro h; exact absurd h (by simp only [List.length_map]; omega)
 intro _
 refine zC ?_
 refine cr <| s_ Qa ?_
 (first | refine s_ QP ?_ | refine s_ QO ?_)
 refine s_ Yv ?_
 rw [List.length_map, Un (a := ((x.length : Nat) : Int)) (by omega) (by omega)]
 refine s_ (QQ (h1)) <| s_ Qa <| s_ (QQ (h2)) <| s_ (QQ (h3)) <| s_ Qa <| s_ JG <| s_ (QQ (h4)) <| s_ Qb <| s_ Qb <| zC ?_
 refine zE ?_
 exact Le.of_eq (by simp [XW, JZ, bl, Qt]; rfl)
theorem AC (x : List UInt8) (hx : x.length ≤ 4194304) : FnP Tryz.prog 93 [.sl false ((Qt x).map eb)] (fun r => r = .tup [bl x, ei 0]) := by
 have hlen := XG x
 have h1 := Zr false (Qt x) (by omega)
 have hn := Dy hx []
 have hcr := Dz x []
 have hdr := Lx x []
 rw [List.append_nil] at hn hcr hdr
 rw [hn] at h1
 rw [List.append_nil] at hdr
 have h2 := EP false x (by omega)
 have h3 := Zr false ((Qt x).drop 4) (by rw [List.length_drop]; omega)
 rw [hcr] at h3
 have h4 := Zx false x (by omega)
 refine fe Tryz.func93 fun S0 w0 => ?_
 show Sim _ _ [(0, .sl false ((Qt x).map eb))] _ _
 refine zC ?_
 refine cr <| s_ Qb <| s_ Qb <| zC ?_
 refine cr <| s_ Qa ?_
 (first | refine s_ QP ?_ | refine s_ QO ?_)
 refine s_ QU <| zC ?_
 refine ci ?_ ?_
 ·intro h; exact absurd h (by simp only [List.length_map]; omega)
 intro _
 refine zC ?_
 refine ca [0, 1, 2, 3, 4, 5] [] <| a_ (fun _ => Qa) <| a_ (fun _ => QQ (h1)) <| a_ (fun _ => Qa) <| a_ (fun _ => UY (i := 8) (xs := (Qt x).map eb) (ys := x.map eb) (by rw [← hdr, List.map_drop]; rfl)) <| a_ (fun _ => Qb) <| a_ (fun _ => Qb) ?_
 apply an
 refine zC ?_
 refine cr <| s_ Qa <| s_ Yu <| s_ Qb <| zC ?_
 refine ci ?_ ?_
 ·intro h; exact absurd h (by omega)
 intro _
 refine zC ?_
 refine cr <| s_ Qa <| s_ Yv ?_
 rw [YS (a := ((x.length : Nat) : Int)) (by omega) (by omega)]
 refine s_ Qa ?_
 (first | refine s_ QP ?_ | refine s_ QO ?_)
 refine s_ Yu <| s_ Qb <| zC ?_
 refine ci ?_ ?_
 ·intro h; exact absurd h (by simp only [List.length_map]; omega)
 intro _
 refine zC ?_
 refine cr <| s_ Qa <| s_ Yv ?_
 rw [YS (a := ((x.length : Nat) : Int)) (by omega) (by omega)]
 refine s_ Qa ?_
 (first | refine s_ QP ?_ | refine s_ QO ?_)
 refine s_ QU <| s_ Qb <| zC ?_
 refine ci ?_ ?_
 ·intro h; exact absurd h (by simp only [List.length_map]; omega)
 intro _
 refine zC ?_
 refine ca [0, 1, 2, 3, 4, 5, 6] [] <| a_ (fun _ => Qa) <| a_ (fun _ => QQ (h2)) <| a_ (fun _ => Qa) <| a_ (fun _ => UY (i := 4) (xs := (Qt x).map eb) (ys := ((Qt x).drop 4).map eb) (by rw [List.map_drop]; rfl)) <| a_ (fun _ => QQ (h3)) <| a_ (fun _ => Yq) <| a_ (fun _ => Qb) ?_
 apply an
 refine zC ?_
 refine ci ?_ ?_
 ·intro h; exact absurd rfl h
 intro _
 refine zC ?_
 refine cr <| s_ Qa <| s_ (QQ (h4)) <| s_ Qb <| s_ Qb <| zC ?_
 refine zE ?_
 exact Le.refl _
def tBl (l : List (List UInt8)) : T := .sl false (l.map bl)
def OBl (l : List (List UInt8)) (v : Value) (Hs : Qc) : Prop := OSl tBB 1 (l.map bl) v Hs
theorem bl1 (l : List (List UInt8)) : ∀ x ∈ l.map bl, x.cells.length = 1 := zk
theorem TI (l : List (List UInt8)) : ∀ x ∈ l.map bl, x.solid := Z0 _ (fun _ => .inl rfl) _
theorem OBl.len {l : List (List UInt8)} {v : Value} {Hs : Qc} (h : OBl l v Hs) : ∃ p c, v = .slice p (l.map bl).length c := OSl.len h
def E0 (t : List UInt8) : Prop := t.length < 8 ∨ 4194304 < UZ t ∨ (t.length : Int) - 8 < UZ t
theorem OZ (l : List (List UInt8)) {k : Nat} (hk : k < l.length) : (l.take (k + 1)).flatMap Qt = (l.take k).flatMap Qt ++ Qt l[k] := by
 rw [List.take_succ_eq_append_getElem hk, List.flatMap_append]
 simp
theorem EG (l : List (List UInt8)) (k : Nat) (t : List UInt8) : (l.flatMap Qt ++ t).drop ((l.take k).flatMap Qt).length = (l.drop k).flatMap Qt ++ t := by
 conv => lhs; rw [← List.take_append_drop k l]
 rw [List.flatMap_append, List.append_assoc, List.take_append_drop, List.drop_left' rfl]
theorem BB (l : List (List UInt8)) (k : Nat) : ((l.take k).flatMap Qt).length ≤ (l.flatMap Qt).length := by
 conv => rhs; rw [← List.take_append_drop k l]
 rw [List.flatMap_append, List.length_append]; omega
theorem CP (l : List (List UInt8)) (tl : List UInt8) (hst : E0 tl) (hl : ∀ x ∈ l, x.length ≤ 4194304) (hb : (l.flatMap Qt ++ tl).length ≤ 100000000) : FnP Tryz.prog 95 [.sl false ((l.flatMap Qt ++ tl).map eb)] (fun r => r = .tup [tBl l, ei (l.flatMap Qt).length]) := by
 obtain ⟨B, hB⟩ : ∃ B, B = l.flatMap Qt ++ tl := ⟨_, rfl⟩
 rw [← hB] at hb ⊢
 have hcnt : l.length ≤ 100000000 := by
  have : l.length ≤ (l.flatMap Qt).length := by
   clear hl hB
   induction l with
   | nil => simp
   | cons x l ih => rw [List.flatMap_cons, List.length_append, XG, List.length_cons]; omega
  rw [hB, List.length_append] at hb
  omega
 refine FnH.give (Φ := fun r H => ∃ v, r = .tup [.v v, ei (l.flatMap Qt).length] ∧ OBl l v H) ?_ (by rintro r H ⟨v, rfl, ho⟩; exact Qx.tup (Qg.cons (OSl.lend ho (fun _ h => h) (bl1 _) (TI _)) (Qg.cons (Qx.le (Le.refl _)) Qg.nil)))
 refine fe Tryz.func95 fun S0 w0 => ?_
 show Sim _ _ [(0, .sl false (B.map eb))] _ _
 refine zC ?_
 refine cr <| s_ Qb <| s_ Qb <| zC ?_
 apply Qo (σ := Nat × Value × Qc) (ok := fun s => s.1 ≤ l.length ∧ OBl (l.take s.1) s.2.1 s.2.2) (env := fun s => [(2, .v s.2.1), (3, ei ((l.take s.1).flatMap Qt).length), (0, .sl false (B.map eb))]) (heap := fun s => s.2.2) (μ := fun s => l.length + 1 - s.1) (s0 := (0, .slice none 0 0, []))
 ·exact ⟨Nat.zero_le _, Y7⟩
 ·exact eL
 ·exact kR
 rintro ⟨k, v, H⟩ ⟨hk, ho⟩
 simp only at hk ho
 show Sim _ _ [(2, .v v), (3, ei ((l.take k).flatMap Qt).length), (0, .sl false (B.map eb))] H _
 have hsp := EG l k tl
 rw [← hB] at hsp
 have hle := BB l k
 have hBl : (l.flatMap Qt).length ≤ B.length := by rw [hB, List.length_append]; omega
 obtain ⟨p, c, rfl⟩ := ho.len
 by_cases hkl : k < l.length
 ·obtain ⟨x, hx⟩ : ∃ x, x = l[k] := ⟨_, rfl⟩
  obtain ⟨rest, hrest⟩ : ∃ rest, rest = (l.drop (k + 1)).flatMap Qt ++ tl := ⟨_, rfl⟩
  have htodo : (l.drop k).flatMap Qt ++ tl = Qt x ++ rest := by
   rw [List.drop_eq_getElem_cons hkl, List.flatMap_cons, List.append_assoc, ← hrest, ← hx]
  rw [htodo] at hsp
  have hxl : x.length ≤ 4194304 := hl x (by rw [hx]; exact List.getElem_mem hkl)
  have hfl := XG x
  have h1 := Zr false (Qt x ++ rest) (by rw [List.length_append]; omega)
  rw [Dy hxl rest] at h1
  have h2 := EP false x (by omega)
  have h3 := Zr false ((Qt x ++ rest).drop 4) (by rw [List.length_drop, List.length_append]; omega)
  rw [Dz x rest] at h3
  have h4 := Zx false x (by omega)
  have hnx := OZ l hkl
  rw [← hx] at hnx
  have htot : (Qt x ++ rest).length ≤ 100000000 := by rw [← hsp, List.length_drop]; omega
  refine zC ?_
  refine cr <| s_ Qa <| s_ Qa <| s_ (UY (i := ((((l.take k).flatMap Qt).length : Nat) : Int)) (xs := B.map eb) (ys := (Qt x ++ rest).map eb) (by rw [← hsp, List.map_drop]; rfl)) <| s_ Qb <| zC ?_
  refine cr <| s_ Qa ?_
  (first | refine s_ QP ?_ | refine s_ QO ?_)
  refine s_ QU <| zC ?_
  refine ci ?_ ?_
  ·intro h; exact absurd h (by simp only [List.length_map, List.length_append]; omega)
  intro _
  refine zC ?_
  refine cr <| s_ Qa <| s_ (QQ (h1)) <| s_ Qb <| zC ?_
  refine zC ?_
  refine cr <| s_ Qa <| s_ Yu <| s_ Qa <| gF (fun hg => Qa) ?_
  refine gF (fun hg => Yv (hx := u_ hg)) ?_
  refine gF (fun hg => Qa) ?_
  (first | refine gF (fun hg => QP (hx := u_ hg)) ?_ | refine gF (fun hg => QO (hx := u_ hg)) ?_)
  refine gF (fun hg => Zp (hx := u_ hg)) ?_
  refine gF (fun hg => Yu (hx := u_ hg) (hy := u_ hg)) ?_
  refine s_ YW <| zC ?_
  refine ci ?_ ?_
  ·intro h
   rw [YS (a := ((x.length : Nat) : Int)) (by omega) (by omega)] at h
   exact absurd h (by simp only [List.length_map, List.length_append]; omega)
  intro _
  refine zC ?_
  refine cr <| s_ Qa <| s_ Qa <| s_ VY ?_
  rw [Un (a := 8 + ((x.length : Nat) : Int)) (by omega) (by omega)]
  refine s_ (Av (i := 8) (j := 8 + ((x.length : Nat) : Int)) (xs := (Qt x ++ rest).map eb) (ys := x.map eb) (by
   rw [← List.map_drop, ← List.map_take, show (8 : Int).toNat = 8 from rfl, Lx, show (8 + ((x.length : Nat) : Int)).toNat - 8 = x.length by omega, List.take_left' rfl]) (h2 := by simp only [List.length_map, List.length_append]; omega)) ?_
  refine s_ Qb <| zC ?_
  refine zC ?_
  refine ca [0, 1, 2, 3, 4, 5] [] <| a_ (fun _ => Qa) <| a_ (fun _ => QQ (h2)) <| a_ (fun _ => Qa) <| a_ (fun _ => UY (i := 4) (xs := (Qt x ++ rest).map eb) (ys := ((Qt x ++ rest).drop 4).map eb) (by rw [List.map_drop]; rfl) (h2 := by simp only [List.length_map, List.length_append]; omega)) <| a_ (fun _ => QQ (h3)) <| a_ (fun _ => Yq) ?_
  apply an
  refine zC ?_
  refine ci ?_ ?_
  ·intro h; exact absurd rfl h
  intro _
  refine zC ?_
  refine cr <| s_ Qa <| s_ Qa <| s_ (QQ (h4)) <| s_ JG ?_
  refine BG (ho := ho) (A := []) (B := []) (ys := [bl x]) (f := true) (bl1 _) (fun v' Hs' ho' => ?_) (hH := by simp)
  obtain ⟨p', c', rfl⟩ := ho'.len
  refine s_ Qb <| zC ?_
  refine cr <| s_ Qa <| s_ Qa <| s_ Yv ?_
  rw [YS (a := ((x.length : Nat) : Int)) (by omega) (by omega)]
  refine s_ QY <| s_ QY <| s_ Qb <| zC ?_
  refine ⟨(k + 1, .slice p' (List.map bl (List.take k l) ++ [bl x]).length c', Hs'), ⟨by simp only; omega, ?_⟩, (by simp only []; omega), ⟨?_, ?_, eL⟩, by simp only [List.nil_append, List.append_nil]; exact kR⟩
  ·simp only
   rw [List.take_succ_eq_append_getElem hkl, ← hx]
   unfold OBl
   rw [List.map_append]
   exact ho'
  ·apply Qi; (exact zG)
   exact Le.refl _
  ·apply Qi; (exact zG)
   simp only
   rw [hnx, List.length_append, hfl]
   exact Le.of_eq (by simp [ei])
 ·have hke : k = l.length := by omega
  subst hke
  rw [List.drop_length, List.flatMap_nil, List.nil_append] at hsp
  rw [List.take_length] at hsp hle ho
  rw [List.take_length]
  have hbb : B.length = (l.flatMap Qt).length + tl.length := by rw [hB, List.length_append]
  refine zC ?_
  refine cr <| s_ Qa <| s_ Qa <| s_ (UY (i := (((l.flatMap Qt).length : Nat) : Int)) (xs := B.map eb) (ys := tl.map eb) (by rw [← hsp, List.map_drop]; rfl)) <| s_ Qb <| zC ?_
  refine cr <| s_ Qa ?_
  (first | refine s_ QP ?_ | refine s_ QO ?_)
  refine s_ QU <| zC ?_
  refine ci ?_ ?_
  ·intro _
   refine zC ?_
   refine cr <| s_ Qa <| s_ Qa <| s_ Qb <| s_ Qb <| zC ?_
   refine zR ?_
   exact rh kR ⟨_, rfl, ho⟩ (Le.refl _)
  intro h8
  have h8' : 8 ≤ tl.length := by simp only [List.length_map] at h8; omega
  have hr := Ej tl (by omega)
  have h1 := Zr false tl (by omega)
  refine zC ?_
  refine cr <| s_ Qa <| s_ (QQ (h1)) <| s_ Qb <| zC ?_
  refine zC ?_
  refine cr <| s_ Qa <| s_ Yu <| s_ Qa <| gF (fun hg => Qa) ?_
  refine gF (fun hg => Yv (hx := u_ hg)) ?_
  refine gF (fun hg => Qa) ?_
  (first | refine gF (fun hg => QP (hx := u_ hg)) ?_ | refine gF (fun hg => QO (hx := u_ hg)) ?_)
  refine gF (fun hg => Zp (hx := u_ hg)) ?_
  refine gF (fun hg => Yu (hx := u_ hg) (hy := u_ hg)) ?_
  refine s_ YW <| zC ?_
  refine ci ?_ ?_
  ·intro _
   refine zC ?_
   refine cr <| s_ Qa <| s_ Qa <| s_ Qb <| s_ Qb <| zC ?_
   refine zR ?_
   exact rh kR ⟨_, rfl, ho⟩ (Le.refl _)
  ·intro h
   refine absurd ?_ h
   rw [YS (by omega) (by omega), List.length_map]
   rcases hst with h | h | h
   ·omega
   ·exact .inl h
   ·exact .inr h
end Go.Proofs.YtjbokbikkcfjjaaGreat
namespace Go.Cap
section
variable {K : Ctx} {t : Env} {H Hs Hr : Qc} {N : Env → Qc → Prop} {ops : Array Oper} {i j kg : Nat} {l : List Oper} {ty ty' tp : TypeId} {pos : String} {aft : Array Edge} {kd : Tmp} {p : Prop} {ip : Decidable p}
theorem Ag {dst : Option Tmp} {op : Op} {want b0 : Bool} (hj : (ops[j]?).bind (·.dst) = some kg) (hb : t.get kg = .v (.bool b0)) (hw : b0 = want) (h : EOp K t H ⟨dst, op, tp, pos, aft, some (j, want)⟩ (fun t' H' => Qf K ops (i + 1) l t' H' N)) :
  Qf K ops i (⟨dst, op, tp, pos, aft, some (j, want)⟩ :: l) t H N := by
 intro hl a w Q hr hq
 rw [Jz]
 unfold wpOpIn
 have hv : a.tmps.getD kg undef = .bool b0 := by obtain ⟨S, hr⟩ := hr; have := hr.env kg; rw [hb] at this; exact this.v_eq
 simp only [WH hl, (Xv (o := ⟨dst, op, tp, pos, aft, some (j, want)⟩) rfl hj hv).1 (by rw [hw]), if_true]
 exact h a w hr _ Q fun t' H' a' w' hn hr' => hn (US hl) a' w' Q hr' hq
theorem GI {f : FuncId} {xs : Array Operand} {ats : Array TypeId} {args : List T} {Φ : T → Qc → Prop} (hp : ¬ p) (hf : FnH K.P f args Hs Φ) (hP : H.Perm (Hs ++ Hr)) (hn : ∀ r H', Φ r H' → Qf K ops (i + 1) l ((kd, r) :: t) (H' ++ Hr) N) (hj : (ops[j]?).bind (·.dst) = some kg := by rfl) (hb : t.get kg = .v (.bool (decide p)) := by exact zG)
  (ha' : EvL t xs.toList args) (hc : QE K.P f = true := by rfl) (hd : Xo (some kd) K.n = true := by rfl) : Qf K ops i (⟨some kd, .call ⟨.value (.func f), xs, ats⟩, tp, pos, aft, some (j, false)⟩ :: l) t H N :=
 Ag hj hb (by simpa using hp) (YH hf hP hc ha' hd hn)
theorem TF {x : Operand} {n : Nat} {d : T} {by_ : Nat} {k : IntKind} [hz : QL K.P ty d by_] (h : ∀ b, (∀ c ∈ keys H, ¬ c = b) → Qf K ops (i + 1) l ((kd, .v (.slice (some ⟨b, 0, none⟩) n n)) :: t) ((b, ⟨Xk K.P ty, (List.replicate n d.cells).flatten, n * d.cells.length⟩) :: H) N)
  (hx : t.ev x = .v (.int k n) := by exact zl) (hb : n * by_ ≤ 281474976710656 := by exact zo) (hm : (n : Int) ≤ 9223372036854775807 := by exact zo) (hd : Nat.blt kd K.n = true := by rfl) : Qf K ops i (⟨some kd, .makeSlice ty x x, tp, pos, aft, none⟩ :: l) t H N :=
 YG (I7 hx hx (by omega) (Int.le_refl _) (by rw [Int.toNat_natCast]; exact hb) hm hd (by simpa using h))
theorem AQ {x y : Operand} {b o n c m : Nat} {ty0 : TypeId} {cells : List T} {f : Bool} {xs : List T} {kk : Nat} {H' : Qc} [hs : Zb K.P ty kk] (h : Qf K ops (i + 1) l ((kd, .v (.int .i64 (min xs.length n : Nat))) :: t) H' N) (ho : o + min xs.length n * kk ≤ cells.length) (hx : t.ev x = .v (.slice (some ⟨b, o, none⟩) n c) := by exact zl) (hy : t.ev y = .sl f xs := by exact zl)
  (hi : Jw H (b, ⟨ty0, cells, m⟩) (b, ⟨ty0, lay cells o ((xs.take (min xs.length n)).flatMap T.cells), m⟩) H' := by exact zr) (hp : Nat.blt 0 kk = true := by rfl) (hk : ∀ x ∈ xs, x.cells.length = kk := by exact zk) (hl : ∀ x ∈ xs, QG x.cells = true := by exact zf) (hd : Nat.blt kd K.n = true := by rfl) :
  Qf K ops i (⟨some kd, .call ⟨.builtin .copy, #[x, y], #[ty, ty']⟩, tp, pos, aft, none⟩ :: l) t H N := YG (O7 hx hy hi hp hk hl ho hd h)
end
end Go.Cap
namespace Go.Proofs.YtjbokbikkcfjjaaGreat
open Go.Cap
attribute [local irreducible] POp Qf TO EOp Sim FnH T.gp
theorem UR (l : List UInt8) : (l.map eb).flatMap T.cells = l.map eb := O3 eb (fun _ => rfl) l
theorem Bn (Z A B : List T) (h : Z.length = A.length + B.length) : lay (lay Z 0 A) A.length B = A ++ B := by
 unfold lay
 simp only [List.take_zero, List.nil_append, Nat.zero_add]
 rw [List.take_left' rfl, List.drop_of_length_le (l := A ++ Z.drop A.length) (by simp; omega), List.append_nil]
theorem VZ (l : List UInt8) (hl : l.length ≤ 1000000000000) : FnP Tryz.prog 73 [bl l] (fun r => r = bl l) := by
 refine FnH.give (Φ := fun r H => ∃ v, r = .v v ∧ OB l v H) ?_ (by rintro r H ⟨v, rfl, ho⟩; exact ho.lend fun _ h => h)
 refine fe Tryz.func73 fun S0 w0 => ?_
 show Sim _ _ [(0, .sl false (l.map eb))] _ _
 refine zC ?_
 refine cr <| s_ Qb <| zC ?_
 refine cr <| s_ Qa ?_
 (first | refine s_ QP ?_ | refine s_ QO ?_)
 refine TF (fun b6 _ => ?_)
 refine s_ Qb <| zC ?_
 refine cr <| s_ Qa <| s_ Qa ?_
 refine AQ ?_ ?_
 rotate_left
 ·simp [Zu, T.cells, Value.cells]
 refine zC ?_
 refine cr <| s_ Qa <| s_ Qb <| zC ?_
 refine zR ?_
 refine rh kR ⟨_, rfl, .inr ⟨b6, (l.map eb).length, rfl, Nat.le_refl _, ?_⟩⟩ (Le.refl _)
 rw [Nat.min_self, List.take_length, UR, Lo _ _ (by rw [Zu]; simp [T.cells, Value.cells])]
 rfl
structure Dk where
 left : Int
 odd : Int
 dead : Bool
 log : List UInt8
 synced : Int
 snap : List UInt8
 room : Int
def tD : TypeId := 89
def dkC (d : Dk) : List T := [ei d.left, ei d.odd, eB d.dead, bl d.log, ei d.synced, bl d.snap, ei d.room]
def DkH (b : Nat) (d : Dk) : Qc := [(b, ⟨tD, dkC d, 7⟩)]
structure Um (d : Dk) : Prop where
 l0 : 0 ≤ d.left
 l1 : d.left ≤ 1000000000
 r0 : 0 ≤ d.room
 r1 : d.room ≤ 16777216
 used : ((d.log.length + d.snap.length : Nat) : Int) ≤ 100000000
theorem Y9 (b : Bool) : ∃ (p : Prop) (ip : Decidable p), b = @decide p ip := ⟨b = true, inferInstance, by simp⟩
def Q1 (d : Dk) : Dk × Bool := if 0 < d.left then ({ d with left := d.left - 1, dead := decide (d.left - 1 = 0) }, !decide (d.left - 1 = 0)) else (d, !d.dead)
theorem Us (b : Nat) (d : Dk) (hd : Um d) : FnH Tryz.prog 128 [pW b] (DkH b d) (fun r H => r = eB (Q1 d).2 ∧ H = DkH b (Q1 d).1) := by
 have h1 := hd.l1
 obtain ⟨left, odd, dead, log, synced, snap, room⟩ := d
 obtain ⟨p, ip, rfl⟩ := Y9 dead
 simp only at h1
 refine fe Tryz.func128 fun S0 w0 => ?_
 show Sim _ _ [(0, pW b)] (DkH b _) _
 unfold DkH dkC eB
 refine zC ?_
 refine cr <| s_ Qb <| zC ?_
 refine cr <| s_ Qa <| s_ Qe <| s_ Qd <| s_ Ql <| s_ Yu <| zC ?_
 refine ci ?_ ?_
 ·intro hlt
  have hlt' : 0 < left := hlt
  refine zC ?_
  refine cr <| s_ Qa <| s_ Qe <| s_ Qd <| s_ Ql <| s_ Zp <| s_ Qe <| s_ Qd <| Qz ?_
  refine zC ?_
  refine cr <| s_ Qa <| s_ Qa <| s_ Qe <| s_ Qd <| s_ Ql <| s_ XF <| s_ Qe <| s_ Qd <| Qz ?_
  refine zC ?_
  refine cr <| s_ Qa <| s_ Qe <| s_ Qd <| s_ Ql <| s_ YA <| s_ Qb <| zC ?_
  refine zR ?_
  refine rh kR (d := eB (!decide (left - 1 = 0))) ?_ ?_
  ·simp only [Q1, if_pos hlt']
   exact ⟨rfl, rfl⟩
  ·exact Le.of_eq (by simp [XW, eB])
 ·intro hlt
  have hlt' : ¬ 0 < left := hlt
  refine zC ?_
  refine cr <| s_ Qa <| s_ Qe <| s_ Qd <| s_ Ql <| s_ YA <| s_ Qb <| zC ?_
  refine zR ?_
  refine rh kR (d := eB (!decide p)) ?_ ?_
  ·simp only [Q1, if_neg hlt']
   exact ⟨rfl, trivial⟩
  ·exact Le.of_eq (by simp [XW, eB])
theorem ZJ (d : Dk) : ∃ left dead done, Q1 d = (⟨left, d.odd, dead, d.log, d.synced, d.snap, d.room⟩, done) := by
 unfold Q1
 split
 ·exact ⟨_, _, _, rfl⟩
 ·exact ⟨_, _, _, rfl⟩
def Ul (d : Dk) (x : List UInt8) : Dk × Int := if d.dead then (d, 20) else if d.room - d.log.length - d.snap.length < x.length then (d, 19) else
 ({ (Q1 d).1 with log := d.log ++ x }, if (Q1 d).2 then 0 else 20)
theorem DI (b : Nat) (d : Dk) (x : List UInt8) (hd : Um d) (hx : x.length ≤ 1000000000) : FnH Tryz.prog 167 [pW b, bl x] (DkH b d) (fun r H => r = ei (Ul d x).2 ∧ H = DkH b (Ul d x).1) := by
 have hr0 := hd.r0
 have hr1 := hd.r1
 have hu := hd.used
 have hsf := Us b d hd
 obtain ⟨left1, dead1, done, hsp⟩ := ZJ d
 obtain ⟨left, odd, dead, log, synced, snap, room⟩ := d
 obtain ⟨p, ip, rfl⟩ := Y9 dead
 simp only at hr0 hr1 hu hsp
 rw [hsp] at hsf
 obtain ⟨q, iq, rfl⟩ := Y9 done
 refine fe Tryz.func167 fun S0 w0 => ?_
 show Sim _ _ [(0, pW b), (1, .sl false (x.map eb))] [(b, ⟨tD, [ei left, ei odd, .v (.bool (decide p)), .sl false (log.map eb), ei synced, .sl false (snap.map eb), ei room], 7⟩)] _
 refine zC ?_
 refine cr <| s_ Qb <| zC ?_
 refine cr <| s_ Qa <| s_ Qe <| s_ Qd <| s_ Qd <| s_ Ql <| s_ Qb <| zC ?_
 refine ci ?_ ?_
 ·intro hp
  refine zC ?_
  refine cr <| s_ Qb <| zC ?_
  refine zR ?_
  refine rh kR ⟨?_, ?_⟩ (Le.refl _)
  ·simp [Ul, hp]; rfl
  ·simp [Ul, hp]; rfl
 intro hp
 refine zC ?_
 refine ca [0, 1, 2, 3, 4, 5, 6, 7, 8, 9, 10, 11, 12, 13, 14, 15, 16, 17, 18, 19] [] <| a_ (fun _ => Qa) ?_
 (first | refine a_ (fun _ => QP) ?_ | refine a_ (fun _ => QO) ?_)
 refine a_ (fun _ => Qa) <| a_ (fun _ => Qe) <| a_ (fun _ => Qd) <| QJ ?_
 refine a_ (fun _ => Qa) <| a_ (fun _ => Qe) <| a_ (fun _ => Qd) <| QJ ?_
 (first | refine a_ (fun _ => QP) ?_ | refine a_ (fun _ => QO) ?_)
 refine a_ (fun _ => Zp) <| a_ (fun _ => Qa) <| a_ (fun _ => Qe) <| a_ (fun _ => Qd) <| QJ ?_
 (first | refine a_ (fun _ => QP) ?_ | refine a_ (fun _ => QO) ?_)
 refine a_ (fun _ => Zp) <| a_ (fun _ => Yu) <| a_ (fun _ => Qb) ?_
 apply an
 refine zC ?_
 refine ci ?_ ?_
 ·intro hf
  simp only [List.length_map] at hf
  refine zC ?_
  refine cr <| s_ Qb <| zC ?_
  refine zR ?_
  refine rh kR ⟨?_, ?_⟩ (Le.refl _)
  ·simp [Ul, hp, hf]; rfl
  ·simp [Ul, hp, hf]; rfl
 intro hf
 simp only [List.length_map] at hf
 refine zC ?_
 refine cr <| s_ Qa <| s_ Qe <| s_ Qd ?_
 refine QI hsf (fun r H' ⟨hr1, hr2⟩ => ?_)
 subst hr1 hr2
 show Qf _ _ _ _ ((36, .v (.bool (decide q))) :: _) [(b, ⟨tD, [ei left1, ei odd, .v (.bool dead1), .sl false (log.map eb), ei synced, .sl false (snap.map eb), ei room], 7⟩)] _
 refine s_ Qb <| zC ?_
 refine cr <| s_ Qa <| s_ Qe <| s_ Qd <| s_ Ql ?_
 (first | refine s_ QP ?_ | refine s_ QO ?_)
 refine s_ Qa ?_
 (first | refine s_ QP ?_ | refine s_ QO ?_)
 refine s_ QY ?_
 have hcast : (((log.map eb).length : Nat) : Int) + (((x.map eb).length : Nat) : Int) = ((log.length + x.length : Nat) : Int) := by simp
 rw [hcast]
 refine TF (fun b6 _ => ?_)
 refine s_ Qb <| zC ?_
 refine cr <| s_ Qa <| s_ Qa <| s_ Qa <| s_ Qe <| s_ Qd <| s_ Ql ?_
 refine AQ ?_ ?_
 rotate_left
 ·simp [Zu, T.cells, Value.cells]
 have hmin : min (log.map eb).length (log.length + x.length) = log.length := by simp
 rw [hmin, show ((log.map eb).take log.length).flatMap T.cells = log.map eb by rw [List.take_of_length_le (by simp), UR]]
 obtain ⟨o, ho, hol, hsub⟩ : ∃ o, (o = log.length ∨ x = []) ∧ o + x.length ≤ log.length + x.length ∧ JX 1 (some ⟨b6, 0, none⟩) (log.length + x.length) ((log.length : Nat) : Int).toNat (log.length + x.length - ((log.length : Nat) : Int).toNat) = .slice (some ⟨b6, o, none⟩) x.length x.length := by
  by_cases hx0 : x = []
  ·subst hx0
   exact ⟨0, .inr rfl, by simp, by simp [JX]⟩
  ·have : x.length ≠ 0 := fun h => hx0 (List.length_eq_zero_iff.1 h)
   refine ⟨log.length, .inl rfl, by omega, ?_⟩
   simp only [JX, Int.toNat_natCast, Option.map_some]
   rw [if_neg (by omega), show log.length + x.length - log.length = x.length by omega]
   simp [Addr.add]
   intro h; simp [h]
 have hfin : lay (lay (List.replicate (log.length + x.length) (T.v (Value.int IntKind.u8 0)).cells).flatten 0 (log.map eb)) o (((x.map eb).take (min (x.map eb).length x.length)).flatMap T.cells) = (log ++ x).map eb := by
  have hz : ((List.replicate (log.length + x.length) (T.v (Value.int IntKind.u8 0)).cells).flatten).length = (log.map eb).length + (x.map eb).length := by simp [Zu, T.cells, Value.cells]
  rw [List.length_map, Nat.min_self, List.take_of_length_le (by simp), UR, List.map_append]
  rcases ho with rfl | rfl
  ·have := Bn _ (log.map eb) (x.map eb) hz
   rwa [List.length_map] at this
  ·simp only [List.map_nil, List.append_nil, List.length_nil, Nat.add_zero] at hz ⊢
   rw [Lo _ _ hz]
   simp [lay]
 refine s_ (Ii (d := T.v (.int .u8 0)) (i := ((log.length : Nat) : Int)) (p := some ⟨b6, 0, none⟩) (n := log.length + x.length) (c := log.length + x.length) (Nat.le_refl _) hsub) <| s_ Qa ?_
 refine AQ ?_ ?_
 rotate_left
 ·rw [Uc (by simp [Zu, T.cells, Value.cells])]
  simp [Zu, T.cells, Value.cells]; omega
 rw [hfin]
 refine zC ?_
 refine Ts 6 (bl (log ++ x)) (G := [_]) (H1 := [_]) ?_ (.refl _) ?_
 ·refine OB.lend (l := log ++ x) (Hs := [_]) (.inr ⟨b6, log.length + x.length, by simp, by simp, ?_⟩) (fun _ h => h)
  rw [UR]; rfl
 unfold bl
 have hA : Ul ⟨left, odd, decide p, log, synced, snap, room⟩ x = (⟨left1, odd, dead1, log ++ x, synced, snap, room⟩, if decide q then 0 else 20) := by
  unfold Ul
  rw [if_neg (by simpa using hp), if_neg hf, hsp]
 rw [hA]
 refine zC ?_
 refine cr <| s_ Qa <| s_ Qa <| s_ Qe <| s_ Qd <| Qz ?_
 refine zC ?_
 refine cr <| s_ Qa <| s_ YA <| zC ?_
 refine ci ?_ ?_
 ·intro hq
  refine zC ?_
  refine cr <| s_ Qb <| zC ?_
  refine zR ?_
  refine rh kR ⟨?_, ?_⟩ (Le.refl _)
  ·simp [hq]; rfl
  ·rfl
 ·intro hq
  refine zC ?_
  refine cr <| s_ Qb <| zC ?_
  refine zR ?_
  refine rh kR ⟨?_, ?_⟩ (Le.refl _)
  ·simp [Decidable.not_not.1 hq]; rfl
  ·rfl
def Jr (d : Dk) : Dk × Int := if d.dead then (d, 20) else if (Q1 d).2 then ({ (Q1 d).1 with synced := d.log.length }, 0) else ((Q1 d).1, 20)
theorem CI (b : Nat) (d : Dk) (hd : Um d) : FnH Tryz.prog 168 [pW b] (DkH b d) (fun r H => r = ei (Jr d).2 ∧ H = DkH b (Jr d).1) := by
 have hsf := Us b d hd
 obtain ⟨left1, dead1, done, hsp⟩ := ZJ d
 obtain ⟨left, odd, dead, log, synced, snap, room⟩ := d
 obtain ⟨p, ip, rfl⟩ := Y9 dead
 simp only at hsp
 rw [hsp] at hsf
 obtain ⟨q, iq, rfl⟩ := Y9 done
 refine fe Tryz.func168 fun S0 w0 => ?_
 show Sim _ _ [(0, pW b)] [(b, ⟨tD, [ei left, ei odd, .v (.bool (decide p)), .sl false (log.map eb), ei synced, .sl false (snap.map eb), ei room], 7⟩)] _
 by_cases hp : p
 ·have hA : Jr ⟨left, odd, decide p, log, synced, snap, room⟩ = (⟨left, odd, decide p, log, synced, snap, room⟩, 20) := by
   unfold Jr
   rw [if_pos (by simpa using hp)]
  rw [hA]
  refine zC ?_
  refine cr <| s_ Qb <| zC ?_
  refine cr <| s_ Qa <| s_ Qe <| s_ Qd <| s_ Qd <| s_ Ql <| s_ Qa <| gF (fun hg => Qa) ?_
  refine gF (fun hg => Qe (hx := u_ hg)) ?_
  refine gF (fun hg => Qd (hx := u_ hg)) ?_
  refine gF (d := .any) (fun hg => absurd hp hg) ?_
  refine gF (d := .v (.bool (decide False))) (fun hg => absurd hp hg) ?_
  refine s_ YW <| zC ?_
  refine ci ?_ ?_
  ·intro _
   refine zC ?_
   refine cr <| s_ Qb <| zC ?_
   refine zR ?_
   exact rh kR ⟨rfl, rfl⟩ (Le.refl _)
  ·intro h; exact absurd (.inl hp) h
 ·have hA : Jr ⟨left, odd, decide p, log, synced, snap, room⟩ = if decide q then (⟨left1, odd, dead1, log, log.length, snap, room⟩, 0) else (⟨left1, odd, dead1, log, synced, snap, room⟩, 20) := by
   unfold Jr
   rw [if_neg (by simpa using hp), hsp]
  refine zC ?_
  refine cr <| s_ Qb <| zC ?_
  refine cr <| s_ Qa <| s_ Qe <| s_ Qd <| s_ Qd <| s_ Ql <| s_ Qa <| gF (fun hg => Qa) ?_
  refine gF (fun hg => Qe (hx := u_ hg)) ?_
  refine gF (fun hg => Qd (hx := u_ hg)) ?_
  refine GI (Hr := []) hp hsf Vf (fun r H' ⟨hr1, hr2⟩ => ?_) (ha' := by refine QK (u_ hp) ?_; exact XE)
  subst hr1 hr2
  show Qf _ _ _ _ ((12, .v (.bool (decide q))) :: _) [(b, ⟨tD, [ei left1, ei odd, .v (.bool dead1), .sl false (log.map eb), ei synced, .sl false (snap.map eb), ei room], 7⟩)] _
  refine gF (p := p) (fun hg => YA) ?_
  refine s_ YW <| zC ?_
  refine ci ?_ ?_
  ·intro h
   have hq : ¬ q := h.resolve_left hp
   rw [hA, if_neg (by simpa using hq)]
   refine zC ?_
   refine cr <| s_ Qb <| zC ?_
   refine zR ?_
   exact rh kR ⟨rfl, rfl⟩ (Le.refl _)
  ·intro h
   have hq : q := Decidable.not_not.1 fun hn => h (.inr hn)
   rw [hA, if_pos (by simpa using hq)]
   refine zC ?_
   refine cr <| s_ Qa <| s_ Qa <| s_ Qe <| s_ Qd <| s_ Ql ?_
   (first | refine s_ QP ?_ | refine s_ QO ?_)
   refine s_ Qe <| s_ Qd <| Qz ?_
   refine zC ?_
   refine cr <| s_ Qb <| zC ?_
   refine zR ?_
   refine rh kR ⟨rfl, ?_⟩ (Le.refl _)
   simp only [List.length_map]; rfl
def WY (d : Dk) (n : Int) : Dk × Int := if d.dead then (d, 20) else if n < 0 ∨ (d.log.length : Int) < n then (d, 1) else
 (if (Q1 d).2 = true ∨ d.odd = 0 then { (Q1 d).1 with log := d.log.take n.toNat, synced := n } else (Q1 d).1, if (Q1 d).2 then 0 else 20)
theorem AS (b : Nat) (d : Dk) (n : Int) (hd : Um d) : FnH Tryz.prog 96 [pW b, ei n] (DkH b d) (fun r H => r = ei (WY d n).2 ∧ H = DkH b (WY d n).1) := by
 have hu := hd.used
 have hsf := Us b d hd
 obtain ⟨left1, dead1, done, hsp⟩ := ZJ d
 obtain ⟨left, odd, dead, log, synced, snap, room⟩ := d
 obtain ⟨p, ip, rfl⟩ := Y9 dead
 simp only at hsp hu
 rw [hsp] at hsf
 obtain ⟨q, iq, rfl⟩ := Y9 done
 refine fe Tryz.func96 fun S0 w0 => ?_
 show Sim _ _ [(0, pW b), (1, ei n)] [(b, ⟨tD, [ei left, ei odd, .v (.bool (decide p)), .sl false (log.map eb), ei synced, .sl false (snap.map eb), ei room], 7⟩)] _
 refine zC ?_
 refine cr <| s_ Qb <| zC ?_
 refine cr <| s_ Qa <| s_ Qe <| s_ Qd <| s_ Qd <| s_ Ql <| s_ Qb <| zC ?_
 refine ci ?_ ?_
 ·intro hp
  have hA : WY ⟨left, odd, decide p, log, synced, snap, room⟩ n = (⟨left, odd, decide p, log, synced, snap, room⟩, 20) := by
   unfold WY
   rw [if_pos (by simpa using hp)]
  rw [hA]
  refine zC ?_
  refine cr <| s_ Qb <| zC ?_
  refine zR ?_
  exact rh kR ⟨rfl, rfl⟩ (Le.refl _)
 intro hp
 refine zC ?_
 refine cr <| s_ Qa <| s_ QU <| s_ Qa <| gF (fun hg => Qa) ?_
 refine gF (fun hg => Qa) ?_
 refine gF (fun hg => Qe (hx := u_ hg)) ?_
 refine gF (fun hg => Qd (hx := u_ hg)) ?_
 refine gF (fun hg => Ql (hx := u_ hg)) ?_
 (first | refine gF (fun hg => QP (hx := u_ hg)) ?_ | refine gF (fun hg => QO (hx := u_ hg)) ?_)
 refine gF (fun hg => Yu (hx := u_ hg) (hy := u_ hg)) ?_
 refine s_ YW <| s_ Qb <| zC ?_
 refine ci ?_ ?_
 ·intro hf
  simp only [List.length_map] at hf
  have hA : WY ⟨left, odd, decide p, log, synced, snap, room⟩ n = (⟨left, odd, decide p, log, synced, snap, room⟩, 1) := by
   unfold WY
   rw [if_neg (by simpa using hp), if_pos hf]
  rw [hA]
  refine zC ?_
  refine cr <| s_ Qb <| zC ?_
  refine zR ?_
  exact rh kR ⟨rfl, rfl⟩ (Le.refl _)
 intro hf
 simp only [List.length_map] at hf
 have hA : WY ⟨left, odd, decide p, log, synced, snap, room⟩ n = (if q ∨ odd = 0 then ⟨left1, odd, dead1, log.take n.toNat, n, snap, room⟩ else ⟨left1, odd, dead1, log, synced, snap, room⟩, if decide q then 0 else 20) := by
  unfold WY
  rw [if_neg (by simpa using hp), if_neg hf, hsp]
  simp only [decide_eq_true_eq]
 rw [hA]
 have ho := VZ (log.take n.toNat) (by rw [List.length_take]; omega)
 refine zC ?_
 refine cr <| s_ Qa <| s_ Qe <| s_ Qd ?_
 refine QI hsf (fun r H' ⟨hr1, hr2⟩ => ?_)
 subst hr1 hr2
 show Qf _ _ _ _ ((27, .v (.bool (decide q))) :: _) [(b, ⟨tD, [ei left1, ei odd, .v (.bool dead1), .sl false (log.map eb), ei synced, .sl false (snap.map eb), ei room], 7⟩)] _
 refine s_ Qb <| zC ?_
 refine cr <| s_ Qa <| s_ Qa <| gF (fun hg => Qa) ?_
 refine gF (fun hg => Qe (hx := u_ hg)) ?_
 refine gF (fun hg => Qd (hx := u_ hg)) ?_
 refine gF (fun hg => Qd (hx := u_ hg)) ?_
 refine gF (fun hg => Ql (hx := u_ hg)) ?_
 refine gF (fun hg => XF (hx := u_ hg)) ?_
 refine s_ YW <| zC ?_
 refine ci ?_ ?_
 ·intro ho2
  rw [if_pos ho2]
  refine zC ?_
  refine cr <| s_ Qa <| s_ Qa <| s_ Qa <| s_ Qe <| s_ Qd <| s_ Ql <| s_ Qa <| s_ (Ei (i := n) (xs := log.map eb) (ys := (log.take n.toNat).map eb) (by rw [List.map_take]) (h2 := by simp only [List.length_map]; omega)) <| s_ (QQ (ho)) <| s_ Qa <| s_ Qe <| s_ Qd <| Qz ?_
  refine s_ Qe <| s_ Qd <| Qz ?_
  refine zC ?_
  refine cr <| s_ Qa <| s_ YA <| zC ?_
  refine ci ?_ ?_
  ·intro hq
   refine zC ?_
   refine cr <| s_ Qb <| zC ?_
   refine zR ?_
   refine rh kR ⟨?_, rfl⟩ (Le.refl _)
   simp [hq]; rfl
  ·intro hq
   refine zC ?_
   refine cr <| s_ Qb <| zC ?_
   refine zR ?_
   refine rh kR ⟨?_, rfl⟩ (Le.refl _)
   simp [Decidable.not_not.1 hq]; rfl
 ·intro ho2
  rw [if_neg ho2]
  refine zC ?_
  refine cr <| s_ Qa <| s_ YA <| zC ?_
  refine ci ?_ ?_
  ·intro hq
   refine zC ?_
   refine cr <| s_ Qb <| zC ?_
   refine zR ?_
   refine rh kR ⟨?_, rfl⟩ (Le.refl _)
   simp [hq]; rfl
  ·intro hq
   exact absurd (.inl (Decidable.not_not.1 hq)) ho2
def ZX (d : Dk) (x : List UInt8) : Dk × Int := if d.dead then (d, 20) else if d.room < x.length then (d, 19) else
 (if (Q1 d).2 = true ∨ d.odd = 0 then { (Q1 d).1 with snap := x, log := [], synced := 0 } else (Q1 d).1, if (Q1 d).2 then 0 else 20)
theorem CJ (b : Nat) (d : Dk) (x : List UInt8) (hd : Um d) (hx : x.length ≤ 1000000000) : FnH Tryz.prog 169 [pW b, bl x] (DkH b d) (fun r H => r = ei (ZX d x).2 ∧ H = DkH b (ZX d x).1) := by
 have hsf := Us b d hd
 obtain ⟨left1, dead1, done, hsp⟩ := ZJ d
 obtain ⟨left, odd, dead, log, synced, snap, room⟩ := d
 obtain ⟨p, ip, rfl⟩ := Y9 dead
 simp only at hsp
 rw [hsp] at hsf
 obtain ⟨q, iq, rfl⟩ := Y9 done
 have ho := VZ x (by omega)
 refine fe Tryz.func169 fun S0 w0 => ?_
 show Sim _ _ [(0, pW b), (1, .sl false (x.map eb))] [(b, ⟨tD, [ei left, ei odd, .v (.bool (decide p)), .sl false (log.map eb), ei synced, .sl false (snap.map eb), ei room], 7⟩)] _
 refine zC ?_
 refine cr <| s_ Qb <| zC ?_
 refine cr <| s_ Qa <| s_ Qe <| s_ Qd <| s_ Qd <| s_ Ql <| s_ Qb <| zC ?_
 refine ci ?_ ?_
 ·intro hp
  have hA : ZX ⟨left, odd, decide p, log, synced, snap, room⟩ x = (⟨left, odd, decide p, log, synced, snap, room⟩, 20) := by
   unfold ZX
   rw [if_pos (by simpa using hp)]
  rw [hA]
  refine zC ?_
  refine cr <| s_ Qb <| zC ?_
  refine zR ?_
  exact rh kR ⟨rfl, rfl⟩ (Le.refl _)
 intro hp
 refine zC ?_
 refine cr <| s_ Qa ?_
 (first | refine s_ QP ?_ | refine s_ QO ?_)
 refine s_ Qa <| s_ Qe <| s_ Qd <| s_ Ql <| s_ Yu <| s_ Qb <| zC ?_
 refine ci ?_ ?_
 ·intro hf
  simp only [List.length_map] at hf
  have hA : ZX ⟨left, odd, decide p, log, synced, snap, room⟩ x = (⟨left, odd, decide p, log, synced, snap, room⟩, 19) := by
   unfold ZX
   rw [if_neg (by simpa using hp), if_pos hf]
  rw [hA]
  refine zC ?_
  refine cr <| s_ Qb <| zC ?_
  refine zR ?_
  exact rh kR ⟨rfl, rfl⟩ (Le.refl _)
 intro hf
 simp only [List.length_map] at hf
 have hA : ZX ⟨left, odd, decide p, log, synced, snap, room⟩ x = (if q ∨ odd = 0 then ⟨left1, odd, dead1, [], 0, x, room⟩ else ⟨left1, odd, dead1, log, synced, snap, room⟩, if decide q then 0 else 20) := by
  unfold ZX
  rw [if_neg (by simpa using hp), if_neg hf, hsp]
  simp only [decide_eq_true_eq]
 rw [hA]
 refine zC ?_
 refine cr <| s_ Qa <| s_ Qe <| s_ Qd ?_
 refine QI hsf (fun r H' ⟨hr1, hr2⟩ => ?_)
 subst hr1 hr2
 show Qf _ _ _ _ ((23, .v (.bool (decide q))) :: _) [(b, ⟨tD, [ei left1, ei odd, .v (.bool dead1), .sl false (log.map eb), ei synced, .sl false (snap.map eb), ei room], 7⟩)] _
 refine s_ Qb <| zC ?_
 refine cr <| s_ Qa <| s_ Qa <| gF (fun hg => Qa) ?_
 refine gF (fun hg => Qe (hx := u_ hg)) ?_
 refine gF (fun hg => Qd (hx := u_ hg)) ?_
 refine gF (fun hg => Qd (hx := u_ hg)) ?_
 refine gF (fun hg => Ql (hx := u_ hg)) ?_
 refine gF (fun hg => XF (hx := u_ hg)) ?_
 refine s_ YW <| zC ?_
 refine ci ?_ ?_
 ·intro ho2
  rw [if_pos ho2]
  refine zC ?_
  refine cr <| s_ Qa <| s_ Qa <| s_ Qa <| s_ Qa <| s_ (QQ (ho)) <| s_ Qe <| s_ Qd <| Qz ?_
  refine s_ Qe <| s_ Qd <| Qz ?_
  refine s_ Qe <| s_ Qd <| Qz ?_
  refine zC ?_
  refine cr <| s_ Qa <| s_ YA <| zC ?_
  refine ci ?_ ?_
  ·intro hq
   refine zC ?_
   refine cr <| s_ Qb <| zC ?_
   refine zR ?_
   refine rh (H' := DkH b ⟨left1, odd, dead1, [], 0, x, room⟩) (kK kR) ⟨?_, rfl⟩ (Le.refl _)
   simp [hq]; rfl
  ·intro hq
   refine zC ?_
   refine cr <| s_ Qb <| zC ?_
   refine zR ?_
   refine rh (H' := DkH b ⟨left1, odd, dead1, [], 0, x, room⟩) (kK kR) ⟨?_, rfl⟩ (Le.refl _)
   simp [Decidable.not_not.1 hq]; rfl
 ·intro ho2
  rw [if_neg ho2]
  refine zC ?_
  refine cr <| s_ Qa <| s_ YA <| zC ?_
  refine ci ?_ ?_
  ·intro hq
   refine zC ?_
   refine cr <| s_ Qb <| zC ?_
   refine zR ?_
   refine rh kR ⟨?_, rfl⟩ (Le.refl _)
   simp [hq]; rfl
  ·intro hq
   exact absurd (.inl (Decidable.not_not.1 hq)) ho2
theorem Bi (n : Int) (h0 : 1 ≤ n) (h1 : n ≤ 16777216) : FnH Tryz.prog 26 [ei n] [] (fun r H => ∃ b, r = .tup [pW b, ei 0] ∧ H = DkH b ⟨0, 0, false, [], 0, [], n⟩) := by
 refine fe Tryz.func26 fun S0 w0 => ?_
 show Sim _ _ [(0, ei n)] _ _
 refine zC ?_
 refine cr <| s_ Qb <| s_ Qb <| zC ?_
 refine cr <| s_ Qa <| s_ QU <| s_ Qa <| gF (fun hg => Qa) ?_
 refine gF (fun hg => Yu (hx := u_ hg)) ?_
 refine s_ YW <| zC ?_
 refine ci ?_ ?_
 ·intro h; exact absurd h (by omega)
 intro _
 refine zC ?_
 refine cr <| s_ Qa <| s_ (ZF 7 [_, _, _, _, _, _, _]) ?_
 refine X1 fun b12 _ => ?_
 refine s_ Qb <| s_ Qb <| zC ?_
 refine zR ?_
 exact rh (H' := DkH b12 ⟨0, 0, false, [], 0, [], n⟩) (kK kR) ⟨_, rfl, rfl⟩ (Le.refl _)
def XT (d : Dk) (n : Int) : Dk := { d with left := max n 0, odd := (max n 0).tmod 2 }
theorem E7 (b : Nat) (d : Dk) (n : Int) : FnH Tryz.prog 43 [pW b, ei n] (DkH b d) (fun r H => r = .tup [] ∧ H = DkH b (XT d n)) := by
 refine fe Tryz.func43 fun S0 w0 => ?_
 show Sim _ _ [(0, pW b), (1, ei n)] (DkH b d) _
 unfold DkH dkC
 refine zC ?_
 refine cr <| s_ Qa <| s_ Qa <| s_ Qa <| s_ VW <| s_ Qa <| s_ VW <| s_ Ma <| s_ Qe <| s_ Qd <| Qz ?_
 refine s_ Qe <| s_ Qd <| Qz ?_
 refine zC ?_
 exact rhn kR ⟨rfl, rfl⟩ (Le.refl _)
theorem GS (b : Nat) (d : Dk) : FnH Tryz.prog 74 [pW b] (DkH b d) (fun r H => r = eB d.dead ∧ H = DkH b d) := by
 refine fe Tryz.func74 fun S0 w0 => ?_
 show Sim _ _ [(0, pW b)] (DkH b d) _
 unfold DkH dkC
 refine zC ?_
 refine cr <| s_ Qb <| zC ?_
 refine cr <| s_ Qa <| s_ Qe <| s_ Qd <| s_ Ql <| s_ Qb <| zC ?_
 refine zR ?_
 exact rh kR ⟨rfl, rfl⟩ (Le.refl _)
theorem BH (b : Nat) (d : Dk) (hd : Um d) : FnH Tryz.prog 94 [pW b] (DkH b d) (fun r H => r = bl d.log ∧ H = DkH b d) := by
 have hu := hd.used
 have ho := VZ d.log (by omega)
 refine fe Tryz.func94 fun S0 w0 => ?_
 show Sim _ _ [(0, pW b)] (DkH b d) _
 unfold DkH dkC
 refine zC ?_
 refine cr <| s_ Qb <| zC ?_
 refine cr <| s_ Qa <| s_ Qe <| s_ Qd <| s_ Ql <| s_ (QQ (ho)) <| s_ Qb <| zC ?_
 refine zR ?_
 exact rh kR ⟨rfl, rfl⟩ (Le.refl _)
theorem Ce (b : Nat) (d : Dk) (hd : Um d) : FnH Tryz.prog 92 [pW b] (DkH b d) (fun r H => r = bl d.snap ∧ H = DkH b d) := by
 have hu := hd.used
 have ho := VZ d.snap (by omega)
 refine fe Tryz.func92 fun S0 w0 => ?_
 show Sim _ _ [(0, pW b)] (DkH b d) _
 unfold DkH dkC
 refine zC ?_
 refine cr <| s_ Qb <| zC ?_
 refine cr <| s_ Qa <| s_ Qe <| s_ Qd <| s_ Ql <| s_ (QQ (ho)) <| s_ Qb <| zC ?_
 refine zR ?_
 exact rh kR ⟨rfl, rfl⟩ (Le.refl _)
def Zm (d : Dk) (pick : Int) : Int := let n := (d.log.length : Int) - d.synced + 1; ((pick.tmod n) + n).tmod n
def Jo (d : Dk) (pick : Int) : Dk := { d with left := 0, odd := 0, dead := false, log := d.log.take (d.synced + Zm d pick).toNat, synced := ((d.log.take (d.synced + Zm d pick).toNat).length : Nat) }
theorem ZI (d : Dk) (pick : Int) (h0 : 0 ≤ d.synced) (h1 : d.synced ≤ d.log.length) : 0 ≤ Zm d pick ∧ Zm d pick ≤ (d.log.length : Int) - d.synced := by
 unfold Zm
 obtain ⟨n, hn⟩ : ∃ n, n = (d.log.length : Int) - d.synced + 1 := ⟨_, rfl⟩
 rw [← hn]
 have hp : 0 < n := by omega
 have h2 := VH pick n hp
 have h3 : 0 ≤ pick.tmod n + n := by
  have := Int.emod_nonneg pick (show n ≠ 0 by omega)
  by_cases h : pick.tmod n < 0
  ·rw [h2.1 h]; exact this
  ·omega
 have h4 := Int.tmod_nonneg n h3
 have h5 := Int.tmod_lt_of_pos (pick.tmod n + n) hp
 show 0 ≤ (pick.tmod n + n).tmod n ∧ (pick.tmod n + n).tmod n ≤ _
 omega
theorem Ci (b : Nat) (d : Dk) (pick : Int) (hd : Um d) (h0 : 0 ≤ d.synced) (h1 : d.synced ≤ d.log.length) : FnH Tryz.prog 45 [pW b, ei pick] (DkH b d) (fun r H => r = ei (Zm d pick) ∧ H = DkH b (Jo d pick)) := by
 have hu := hd.used
 have hk := ZI d pick h0 h1
 have ho := VZ (d.log.take (d.synced + Zm d pick).toNat) (by rw [List.length_take]; omega)
 obtain ⟨n, hn⟩ : ∃ n, n = (d.log.length : Int) - d.synced + 1 := ⟨_, rfl⟩
 have hks : Zm d pick = ((pick.tmod n) + n).tmod n := by rw [hn]; rfl
 have hp : 0 < n := by omega
 have hb1 := Int.tmod_lt_of_pos pick hp
 have hb2 : -n ≤ pick.tmod n := by
  have h2 := VH pick n hp
  have := Int.emod_nonneg pick (show n ≠ 0 by omega)
  by_cases h : pick.tmod n < 0
  ·have := h2.1 h; omega
  ·omega
 refine fe Tryz.func45 fun S0 w0 => ?_
 show Sim _ _ [(0, pW b), (1, ei pick)] (DkH b d) _
 unfold DkH dkC bl
 refine zC ?_
 refine cr <| s_ Qb <| zC ?_
 refine ca [0, 1, 2, 3, 4, 5, 6, 7, 8, 9, 10, 11] [] <| a_ (fun _ => Qa) <| a_ (fun _ => Qe) <| a_ (fun _ => Qd) <| QJ ?_
 (first | refine a_ (fun _ => QP) ?_ | refine a_ (fun _ => QO) ?_)
 refine a_ (fun _ => Qa) <| a_ (fun _ => Qe) <| a_ (fun _ => Qd) <| QJ ?_
 refine a_ (fun _ => Zp) <| a_ (fun _ => QY) ?_
 rw [List.length_map, ← hn]
 refine a_ (fun _ => Qb) ?_
 apply an
 refine zC ?_
 refine cr <| s_ Qa <| s_ Qa <| s_ Ma <| s_ Qa <| s_ QY <| s_ Qa <| s_ Ma <| s_ Qb <| zC ?_
 rw [← hks]
 refine zC ?_
 refine ca [0, 1, 2, 3, 4, 5, 6, 7, 8, 9, 10, 11, 12, 13, 14, 15] [15] <| a_ (fun _ => Qa) <| a_ (fun _ => Qa) <| a_ (fun _ => Qe) <| a_ (fun _ => Qd) <| QJ ?_
 refine a_ (fun _ => Qa) <| a_ (fun _ => Qe) <| a_ (fun _ => Qd) <| QJ ?_
 refine a_ (fun _ => Qa) <| a_ (fun _ => QY) <| a_ (fun _ => Ei (i := d.synced + Zm d pick) (xs := d.log.map eb) (ys := (d.log.take (d.synced + Zm d pick).toNat).map eb) (by rw [List.map_take]) (h2 := by simp only [List.length_map]; omega)) <| a_ (fun _ => QQ (ho)) <| a_ (fun _ => Qe) <| a_ (fun _ => Qd) <| XN ?_
 apply an
 refine zC ?_
 unfold bl
 refine zC ?_
 refine cr <| s_ Qa <| s_ Qa <| s_ Qe <| s_ Qd <| s_ Ql ?_
 (first | refine s_ QP ?_ | refine s_ QO ?_)
 refine s_ Qe <| s_ Qd <| Qz ?_
 refine zC ?_
 refine cr <| s_ Qa <| s_ (ZF 3 [_, _, _]) <| s_ Qe <| s_ Qd <| Qz ?_
 refine zC ?_
 refine cr <| s_ Qa <| s_ Qb <| zC ?_
 refine zR ?_
 refine rh kR ⟨rfl, ?_⟩ (Le.refl _)
 simp only [List.length_map]
 rfl
def tJ : TypeId := 157
def JrH (bj bd : Nat) (n : Int) (d : Dk) : Qc := (bj, ⟨tJ, [pW bd, ei n], 2⟩) :: DkH bd d
theorem DM (bj bd : Nat) (n : Int) (d : Dk) : FnH Tryz.prog 161 [pW bj] (JrH bj bd n d) (fun r H => r = ei n ∧ H = JrH bj bd n d) := by
 refine fe Tryz.func161 fun S0 w0 => ?_
 show Sim _ _ [(0, pW bj)] (JrH bj bd n d) _
 unfold JrH
 refine zC ?_
 refine cr <| s_ Qb <| zC ?_
 refine cr <| s_ Qa <| s_ Qe <| s_ Qd <| s_ Ql <| s_ Qb <| zC ?_
 refine zR ?_
 exact rh kR ⟨rfl, rfl⟩ (Le.refl _)
def XZ (n : Int) (d : Dk) (x : List UInt8) : Int × Dk × Int :=
 let a := Ul d (Qt x)
 if a.2 = 0 then let s := Jr a.1; if s.2 = 0 then (n + 1, s.1, 0) else (n, s.1, s.2) else (n, a.1, a.2)
theorem GD (bj bd : Nat) (n : Int) (d : Dk) (x : List UInt8) (hd : Um d) (hd2 : Um (Ul d (Qt x)).1) (hx : x.length ≤ 4194304) (h0 : 0 ≤ n) (h1 : n ≤ 1000) :
  FnH Tryz.prog 162 [pW bj, bl x] (JrH bj bd n d) (fun r H => r = ei (XZ n d x).2.2 ∧ H = JrH bj bd (XZ n d x).1 (XZ n d x).2.1) := by
 have hf := DA false x hx
 have hfl := XG x
 have ha := DI bd d (Qt x) hd (by omega)
 have hs := CI bd (Ul d (Qt x)).1 hd2
 obtain ⟨⟨d1, e1⟩, hap⟩ : ∃ a, Ul d (Qt x) = a := ⟨_, rfl⟩
 obtain ⟨⟨d2, e2⟩, hsy⟩ : ∃ a, Jr d1 = a := ⟨_, rfl⟩
 rw [hap] at ha hs
 simp only at ha hs
 rw [hsy] at hs
 simp only at hs
 have hA : XZ n d x = if e1 = 0 then (if e2 = 0 then (n + 1, d2, 0) else (n, d2, e2)) else (n, d1, e1) := by
  unfold XZ
  rw [hap]
  simp only
  rw [hsy]
 rw [hA]
 refine fe Tryz.func162 fun S0 w0 => ?_
 show Sim _ _ [(0, pW bj), (1, bl x)] (JrH bj bd n d) _
 unfold JrH
 refine zC ?_
 refine cr <| s_ Qb <| zC ?_
 refine cr <| s_ Qa <| s_ (QQ (hf)) <| s_ Qa <| s_ QH <| s_ QH <| s_ Qb <| s_ Qb <| zC ?_
 refine zC ?_
 refine cr <| s_ Qa <| s_ XF <| zC ?_
 refine ci ?_ ?_
 rotate_left
 ·intro h; exact absurd rfl h
 intro _
 refine zC ?_
 refine cr <| s_ Qa <| s_ Qe <| s_ Qd <| s_ Ql <| s_ Qa ?_
 refine Q2 (Hr := [_]) ha (List.perm_append_comm (l₁ := [_])) (fun r H' ⟨hr1, hr2⟩ => ?_)
 subst hr1 hr2
 refine QA List.perm_append_comm ?_
 refine s_ Qb <| zC ?_
 refine cr <| s_ Qa <| s_ XF <| zC ?_
 refine ci ?_ ?_
 ·intro he1
  have he1' : e1 = 0 := he1
  rw [if_pos he1']
  refine zC ?_
  refine cr <| s_ Qa <| s_ Qe <| s_ Qd <| s_ Ql ?_
  refine Q2 (Hr := [_]) hs (List.perm_append_comm (l₁ := [_])) (fun r H' ⟨hr1, hr2⟩ => ?_)
  subst hr1 hr2
  refine QA List.perm_append_comm ?_
  refine s_ Qb <| zC ?_
  refine cr <| s_ Qa <| s_ XF <| zC ?_
  refine ci ?_ ?_
  ·intro he2
   have he2' : e2 = 0 := he2
   rw [if_pos he2']
   subst he2'
   refine zC ?_
   refine cr <| s_ Qa <| s_ Qe <| s_ Qd <| s_ Ql <| s_ QY <| s_ Qe <| s_ Qd <| Qz ?_
   refine zC ?_
   refine cr <| s_ Qa <| s_ Qb <| zC ?_
   refine zR ?_
   exact rh kR ⟨rfl, rfl⟩ (Le.refl _)
  ·intro he2
   have he2' : ¬ e2 = 0 := he2
   rw [if_neg he2']
   refine zC ?_
   refine cr <| s_ Qa <| s_ Qb <| zC ?_
   refine zR ?_
   exact rh kR ⟨rfl, rfl⟩ (Le.refl _)
 ·intro he1
  have he1' : ¬ e1 = 0 := he1
  rw [if_neg he1']
  refine zC ?_
  refine cr <| s_ Qa <| s_ XF <| zC ?_
  refine ci ?_ ?_
  ·intro h; exact absurd h he1
  intro _
  refine zC ?_
  refine cr <| s_ Qa <| s_ Qb <| zC ?_
  refine zR ?_
  exact rh kR ⟨rfl, rfl⟩ (Le.refl _)
def Xq (n : Int) (d : Dk) (x : List UInt8) : Int × Dk × Int := let a := ZX d (Qt x); if a.2 = 0 then (0, a.1, 0) else (n, a.1, a.2)
theorem IC (bj bd : Nat) (n : Int) (d : Dk) (x : List UInt8) (hd : Um d) (hx : x.length ≤ 4194304) :
  FnH Tryz.prog 163 [pW bj, bl x] (JrH bj bd n d) (fun r H => r = ei (Xq n d x).2.2 ∧ H = JrH bj bd (Xq n d x).1 (Xq n d x).2.1) := by
 have hf := DA false x hx
 have hfl := XG x
 have ha := CJ bd d (Qt x) hd (by omega)
 obtain ⟨⟨d1, e1⟩, hap⟩ : ∃ a, ZX d (Qt x) = a := ⟨_, rfl⟩
 rw [hap] at ha
 simp only at ha
 have hA : Xq n d x = if e1 = 0 then (0, d1, 0) else (n, d1, e1) := by
  unfold Xq
  rw [hap]
 rw [hA]
 refine fe Tryz.func163 fun S0 w0 => ?_
 show Sim _ _ [(0, pW bj), (1, bl x)] (JrH bj bd n d) _
 unfold JrH
 refine zC ?_
 refine cr <| s_ Qb <| zC ?_
 refine cr <| s_ Qa <| s_ (QQ (hf)) <| s_ Qa <| s_ QH <| s_ QH <| s_ Qb <| s_ Qb <| zC ?_
 refine zC ?_
 refine cr <| s_ Qa <| s_ XF <| zC ?_
 refine ci ?_ ?_
 rotate_left
 ·intro h; exact absurd rfl h
 intro _
 refine zC ?_
 refine cr <| s_ Qa <| s_ Qe <| s_ Qd <| s_ Ql <| s_ Qa ?_
 refine Q2 (Hr := [_]) ha (List.perm_append_comm (l₁ := [_])) (fun r H' ⟨hr1, hr2⟩ => ?_)
 subst hr1 hr2
 refine QA List.perm_append_comm ?_
 refine s_ Qb <| zC ?_
 refine cr <| s_ Qa <| s_ XF <| zC ?_
 refine ci ?_ ?_
 ·intro he1
  have he1' : e1 = 0 := he1
  rw [if_pos he1']
  subst he1'
  refine zC ?_
  refine cr <| s_ Qa <| s_ Qe <| s_ Qd <| Qz ?_
  refine zC ?_
  refine cr <| s_ Qa <| s_ Qb <| zC ?_
  refine zR ?_
  exact rh kR ⟨rfl, rfl⟩ (Le.refl _)
 ·intro he1
  have he1' : ¬ e1 = 0 := he1
  rw [if_neg he1']
  refine zC ?_
  refine cr <| s_ Qa <| s_ Qb <| zC ?_
  refine zR ?_
  exact rh kR ⟨rfl, rfl⟩ (Le.refl _)
end Go.Proofs.YtjbokbikkcfjjaaGreat
