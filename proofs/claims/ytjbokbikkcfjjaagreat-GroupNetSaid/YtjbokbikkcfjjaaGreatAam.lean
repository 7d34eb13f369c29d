/-
  Bytes: slices.Clone, Grow, Concat; a number's, a text's bytes behind others.
-/
import Derived.Test.YtjbokbikkcfjjaaGreatAal
set_option maxRecDepth 16000
set_option maxHeartbeats 8000000
set_option linter.all false
namespace Go.Proofs.YtjbokbikkcfjjaaGreat
open Go.Cap
attribute [local irreducible] POp Qf BW EOp Sim FnH T.gp
def tB : TypeId := 5
def bl (l : List UInt8) : T := .sl false (l.map eb)
def OB (l : List UInt8) (v : Value) (Hs : Qb) : Prop := OSl tB 1 (l.map eb) v Hs
theorem eb1 (l : List UInt8) : ∀ x ∈ l.map eb, x.cells.length = 1 := zk
theorem BK (l : List UInt8) : ∀ x ∈ l.map eb, x.solid := ZC _ (fun _ => .inl rfl) _
theorem OB.len {l : List UInt8} {v : Value} {Hs : Qb} (h : OB l v Hs) : ∃ p c, v = .slice p (l.map eb).length c := OSl.len h
theorem OB.lend {l : List UInt8} {v : Value} {Hs G : Qb} (h : OB l v Hs) (hG : ∀ p ∈ Hs, p ∈ G) : QB G (.v v) (bl l) := OSl.lend h hG (eb1 l) (BK l)
theorem WP (f : Bool) (l : List UInt8) (hl : l.length ≤ 1000000000000) : FnH Tryz.prog 127 [.sl f (l.map eb)] [] (fun r H => ∃ v, r = .v v ∧ OB l v H) := by
 refine fe Tryz.func127 fun S0 w0 => ?_
 show Sim _ _ [(0, T.sl f (l.map eb))] _ _
 refine zC ?_
 refine cr <| s_ Qc <| zC ?_
 refine cr <| s_ Qa ?_
 refine ZI 3 fun p c h1 _ => ?_
 refine s_ Bq <| zC ?_
 refine ci ?_ ?_
 ·intro hp
  have := h1 hp
  have : l = [] := by simpa using this
  subst this
  refine zC ?_
  refine cr <| s_ Qc <| zC ?_
  refine zR ?_
  exact rh kR ⟨_, rfl, Zn⟩ (Le.refl _)
 ·intro hp
  refine zC ?_
  refine cr <| s_ JN ?_
  refine ZI 5 fun q c' _ h2 => ?_
  have := h2 rfl
  subst this
  refine s_ Qa ?_
  refine MJ (ho := (Ue : OSl tB 1 [] _ [])) (A := []) (B := []) (fun _ h => by cases h) (fun v' Hs' ho => ?_)
  refine s_ Qc <| zC ?_
  refine zR ?_
  exact rh kR ⟨_, rfl, by simpa [OB] using ho⟩ (Le.refl _)
theorem Y7 (f : Bool) (l : List UInt8) (hl : l.length ≤ 1000000000000) : FnP Tryz.prog 127 [.sl f (l.map eb)] (fun r => r = bl l) :=
 FnH.give (WP f l hl) (by rintro r H ⟨v, rfl, ho⟩; exact ho.lend fun _ h => h)
theorem Ra (n : Nat) (hn : n ≤ 10000000000000) : FnH Tryz.prog 178 [.v (.slice none 0 0), ei n] [] (fun r H => ∃ v, r = .v v ∧ OB [] v H) := by
 refine fe Tryz.func178 fun S0 w0 => ?_
 show Sim _ _ [(0, T.v (.slice none 0 0)), (1, ei n)] _ _
 refine zC ?_
 refine cr <| s_ Qc <| zC ?_
 refine cr <| s_ Qa <| s_ QS <| zC ?_
 refine ci ?_ ?_
 ·intro h; exact absurd h (by omega)
 intro _
 refine zC ?_
 refine cr <| s_ Qa <| s_ Qa <| s_ Cg <| s_ Qa ?_
 (first | refine s_ QR ?_ | refine s_ QN ?_)
 refine s_ Ze <| s_ Ze <| s_ Qc <| zC ?_
 refine cr <| s_ Qa <| s_ Yb <| zC ?_
 have e0 : (n : Int) - (((0 : Nat) : Int) - ((0 : Nat) : Int)) = n := by omega
 rw [e0]
 refine ci ?_ ?_
 ·intro h0
  have h0' : 0 < n := by omega
  refine zC ?_
  refine cr <| s_ Qa <| s_ Qa <| s_ Cg <| s_ (Me (p := none) (n := 0) (c := 0) (v := .slice none 0 0) (Nat.le_refl _) rfl) <| s_ Qa ?_
  refine BN (n := n) (fun b c _ hc => ?_)
  refine s_ Qa ?_
  (first | refine s_ QR ?_ | refine s_ QN ?_)
  refine s_ (Me (p := some ⟨b, 0, none⟩) (n := n) (c := c) (j := ((0 : Nat) : Int)) (v := .slice (some ⟨b, 0, none⟩) 0 c) hc (by simp [XU, Addr.add])) <| s_ Qc <| zC ?_
  refine zC ?_
  refine cr <| s_ Qa <| s_ Qc <| zC ?_
  refine zR ?_
  exact rh kR ⟨_, rfl, .inr ⟨b, c, rfl, by simp, rfl⟩⟩ (Le.refl _)
 ·intro h0
  refine zC ?_
  refine cr <| s_ Qa <| s_ Qc <| zC ?_
  refine zR ?_
  exact rh kR ⟨_, rfl, Zn⟩ (Le.refl _)
def JA (rows : List (Bool × List UInt8)) : List UInt8 := rows.flatMap (·.2)
def Ro (p : Bool × List UInt8) : T := .sl p.1 (p.2.map eb)
theorem WR {rows : List (Bool × List UInt8)} {k : Nat} (hk : k < rows.length) : JA (rows.take (k + 1)) = JA (rows.take k) ++ (rows[k]'hk).2 := by
 unfold JA
 rw [List.take_succ_eq_append_getElem hk, List.flatMap_append]
 simp
theorem Ey {rows : List (Bool × List UInt8)} (k : Nat) : (JA (rows.take k)).length ≤ (JA rows).length := by
 conv => rhs; rw [← List.take_append_drop k rows]
 unfold JA
 rw [List.flatMap_append, List.length_append]
 omega
theorem WM (f : Bool) (rows : List (Bool × List UInt8)) (hn : (JA rows).length ≤ 100000000000) (hr : rows.length ≤ 1000000) : FnP Tryz.prog 174 [.sl f (rows.map Ro)] (fun r => r = bl (JA rows)) := by
 refine FnH.give (Φ := fun r H => ∃ v, r = .v v ∧ OB (JA rows) v H) ?_ (by rintro r H ⟨v, rfl, ho⟩; exact ho.lend fun _ h => h)
 refine fe Tryz.func174 fun S0 w0 => ?_
 show Sim _ _ [(0, T.sl f (rows.map Ro))] _ _
 refine zC ?_
 refine cr <| s_ Qc <| zC ?_
 refine cr <| s_ Qc <| zC ?_
 refine cr <| s_ Qa ?_
 (first | refine s_ QR ?_ | refine s_ QN ?_)
 refine s_ Qa <| zC ?_
 apply Qu (σ := Nat) (ok := fun k => k ≤ rows.length) (env := fun k => [(11, ei k), (3, ei ((JA (rows.take k)).length : Nat)), (10, ei (rows.length : Nat)), (9, .sl f (rows.map Ro)), (0, .sl f (rows.map Ro))]) (heap := fun _ => []) (μ := fun k => rows.length - k) (s0 := 0)
 ·exact Nat.zero_le _
 ·refine ⟨?_, ?_, ?_, eL⟩
  ·apply Qj; (exact zG)
   exact Le.refl _
  ·apply Qj; (exact zG)
   exact Le.refl _
  ·apply Qj; (exact zG)
   exact Le.of_eq (by simp [ei])
 ·exact kR
 intro k hk
 refine zC ?_
 refine cr <| s_ QS <| zC ?_
 refine ci ?_ ?_
 ·intro hlt
  have hlt' : k < rows.length := by omega
  have hnx := WR hlt'
  have hle := Ey (rows := rows) (k + 1)
  rw [hnx, List.length_append] at hle
  refine zC ?_
  apply cr
  (first | refine s_ (Xt hix) ?_ | refine s_ (Xt hix2) ?_ | refine s_ Zg ?_ | refine s_ ZX ?_)
  (first | refine s_ Qm ?_ | refine s_ Qn ?_)
  refine s_ Qc <| zC ?_
  refine cr <| s_ Qa <| s_ Qa ?_
  (first | refine s_ QR ?_ | refine s_ QN ?_)
  refine s_ QZ <| s_ Qc <| zC ?_
  refine cr <| s_ Qa <| s_ QS <| zC ?_
  refine ci ?_ ?_
  ·intro h; exact absurd h (by simp only [List.length_map]; omega)
  intro _
  refine zC ?_
  refine cr <| s_ QZ <| s_ Qa <| zC ?_
  refine ⟨k + 1, by omega, (by simp only []; omega), ⟨?_, ?_, eL⟩, kR⟩
  ·apply Qj; (exact zG)
   exact Le.refl _
  ·apply Qj; (exact zG)
   exact Le.of_eq (by rw [hnx]; simp [ei])
 intro hge
 have hke : k = rows.length := by omega
 subst hke
 rw [List.take_length]
 refine zC ?_
 refine cr <| s_ Qa ?_
 refine Q4 (Hs := []) (Hr := []) (Ra (JA rows).length (by omega)) (.refl _) (fun r H' ⟨v, hr, ho⟩ => ?_)
 subst hr
 refine s_ Qc <| zC ?_
 refine cr <| s_ Qa ?_
 (first | refine s_ QR ?_ | refine s_ QN ?_)
 refine s_ Qa <| zC ?_
 apply Qu (σ := Nat × Value × Qb) (ok := fun s => s.1 ≤ rows.length ∧ OB (JA (rows.take s.1)) s.2.1 s.2.2) (env := fun s => [(27, ei s.1), (6, .v s.2.1), (26, ei (rows.length : Nat)), (25, .sl f (rows.map Ro))]) (heap := fun s => s.2.2) (μ := fun s => rows.length - s.1) (s0 := (0, v, H'))
 ·exact ⟨Nat.zero_le _, ho⟩
 ·refine ⟨?_, ?_, ?_, eL⟩
  ·apply Qj; (exact zG)
   exact Le.refl _
  ·apply Qj; (exact zG)
   exact Le.refl _
  ·apply Qj; (exact zG)
   exact Le.of_eq (by simp [ei])
 ·rw [List.append_nil]; exact kR
 rintro ⟨k, v, H⟩ ⟨hk, ho⟩
 simp only at hk ho
 refine zC ?_
 refine cr <| s_ QS <| zC ?_
 refine ci ?_ ?_
 ·intro hlt
  simp only at hlt
  have hlt' : k < rows.length := by omega
  have hnx := WR hlt'
  have hle := Ey (rows := rows) (k + 1)
  rw [hnx, List.length_append] at hle
  refine zC ?_
  apply cr
  (first | refine s_ (Xt hix) ?_ | refine s_ (Xt hix2) ?_ | refine s_ Zg ?_ | refine s_ ZX ?_)
  (first | refine s_ Qm ?_ | refine s_ Qn ?_)
  refine s_ Qc <| zC ?_
  refine cr <| s_ Qa <| s_ Qa ?_
  refine MJ (ho := ho) (A := []) (B := []) (eb1 _) (fun v' Hs' ho' => ?_) (hH := by simp)
  refine s_ Qc <| zC ?_
  refine cr <| s_ QZ <| s_ Qa <| zC ?_
  refine ⟨(k + 1, v', Hs'), ⟨by simp only; omega, ?_⟩, (by simp only []; omega), ⟨?_, ?_, eL⟩, by simp only [List.nil_append, List.append_nil]; exact kR⟩
  ·simp only
   rw [hnx]
   unfold OB
   rw [List.map_append]
   exact ho'
  ·apply Qj; (exact zG)
   exact Le.refl _
  ·apply Qj; (exact zG)
   exact Le.refl _
 intro hge
 simp only at hge
 have hke : k = rows.length := by omega
 subst hke
 rw [List.take_length] at ho
 refine zC ?_
 refine cr <| s_ Qa <| s_ Qc <| zC ?_
 refine zR ?_
 exact rh kR ⟨v, rfl, ho⟩ (Le.refl _)
theorem Mi {k u : Nat} (h : 128 ≤ u) : Jz (k + 1) u = UInt8.ofNat (u % 128 + 128) :: Jz k (u / 128) := by rw [Jz, if_pos h]
theorem Vs {k u : Nat} (h : u < 128) : Jz k u = [UInt8.ofNat u] := by
 cases k with
 | zero => rfl
 | succ k => rw [Jz, if_neg (by omega)]
theorem GO (u : Nat) : bOr .u8 (IntKind.u8.wrap ((u : Int).tmod 128)) 128 = ((UInt8.ofNat (u % 128 + 128)).toNat : Int) := by
 have key : ∀ i : Fin 128, bOr .u8 (IntKind.u8.wrap ((i.val : Nat) : Int)) 128 = ((UInt8.ofNat (i.val + 128)).toNat : Int) := by decide +kernel
 have h := key ⟨u % 128, Nat.mod_lt _ (by omega)⟩
 rw [show (u : Int).tmod 128 = ((u % 128 : Nat) : Int) from rfl]
 exact h
theorem GP {u : Nat} (h : u < 128) : IntKind.u8.wrap (u : Int) = ((UInt8.ofNat u).toNat : Int) := by
 have key : ∀ i : Fin 128, IntKind.u8.wrap ((i.val : Nat) : Int) = ((UInt8.ofNat i.val).toNat : Int) := by decide +kernel
 exact key ⟨u, h⟩
theorem EP (u : Nat) : VQ .u64 (u : Int) 7 = ((u / 128 : Nat) : Int) := by
 unfold VQ
 rw [show min (7 : Int).toNat IntKind.u64.bits = 7 by rfl, show (2 : Int) ^ 7 = 128 by rfl, Int.fdiv_eq_ediv_of_nonneg _ (by omega)]
 omega
theorem Oz (k : Nat) : 2 ^ (7 * (k + 1 + 1)) = 2 ^ (7 * (k + 1)) * 128 := by
 rw [show 7 * (k + 1 + 1) = 7 * (k + 1) + 7 by omega, Nat.pow_add]
theorem Xa (n : Int) : 1 ≤ (Xu n).length ∧ (Xu n).length ≤ 10 := Mh 9 (Zz n)
structure Ae where
 k : Nat
 u : Nat
 out : List UInt8
 v : Value
 H : Qb
theorem Vx (f : Bool) (b : List UInt8) (n : Int) (h0 : -9223372036854775808 ≤ n) (h1 : n ≤ 9223372036854775807) (hl : b.length ≤ 100000000000) : FnP Tryz.prog 164 [.sl f (b.map eb), ei n] (fun r => r = bl (b ++ Xu n)) := by
 have hlen := Xa n
 have htl := LO h0 h1
 refine fe Tryz.func164 fun S0 w0 => ?_
 show Sim _ _ [(0, T.sl f (b.map eb)), (1, ei n)] _ _
 refine zC ?_
 refine cr <| s_ Qc <| zC ?_
 refine cr <| s_ Qa ?_
 refine Q4 (Hs := []) (Hr := []) (WP f b (by omega)) (.refl _) (fun r H ⟨v, hr, ho⟩ => ?_)
 subst hr
 refine s_ Qc <| zC ?_
 refine cr <| s_ Qa <| s_ (QM (EH n h0 h1)) <| s_ Qc <| zC ?_
 apply Qu (σ := Ae) (ok := fun s => OB s.out s.v s.H ∧ s.out ++ Jz s.k s.u = b ++ Xu n ∧ s.u < 2 ^ (7 * (s.k + 1))) (env := fun s => [(6, .v (.int .u64 s.u)), (5, .v s.v)]) (heap := fun s => s.H) (μ := fun s => s.k) (s0 := ⟨9, Zz n, b, v, H⟩)
 ·exact ⟨ho, rfl, by simp only; omega⟩
 ·exact eL
 ·rw [List.append_nil]; exact kR
 rintro ⟨k, u, out, v, H⟩ ⟨ho, he, hu⟩
 simp only at ho he hu
 show Sim _ _ [(6, .v (.int .u64 u)), (5, .v v)] H _
 have hol : out.length ≤ 100000000010 := by
  have := congrArg List.length he
  simp only [List.length_append] at this
  omega
 refine zC ?_
 refine cr <| s_ Qa <| s_ UR <| zC ?_
 refine ci ?_ ?_
 ·intro hge
  have hge' : 128 ≤ u := by omega
  cases k with
  | zero => exact absurd hu (by omega)
  | succ k =>
   refine zC ?_
   refine cr <| s_ Qa <| s_ Qa <| s_ E4 <| s_ Yc <| s_ UK ?_
   rw [GO u]
   refine s_ JN ?_
   refine MJ (ho := ho) (A := []) (B := []) (ys := [eb (UInt8.ofNat (u % 128 + 128))]) (f := true) (eb1 _) (fun v' Hs' ho' => ?_) (hH := by simp)
   refine s_ Qc <| zC ?_
   refine cr <| s_ Qa <| s_ Zm ?_
   rw [EP u]
   refine s_ Qc <| zC ?_
   refine ⟨⟨k, u / 128, out ++ [UInt8.ofNat (u % 128 + 128)], v', Hs'⟩, ⟨?_, ?_, ?_⟩, (by simp only []; omega), eL, by simp only [List.nil_append, List.append_nil]; exact kR⟩
   ·simp only
    unfold OB
    rw [List.map_append]
    exact ho'
   ·simp only
    rw [← he, Mi hge', List.append_assoc]
    rfl
   ·simp only
    rw [Oz] at hu
    exact Nat.div_lt_of_lt_mul (by omega)
 ·intro hlt
  have hlt' : u < 128 := by omega
  refine zC ?_
  refine cr <| s_ Qa <| s_ Qa <| s_ Yc ?_
  rw [GP hlt']
  refine s_ JN ?_
  refine MJ (ho := ho) (A := []) (B := []) (ys := [eb (UInt8.ofNat u)]) (f := true) (eb1 _) (fun v' Hs' ho' => ?_) (hH := by simp)
  rw [Vs hlt'] at he
  have ho2 : OB (b ++ Xu n) v' Hs' := by rw [← he]; unfold OB; rw [List.map_append]; exact ho'
  refine QP (FnH.lend (G := Hs') (Qg.cons (ho2.lend fun _ h => h) Qg.nil) (Y7 false (b ++ Xu n) (by simp only [List.length_append]; omega))) (fun r H' ⟨hr1, hr2⟩ => ?_)
  subst hr1 hr2
  refine s_ Qc <| zC ?_
  refine zE ?_
  exact Le.refl _
theorem MQ (f g : Bool) (b s : List UInt8) (hb : b.length ≤ 10000000000) (hs : s.length ≤ 10000000000) : FnP Tryz.prog 173 [.sl f (b.map eb), .sl g (s.map eb)] (fun r => r = bl (b ++ Xu s.length ++ s)) := by
 have hlen := Xa s.length
 have hi := Vx f b (s.length : Nat) (by omega) (by omega) (by omega)
 have hc := WM true [(false, b ++ Xu s.length), (g, s)] (by simp [JA]; omega) (by simp)
 refine fe Tryz.func173 fun S0 w0 => ?_
 show Sim _ _ [(0, T.sl f (b.map eb)), (1, T.sl g (s.map eb))] _ _
 refine zC ?_
 refine cr <| s_ Qc <| zC ?_
 refine cr <| s_ Qa <| s_ Qa ?_
 (first | refine s_ QR ?_ | refine s_ QN ?_)
 rw [List.length_map]
 refine s_ (QM (hi)) <| s_ Qa <| s_ JN <| s_ (QM (hc)) <| s_ Qc <| zC ?_
 refine zE ?_
 exact Le.of_eq (by simp [JA, bl]; rfl)
end Go.Proofs.YtjbokbikkcfjjaaGreat
namespace Go.Cap
section
variable {K : Ctx} {t : Env} {H : Qb} {N : Env → Qb → Prop} {ty ty' tp : TypeId} {pos : String} {aft : Array Edge} {g : Option (Nat × Bool)} {ops : Array Oper} {i : Nat} {l : List Oper} {kd : Tmp} {eff : List Nat} {pend : List Q7} {al : List (Nat × Oper)}
theorem BC {c : Code} {Ψ : Exit → Env → Qb → Prop} {G H1 : Qb} {d : T} (k : Nat) (x : T) (hl : QB G d x) (hp : H.Perm (G ++ H1)) (h : Sim K c ((k, x) :: t) H1 Ψ) (hg : t.get k = d := by rfl) : Sim K c t H Ψ :=
 Ji (G := G) (H1 := H1) [(k, x)] hp ⟨hg ▸ hl, trivial⟩ h
end
end Go.Cap
namespace Go.Proofs.YtjbokbikkcfjjaaGreat
open Go.Cap
attribute [local irreducible] POp Qf BW EOp Sim FnH T.gp
theorem IY (l : List En) (hl : l.length ≤ 4611686018427387904) : ItC Tryz.prog 124 [.adr (Y5 l)] (fun p : Nat × En => [ei p.1, een p.2]) (fun xs => xs = VO l l.length) (fun pre => ∃ k, k ≤ l.length ∧ pre = VO l k) := by
 refine Mt Tryz.func124 (by rfl) (by rfl) (by rfl) ?_
 intro c l' r I Ix Hx S w hlen _ _ hK h0 hY
 show Sim _ _ [(Tryz.f124.ntmps, .v undef), (0, .v (.func (.yield l') #[] #[])), (1, .adr (.sl false (l.map een)))] _ _
 refine zC ?_
 apply cr
 (first | refine s_ Qm ?_ | refine s_ Qn ?_)
 (first | refine s_ QR ?_ | refine s_ QN ?_)
 refine s_ Ze <| s_ Qc <| zC ?_
 apply Qu (σ := Nat × Qb) (ok := fun s => s.1 ≤ l.length ∧ I (VO l s.1) s.2) (env := fun s => [(3, .v (.int .i64 ((l.length : Int) - 1 - s.1))), (Tryz.f124.ntmps, .v undef), (0, .v (.func (.yield l') #[] #[])), (1, .adr (.sl false (l.map een)))])
  (heap := fun s => s.2) (μ := fun s => l.length - s.1) (s0 := (0, Hx))
 ·exact ⟨by simp, h0⟩
 ·refine ⟨?_, eL⟩
  apply Qj; (exact zG)
  exact Le.of_eq (by simp)
 ·exact kR
 rintro ⟨k, H⟩ ⟨hk, hI⟩
 simp only at hk hI
 refine zC ?_
 refine cr <| s_ Qa <| s_ UR <| zC ?_
 refine ci ?_ ?_
 ·intro hge
  have hix : l.length - 1 - k < l.length := by omega
  have hcast : (l.length : Int) - 1 - k = ((l.length - 1 - k : Nat) : Int) := by omega
  rw [hcast]
  have hget : l.getD (l.length - 1 - k) default = l[l.length - 1 - k] := by simp [hix]
  have hyc := hY (VO l k) (l.length - 1 - k, l[l.length - 1 - k]) H hI ⟨k + 1, by omega, by rw [YW, hget]⟩
  refine zC ?_
  refine cr <| s_ Qa <| s_ Qa ?_
  (first | refine s_ Qm ?_ | refine s_ Qn ?_)
  refine s_ Qa ?_
  (first | refine s_ (Xt hix) ?_ | refine s_ (Xt hix2) ?_ | refine s_ Zg ?_ | refine s_ ZX ?_)
  (first | refine s_ Zf ?_ | refine s_ Xf ?_)
  refine BL (Hr := []) hyc (by simp) (hlen _) hK (fun H' hI' => ?_) (fun H' hI' => ?_)
  ·simp only [if_true] at hI'
   refine s_ Ym <| zC ?_
   refine ci ?_ ?_
   ·intro h; exact absurd trivial h
   intro _
   refine zC ?_
   refine cr <| s_ Qa <| s_ Ze <| s_ Qc <| zC ?_
   refine ⟨(k + 1, H'), ⟨by simp only; omega, ?_⟩, (by simp only []; omega), ⟨?_, eL⟩, by rw [List.append_nil]; exact kR⟩
   ·simp only
    rw [YW, hget]; exact hI'
   ·apply Qj; (exact zG)
    exact Le.of_eq (by congr 2; simp only; omega)
  ·simp only [Bool.false_eq_true, if_false] at hI'
   refine s_ Ym <| zC ?_
   refine ci ?_ ?_
   ·intro _
    refine zC ?_
    apply X8
    simp only [Ys, YR, Js]
    rw [List.append_nil]
    exact Ei ⟨k + 1, by omega, by rw [YW, hget]⟩ hI'
   ·intro h; exact absurd (fun h => h) h
 ·intro hge
  have hk2 : k = l.length := by omega
  subst hk2
  refine zC ?_
  exact Vw rfl hI
theorem IZ (f : Bool) (xs : List T) : FnP Tryz.prog 90 [.sl f xs] (fun r => r = .clo 124 [] [.adr (.sl f xs)]) := by
 refine fe Tryz.func90 fun S0 w0 => ?_
 show Sim _ _ [(0, T.sl f xs)] _ _
 refine zC ?_
 apply cr
 refine LF fun b1 _ => ?_
 refine s_ Qc <| zC ?_
 refine cr <| s_ Ud <| s_ Qc <| zC ?_
 refine Ji (G := [_]) (H1 := []) [(2, .clo 124 [] [.adr (.sl f xs)])] (by simp; rfl) ⟨?_, trivial⟩ ?_
 ·refine (show Env.get _ _ = _ from gZ) ▸ QB.clo Qg.nil (Qg.cons (QB.ptr List.mem_cons_self (.inl rfl) ?_ (by simp [T.cells]) (by simp [T.cells])) Qg.nil)
  exact Qg.le (LeL.refl _)
 ·refine zE ?_
  exact Le.refl _
theorem Ry {l : List En} {k : Nat} (hk : k ≤ l.length) {p : Nat × En} (h : p ∈ VO l k) : p.1 < l.length := by
 obtain ⟨j, hj, rfl⟩ := List.mem_map.1 h
 have := List.mem_range.1 hj
 simp only; omega
theorem Dz {l : List En} {k : Nat} (hk : k ≤ l.length) {ini : List (Nat × En)} {last : Nat × En} (h : ini ++ [last] = VO l k) (hz : ∀ p ∈ ini, p.2.conf = 0) (hl : last.2.conf ≠ 0) : lc l l.length = some (last.1, last.2.conf) := by
 cases k with
 | zero => simp [VO] at h
 | succ k =>
  rw [YW] at h
  obtain ⟨h1, h2⟩ := List.append_inj' h rfl
  have h3 : last = (l.length - 1 - k, l.getD (l.length - 1 - k) default) := by simpa using h2
  rw [Lr l (l.length - k) k (by omega) (by rw [← h1]; exact hz)]
  have e : l.length - k = (l.length - 1 - k) + 1 := by omega
  rw [e, lc]
  rw [h3] at hl
  simp only at hl
  rw [if_pos hl, h3]
theorem Ex (n : Nd) (hl : n.log.length ≤ 1000000000) (hb1 : -1000000000000 ≤ n.base) (hb2 : n.base ≤ 1000000000000) : FnP Tryz.prog 64 [.adr (nd n)] (fun r => r = .tup [ei (QI n).1, ei (QI n).2]) := by
 have cbk := IZ false (n.log.map een)
 refine fe Tryz.func64 fun S0 w0 => ?_
 show Sim _ _ [(0, T.adr (.agg (Qw n (.sl false (n.log.map een)))))] _ _
 refine zC ?_
 apply cr
 refine LF fun b1 _ => ?_
 refine Yp fun b2 _ => ?_
 refine Yp fun b3 _ => ?_
 refine zC ?_
 refine cr <| s_ Qn <| s_ Qe ?_
 (first | refine s_ Qt ?_ | refine s_ Qd ?_)
 (first | refine s_ Qm ?_ | refine s_ Qn ?_)
 refine s_ (QM (cbk)) <| zC ?_
 refine Wh (IY n.log (by omega)) (by ((repeat (apply eS; rfl)); exact eZ)) (by rfl) rfl (fun (pre : List (Nat × En)) (H : Qb) => (∀ p ∈ pre, p.2.conf = 0) ∧ H = [(b3, ⟨3, [ei 0], 1⟩), (b2, ⟨3, [ei 0], 1⟩), (b1, ⟨147, [.adr (.agg (Qw n (.sl false (n.log.map een))))], 1⟩)])
  (fun (pre : List (Nat × En)) (H : Qb) => ∃ ini last, pre = ini ++ [last] ∧ (∀ p ∈ ini, p.2.conf = 0) ∧ last.2.conf ≠ 0 ∧ H = [(b3, ⟨3, [ei last.2.conf], 1⟩), (b2, ⟨3, [ei (n.base + last.1 + 1)], 1⟩), (b1, ⟨147, [.adr (.agg (Qw n (.sl false (n.log.map een))))], 1⟩)])
  .ret .ret (.inl ⟨rfl, rfl⟩) (fun _ => rfl) (by rfl) ⟨by simp, rfl⟩ ?_ ?_ ?_
 ·rintro pre x H1 ⟨hz, rfl⟩ ⟨k, hk, hsp⟩ l' S1 w1
  have hx1 : x.1 < n.log.length := Ry hk (by rw [← hsp]; simp)
  simp only [Vg]
  refine zC ?_
  refine cr <| s_ Qc <| zC ?_
  apply cr
  refine Yp fun b5 _ => ?_
  refine QC ?_
  refine zC ?_
  refine ⟨rfl, fun S2 w2 mk => ?_⟩
  refine zC ?_
  refine cr <| s_ Qd <| s_ Qn <| s_ YL <| zC ?_
  refine ci ?_ ?_
  ·intro hne
   refine zC ?_
   refine ca [0, 1, 2, 3, 4, 5, 6, 7, 8, 9, 10] [9, 10] <| QG ?_
   refine a_ (fun _ => Qe) ?_
   (first | refine a_ (fun _ => Qt) ?_ | refine a_ (fun _ => Qd) ?_)
   (first | refine a_ (fun _ => Qm) ?_ | refine QG ?_)
   refine a_ (fun _ => Qa) <| a_ (fun _ => QZ) <| a_ (fun _ => QZ) <| a_ (fun _ => Qd) <| QG ?_
   refine XH ?_
   refine XH ?_
   apply an
   refine zC ?_
   refine zC ?_
   apply X8
   simp only [Ys, YR]
   exact ⟨_, kS kR, .inr ⟨rfl, pre, x, rfl, hz, hne, rfl⟩⟩
  ·intro he
   refine zC ?_
   exact ⟨_, kS kR, .inl ⟨rfl, by intro p hp; rcases List.mem_append.1 hp with h | h; exact hz p h; rw [List.mem_singleton.1 h]; simpa using he, rfl⟩⟩
 ·rintro xs H' rfl ⟨hz, rfl⟩
  have hlc : lc n.log n.log.length = none := by rw [Lr n.log 0 n.log.length (by omega) hz]; rfl
  refine zC ?_
  refine zC ?_
  refine ca [0, 1, 2, 3, 4, 5, 6, 7, 8, 9] [8, 9] <| QG ?_
  refine a_ (fun _ => Qe) ?_
  (first | refine a_ (fun _ => Qt) ?_ | refine a_ (fun _ => Qd) ?_)
  (first | refine a_ (fun _ => Qm) ?_ | refine QG ?_)
  refine QG ?_
  refine a_ (fun _ => Qe) ?_
  (first | refine a_ (fun _ => Qt) ?_ | refine a_ (fun _ => Qd) ?_)
  (first | refine a_ (fun _ => Qm) ?_ | refine QG ?_)
  refine XH ?_
  refine XH ?_
  apply an
  refine zC ?_
  refine zC ?_
  refine zE ?_
  simp only [QI, hlc]; exact Le.refl _
 ·rintro pre H' ⟨k, hk, rfl⟩ ⟨ini, last, h1, hz, hne, rfl⟩
  have hlc := Dz hk h1.symm hz hne
  simp only [Ys, YR]
  refine rt ?_
  simp only [QI, hlc]; exact Le.refl _
def V6 (x : Int) : Int := ((List.range 5).filter x.toNat.testBit).length
def isF (conf id : Int) : Bool := conf.toNat.testBit id.toNat
def UU (a b : Int) : Int := (a.toNat &&& b.toNat : Nat)
def UL (conf some : Int) : Bool := decide (V6 conf < 2 * V6 (UU conf some))
def XC (id conf : Int) : Nd := ⟨id, 0, -1, 0, 0, conf, [], [], 0, 0, 0, 0, .all 0, .all 0⟩
def Yj (n : Nd) (i : Int) : Int := if n.base + 1 ≤ i ∧ i < n.base + 1 + n.log.length then (n.log.getD (i - n.base - 1).toNat default).term else n.baseTerm
def Q0 (n : Nd) : Int := n.base + n.log.length
theorem Es {x : Int} (h0 : 0 ≤ x) (h1 : x ≤ 31) : ∃ i : Fin 32, x = (i.val : Int) := ⟨⟨x.toNat, by omega⟩, by simp only; omega⟩
theorem Zo {K : Ctx} {t : Env} {b m : Nat} {e : TypeId} {cs : List T} {H1 : Qb} {Ψ : Exit → Env → Qb → Prop} {c : Code} (k : Nat) (hl : 0 < cs.length) (h : Sim K c ((k, .adr (.agg cs)) :: t) H1 Ψ) (hg : t.get k = .v (.pointer (some ⟨b, 0, none⟩)) := by rfl) : Sim K c t ((b, ⟨e, cs, m⟩) :: H1) Ψ := by
 have hcs : (T.agg cs).cells = cs := by simp [T.cells]
 refine Ji (G := [_]) (H1 := H1) [(k, .adr (.agg cs))] (by simp; rfl) ⟨?_, trivial⟩ h
 rw [hg]
 refine QB.ptr List.mem_cons_self (.inr ⟨_, rfl⟩) ?_ (by rwa [hcs]) (by rw [hcs]; exact Nat.le_refl _)
 rw [hcs]
 exact Qg.le (by rw [List.take_length]; exact LeL.refl _)
theorem VT {p : Int → Prop} (h : ∀ i : Fin 32, p (i.val : Int)) {x : Int} (h0 : 0 ≤ x) (h1 : x ≤ 31) : p x := by
 obtain ⟨i, rfl⟩ := Es h0 h1; exact h i
theorem Jb {x : Int} (h0 : 0 ≤ x) (h1 : x ≤ 31) : IntKind.u64.wrap x = x := VT (p := fun x => IntKind.u64.wrap x = x) (by decide) h0 h1
theorem Ip {x : Int} (h0 : 0 ≤ x) (h1 : x ≤ 31) : 0 ≤ V6 x ∧ V6 x ≤ 5 := VT (p := fun x => 0 ≤ V6 x ∧ V6 x ≤ 5) (by decide) h0 h1
theorem C0 {x y : Int} (h0 : 0 ≤ x) (h1 : x ≤ 31) (h2 : 0 ≤ y) (h3 : y ≤ 31) : VR .i64 x y = UU x y ∧ 0 ≤ UU x y ∧ UU x y ≤ 31 :=
 VT (p := fun x => VR .i64 x y = UU x y ∧ 0 ≤ UU x y ∧ UU x y ≤ 31) (fun i => VT (p := fun y => VR .i64 i y = UU i y ∧ 0 ≤ UU i y ∧ UU i y ≤ 31) (by revert i; decide) h2 h3) h0 h1
theorem BE {x y : Int} (h0 : 0 ≤ x) (h1 : x ≤ 31) (h2 : 0 ≤ y) (h3 : y < 5) : decide (VR .i64 (VQ .i64 x y) 1 = 1) = isF x y :=
 VT (p := fun x => decide (VR .i64 (VQ .i64 x y) 1 = 1) = isF x y) (fun i => VT (p := fun y => decide (VR .i64 (VQ .i64 i y) 1 = 1) = isF i y) (by revert i; decide) h2 (by omega)) h0 h1
theorem E7 (x : Int) (h0 : 0 ≤ x) (h1 : x ≤ 31) : FnP Tryz.prog 150 [.v (.int .u64 x)] (fun r => r = ei (V6 x)) := by
 refine fe Tryz.func150 fun S0 w0 => ?_
 show Sim _ _ [(0, T.v (.int .u64 x))] _ _
 refine zC ?_
 refine cr <| s_ Qc <| zC ?_
 refine cr <| s_ Qa <| s_ Zm <| s_ JE <| s_ Qa <| s_ JE <| s_ Vj <| s_ Qc <| zC ?_
 refine cr <| s_ Qa <| s_ Zm <| s_ JE <| s_ Qa <| s_ JE <| s_ Vj <| s_ Qc <| zC ?_
 refine cr <| s_ Qa <| s_ Zm <| s_ Qa <| s_ Vj <| s_ JE <| s_ Qc <| zC ?_
 refine cr <| s_ Qa <| s_ Qa <| s_ Zm <| s_ Vj <| s_ Qc <| zC ?_
 refine cr <| s_ Qa <| s_ Qa <| s_ Zm <| s_ Vj <| s_ Qc <| zC ?_
 refine cr <| s_ Qa <| s_ Qa <| s_ Zm <| s_ Vj <| s_ Qc <| zC ?_
 refine cr <| s_ Qa <| s_ Yc <| s_ JE <| s_ Qc <| zC ?_
 refine zE ?_
 obtain ⟨i, rfl⟩ := Es h0 h1
 refine Le.of_eq (congrArg (fun z => T.v (.int .i64 z)) ?_)
 revert i; decide
theorem D7 (x : Int) (h0 : 0 ≤ x) (h1 : x ≤ 31) : FnP Tryz.prog 109 [.v (.int .u64 x)] (fun r => r = ei (V6 x)) := by
 have h64 := E7 x h0 h1
 refine fe Tryz.func109 fun S0 w0 => ?_
 show Sim _ _ [(0, T.v (.int .u64 x))] _ _
 refine zC ?_
 refine cr <| s_ Qc <| zC ?_
 refine ci (p := False) (fun h => h.elim) (fun _ => ?_) (by rfl)
 refine zC ?_
 refine cr <| s_ Qa <| s_ (QM (h64)) <| s_ Qc <| zC ?_
 refine zE ?_
 exact Le.refl _
def big : Int := 1000000000000
theorem CM (id conf : Int) (h0 : 0 ≤ id) (h1 : id < 5) (h2 : 0 ≤ conf) (h3 : conf ≤ 31) : FnP Tryz.prog 66 [ei id, ei conf] (fun r => r = nd (XC id conf)) := by
 refine fe Tryz.func66 fun S0 w0 => ?_
 show Sim _ _ [(0, ei id), (1, ei conf)] _ _
 have ht : id.tmod 5 = id := Int.tmod_eq_of_lt h0 h1
 have ht2 : (id.tmod 5 + 5).tmod 5 = id := by rw [ht, Int.tmod_eq_emod_of_nonneg (by omega)]; omega
 have hc : VR .i64 conf 31 = conf := VT (p := fun x => VR .i64 x 31 = x) (by decide) h2 h3
 refine zC ?_
 apply cr
 refine Yp fun b4 _ => ?_
 refine zC ?_
 refine cr <| s_ Qa <| s_ E4 <| s_ QZ <| s_ E4 <| s_ Qa <| s_ JE <| s_ (ZH 22 [_, _, _, _, _, _, _, _, _, _, _, _, _, _, _, _, _, _, _, _, _, _]) <| QC ?_
 refine zC ?_
 refine zE ?_
 simp only [ht2, hc]
 show Le (.agg _) (.agg (Qw _ _))
 exact zL
theorem Cl (conf id : Int) (h0 : 0 ≤ id) (h1 : id < 5) (h2 : 0 ≤ conf) (h3 : conf ≤ 31) : FnP Tryz.prog 107 [ei conf, ei id] (fun r => r = eB (isF conf id)) := by
 refine fe Tryz.func107 fun S0 w0 => ?_
 show Sim _ _ [(0, ei conf), (1, ei id)] _ _
 have hw := Jb h0 (by omega)
 refine zC ?_
 refine cr <| s_ Qc <| zC ?_
 refine cr <| s_ Qa <| s_ Qa <| s_ Yc <| s_ Zm <| s_ JE <| s_ XF <| s_ Qc <| zC ?_
 refine zE ?_
 rw [Jb h0 (by omega), BE h2 h3 h0 h1]
 exact Le.refl _
theorem Ln (conf some : Int) (h0 : 0 ≤ some) (h1 : some ≤ 31) (h2 : 0 ≤ conf) (h3 : conf ≤ 31) : FnP Tryz.prog 146 [ei conf, ei some] (fun r => r = eB (UL conf some)) := by
 have hb := C0 h2 h3 h0 h1
 have o1 := D7 (UU conf some) hb.2.1 hb.2.2
 have o2 := D7 conf h2 h3
 have l1 := Ip hb.2.1 hb.2.2
 have l2 : V6 (IntKind.u64.wrap (VR .i64 conf some)) = V6 (UU conf some) := by rw [hb.1, Jb hb.2.1 hb.2.2]
 have w1 := Jb hb.2.1 hb.2.2
 have w2 := Jb h2 h3
 rw [← w1, ← hb.1, l2] at o1
 rw [← w2] at o2
 refine fe Tryz.func146 fun S0 w0 => ?_
 show Sim _ _ [(0, ei conf), (1, ei some)] _ _
 refine zC ?_
 refine cr <| s_ Qc <| zC ?_
 refine cr <| s_ Qa <| s_ Qa <| s_ JE <| s_ Yc <| s_ (QM (o1)) <| s_ CE <| s_ Qa <| s_ Yc <| s_ (QM (o2)) <| s_ Yb <| s_ Qc <| zC ?_
 refine zE ?_
 rw [w2]
 exact Le.refl _
theorem UX (n : Nd) (i : Int) (hl : n.log.length ≤ 1000000000) (hb1 : -big ≤ n.base) (hb2 : n.base ≤ big) (hi1 : -big ≤ i) (hi2 : i ≤ big) : FnP Tryz.prog 110 [.adr (nd n), ei i] (fun r => r = ei (Yj n i)) := by
 refine fe Tryz.func110 fun S0 w0 => ?_
 show Sim _ _ [(0, T.adr (.agg (Qw n (.sl false (n.log.map een))))), (1, ei i)] _ _
 simp only [big] at hb1 hb2 hi1 hi2
 refine zC ?_
 refine cr <| s_ Qc <| zC ?_
 refine cr <| s_ Qa <| s_ Qa <| s_ Qe ?_
 (first | refine s_ Qt ?_ | refine s_ Qd ?_)
 (first | refine s_ Qm ?_ | refine s_ Qn ?_)
 refine s_ Ze <| s_ Ze <| s_ Qc <| zC ?_
 refine cr <| s_ Qa <| s_ UR <| s_ Qa <| gT (fun hg => Qa) ?_
 refine gT (fun hg => Qa) ?_
 refine gT (fun hg => Qe (hx := u_ hg)) ?_
 (first | refine gT (fun hg => Qt (hx := u_ hg)) ?_ | refine gT (fun hg => Qd (hx := u_ hg)) ?_)
 (first | refine gT (fun hg => Qm (hx := u_ hg)) ?_ | refine gT (fun hg => Qn (hx := u_ hg)) ?_)
 (first | refine gT (fun hg => QR (hx := u_ hg)) ?_ | refine gT (fun hg => QN (hx := u_ hg)) ?_)
 refine gT (fun hg => QS (hx := u_ hg) (hy := u_ hg)) ?_
 refine s_ XY <| zC ?_
 refine ci ?_ ?_
 ·intro hc
  simp only [List.length_map] at hc
  refine zC ?_
  refine cr <| s_ Qa <| s_ Qe ?_
  (first | refine s_ Qt ?_ | refine s_ Qd ?_)
  (first | refine s_ Qm ?_ | refine s_ Qn ?_)
  refine s_ Qa ?_
  (first | refine s_ (Xt hix) ?_ | refine s_ (Xt hix2) ?_ | refine s_ Zg ?_ | refine s_ ZX ?_)
  (first | refine s_ Qt ?_ | refine s_ Qd ?_)
  (first | refine s_ Qm ?_ | refine s_ Qn ?_)
  refine s_ Qc <| zC ?_
  refine zE ?_
  rw [Yj, if_pos (by omega)]
  exact Le.refl _
 ·intro hc
  simp only [List.length_map] at hc
  refine zC ?_
  refine cr <| s_ Qa <| s_ Qe ?_
  (first | refine s_ Qt ?_ | refine s_ Qd ?_)
  (first | refine s_ Qm ?_ | refine s_ Qn ?_)
  refine s_ Qc <| zC ?_
  refine zE ?_
  rw [Yj, if_neg (by omega)]
  exact Le.refl _
theorem Jt (n : Nd) (hl : n.log.length ≤ 1000000000) (hb1 : -100000000000 ≤ n.base) (hb2 : n.base ≤ 100000000000) : FnP Tryz.prog 143 [nd n] (fun r => r = .tup [ei (Q0 n), ei (Yj n (Q0 n))]) := by
 have ht := UX n (Q0 n) hl (by simp only [big]; omega) (by simp only [big]; omega) (by simp only [big, Q0]; omega) (by simp only [big, Q0]; omega)
 have hlf : Q0 n = n.base + ((n.log.map een).length : Nat) := by simp [Q0]
 rw [hlf] at ht ⊢
 refine fe Tryz.func143 fun S0 w0 => ?_
 show Sim _ _ [(0, T.agg (Qw n (.sl false (n.log.map een))))] _ _
 refine zC ?_
 apply cr
 refine XW fun b1 _ => ?_
 refine s_ Qc <| s_ Qc <| zC ?_
 refine Zo 1 (by simp [Qw]) ?_
 refine zC ?_
 refine cr <| s_ Qt <| s_ Qm <| s_ Qt <| s_ Qm ?_
 (first | refine s_ QR ?_ | refine s_ QN ?_)
 refine s_ QZ <| s_ Qc <| zC ?_
 refine cr <| s_ Qa <| s_ Qa <| s_ (QM (ht)) <| s_ Qc <| s_ Qc <| zC ?_
 refine zE ?_
 exact Le.refl _
theorem U7 (n : Nd) (hl : n.log.length ≤ 1000000000) (hb1 : -1000000000000 ≤ n.base) (hb2 : n.base ≤ 1000000000000) : FnP Tryz.prog 32 [nd n] (fun r => r = ei (QI n).2) := by
 have ht := Ex n hl hb1 hb2
 refine fe Tryz.func32 fun S0 w0 => ?_
 show Sim _ _ [(0, T.agg (Qw n (.sl false (n.log.map een))))] _ _
 refine zC ?_
 apply cr
 refine XW fun b1 _ => ?_
 refine s_ Qc <| zC ?_
 refine Zo 1 (by simp [Qw]) ?_
 refine zC ?_
 refine cr <| s_ (QM (ht)) <| s_ Qa <| s_ QL <| s_ QL <| s_ Qc <| s_ Qc <| zC ?_
 refine cr <| s_ Qa <| s_ Qc <| zC ?_
 refine zE ?_
 exact Le.refl _
def tE : TypeId := 84
def tM : TypeId := 76
def tW : TypeId := 167
def OE (l : List En) (v : Value) (Hs : Qb) : Prop := OSl tE 3 (l.map een) v Hs
def OM (l : List Ms) (v : Value) (Hs : Qb) : Prop := OSl tM 11 (l.map ms) v Hs
theorem GG (l : List En) : ∀ x ∈ l.map een, x.cells.length = 3 := zk
theorem CS (l : List En) : ∀ x ∈ l.map een, x.solid := ZC _ (fun _ => .inr ⟨_, rfl⟩) _
theorem Vp (l : List Ms) : ∀ x ∈ l.map ms, x.cells.length = 11 := zk
theorem By (l : List Ms) : ∀ x ∈ l.map ms, x.solid := ZC _ (fun _ => .inr ⟨_, rfl⟩) _
theorem WK : ∀ (l : List En), ((l.map een).flatMap T.cells).all T.isV = true
 | [] => rfl
 | e :: l => by simp only [List.map_cons, List.flatMap_cons, List.all_append, WK l, Bool.and_true]; rfl
theorem OE.plain {l : List En} {v : Value} {Hs : Qb} (h : OE l v Hs) : ∀ p ∈ Hs, p.2.vals.all T.isV = true := by
 rcases h with ⟨_, _, rfl⟩ | ⟨b, c, _, _, rfl⟩
 ·simp
 ·intro p hp
  rw [List.mem_singleton.1 hp]
  exact WK l
theorem OE.len {l : List En} {v : Value} {Hs : Qb} (h : OE l v Hs) : ∃ p c, v = .slice p (l.map een).length c := OSl.len h
theorem OM.len {l : List Ms} {v : Value} {Hs : Qb} (h : OM l v Hs) : ∃ p c, v = .slice p (l.map ms).length c := OSl.len h
theorem OE.cap {l : List En} {p : Option Addr} {n c : Nat} {Hs : Qb} (h : OE l (.slice p n c) Hs) : n ≤ c := OSl.cap h
theorem OE.lend {l : List En} {v : Value} {Hs G : Qb} (h : OE l v Hs) (hG : ∀ p ∈ Hs, p ∈ G) : QB G (.v v) (.sl false (l.map een)) := OSl.lend h hG (GG l) (CS l)
theorem OM.lend {l : List Ms} {v : Value} {Hs G : Qb} (h : OM l v Hs) (hG : ∀ p ∈ Hs, p ∈ G) : QB G (.v v) (mss l) := OSl.lend h hG (Vp l) (By l)
theorem Y6 (f : Bool) (l : List En) (hl : l.length ≤ 1000000000) : FnH Tryz.prog 72 [.sl f (l.map een)] [] (fun r H => ∃ v, r = .v v ∧ OE l v H) := by
 refine fe Tryz.func72 fun S0 w0 => ?_
 show Sim _ _ [(0, T.sl f (l.map een))] _ _
 refine zC ?_
 refine cr <| s_ Qc <| zC ?_
 refine cr <| s_ Qa ?_
 refine ZI 3 fun p c h1 _ => ?_
 refine s_ Bq <| zC ?_
 refine ci ?_ ?_
 ·intro hp
  have := h1 hp
  have : l = [] := by simpa using this
  subst this
  refine zC ?_
  refine cr <| s_ Qc <| zC ?_
  refine zR ?_
  exact rh kR ⟨_, rfl, Zn⟩ (Le.refl _)
 ·intro hp
  refine zC ?_
  refine cr <| s_ JN ?_
  refine ZI 5 fun q c' _ h2 => ?_
  have := h2 rfl
  subst this
  cases l with
  | nil =>
   refine s_ Qa <| s_ (Bv (hxl := Le.slice0 q true)) ?_
   refine ZI 7 fun q c' _ h2 => ?_
   have := h2 rfl
   subst this
   refine s_ Qc <| zC ?_
   refine zR ?_
   exact rh kR ⟨_, rfl, Ue⟩ (Le.refl _)
  | cons e l =>
   refine s_ Qa ?_
   refine IR (ho := (Ue : OSl tE 3 [] _ [])) (A := []) (B := []) (fun _ h => by cases h) (fun v' Hs' ho => ?_)
   refine s_ Qc <| zC ?_
   refine zR ?_
   exact rh kR ⟨_, rfl, by simpa [OE] using ho⟩ (Le.refl _)
def SlE (G : Qb) (l : List En) (v : Value) : Prop := ∃ p c, v = .slice p l.length c ∧ l.length ≤ c ∧ QB G (.v v) (.sl false (l.map een))
theorem OE.sle {l : List En} {v : Value} {Hs G : Qb} (h : OE l v Hs) (hG : ∀ p ∈ Hs, p ∈ G) : SlE G l v := by
 obtain ⟨p, c, rfl⟩ := h.len
 exact ⟨p, c, by simp, by simpa using h.cap, h.lend hG⟩
theorem SlE.sub {G : Qb} {l : List En} {p : Option Addr} {n c : Nat} (h : SlE G l (.slice p n c)) {lo hi : Nat} (h1 : lo ≤ hi) (h2 : hi ≤ l.length) : SlE G ((l.drop lo).take (hi - lo)) (XU 3 p c lo (hi - lo)) := by
 obtain ⟨p', c', e, hc, hl⟩ := h
 cases e
 have h3 := QB.sub (P := Tryz.prog) (ty := 41) hl (zk) h1 (by simpa using h2) (by simp) hc
 have hlen : ((l.drop lo).take (hi - lo)).length = hi - lo := by simp; omega
 exact ⟨p.map fun a => if c = lo then a else a.add (lo * 3), c - lo, by rw [hlen]; rfl, by rw [hlen]; omega, by rw [List.map_take, List.map_drop]; exact h3⟩
abbrev Af (P : Program) (f : FuncId) (args : List T) (H : Qb) (d : T) : Prop := FnH P f args H fun r H' => H' = [] ∧ r = d
def wkC (n : Nd) (vl vo : Value) : List T := Qw n (.v vl) ++ [.v vo]
def WkH (b : Nat) (n : Nd) (out : List Ms) (H : Qb) : Prop := ∃ vl vo Hl Ho, OE n.log vl Hl ∧ OM out vo Ho ∧ H = (b, ⟨tW, wkC n vl vo, 23⟩) :: (Hl ++ (Ho ++ []))
def pW (b : Nat) : T := .v (.pointer (some ⟨b, 0, none⟩))
theorem OE.of {l : List En} : ∀ (r : T) (H : Qb), (∃ v, r = .v v ∧ OE l v H) → r.plain = true ∧ ∀ p ∈ H, p.2.vals.all T.isV = true := by
 rintro r H ⟨v, rfl, h⟩
 exact ⟨rfl, h.plain⟩
theorem DM (n : Nd) (hl : n.log.length ≤ 1000000000) : FnH Tryz.prog 102 [nd n] [] (fun r H => ∃ b, r = pW b ∧ WkH b n [] H) := by
 have hc := Y6 false n.log hl
 refine fe Tryz.func102 fun S0 w0 => ?_
 show Sim _ _ [(0, T.agg (Qw n (.sl false (n.log.map een))))] _ _
 refine zC ?_
 apply cr
 refine XW fun b1 _ => ?_
 refine s_ Qc <| zC ?_
 refine cr <| s_ Qd <| s_ Qn ?_
 refine Cq (G := []) hc (Qg.le (LeL.refl _)) ⟨_, List.Perm.refl _⟩ OE.of ?_
 rintro r H1 ⟨v, rfl, ho⟩
 obtain ⟨p, c, rfl⟩ := ho.len
 refine QF List.perm_middle ?_
 refine s_ Qd <| QC ?_
 refine zC ?_
 refine cr <| s_ Xf <| s_ (ZH 23 [_, _, _, _, _, _, _, _, _, _, _, _, _, _, _, _, _, _, _, _, _, _, _]) ?_
 refine XW fun b9 _ => ?_
 refine s_ Qc <| zC ?_
 refine zR ?_
 exact rh (.keep _ _ _ _ _ (X5.refl _) (.skip _ _ _ kR)) ⟨b9, rfl, _, _, H1, [], ho, Zn, rfl⟩ (Le.refl _)
theorem Q9 {G : Qb} (n : Nd) {x y : T} (h : QB G x y) : Qg G (Qw n x) (Qw n y) := by
 unfold Qw
 repeat (first | exact Qg.nil | (refine Qg.cons (QB.le (Le.refl _)) ?_) | (refine Qg.cons h ?_))
def wkD (n : Nd) (out : List Ms) : List T := Qw n (Y5 n.log) ++ [mss out]
theorem G1 {G Hl Ho : Qb} {n : Nd} {out : List Ms} {vl vo : Value} (h1 : OE n.log vl Hl) (h2 : OM out vo Ho) (hl : ∀ p ∈ Hl, p ∈ G) (ho : ∀ p ∈ Ho, p ∈ G) : Qg G (wkC n vl vo) (wkD n out) :=
 Qg.append (Q9 n (h1.lend hl)) (Qg.cons (h2.lend ho) Qg.nil)
theorem Cs {G Hl Ho : Qb} {b : Nat} {n : Nd} {out : List Ms} {vl vo : Value} (h1 : OE n.log vl Hl) (h2 : OM out vo Ho) (hl : ∀ p ∈ Hl, p ∈ G) (ho : ∀ p ∈ Ho, p ∈ G) (hb : (b, (⟨tW, wkC n vl vo, 23⟩ : Blk)) ∈ G) : QB G (pW b) (.adr (.agg (wkD n out))) :=
 QB.ptr hb (.inr ⟨_, rfl⟩) (G1 h1 h2 hl ho) (by simp [T.cells, wkD]) (by simp [T.cells, wkD, wkC, Qw])
theorem Ll {G Hl : Qb} {b : Nat} {n : Nd} {vl vo : Value} (h1 : OE n.log vl Hl) (hl : ∀ p ∈ Hl, p ∈ G) (hb : (b, (⟨tW, wkC n vl vo, 23⟩ : Blk)) ∈ G) : QB G (pW b) (.adr (nd n)) :=
 QB.ptr hb (.inr ⟨_, rfl⟩) (Q9 n (h1.lend hl)) (by simp [nd, T.cells, Qw]) (by simp [nd, T.cells, wkC, Qw])
theorem Yf {b : Nat} {n : Nd} {out : List Ms} {H : Qb} (hl : n.log.length ≤ 1000000000) (hw : WkH b n out H) : Af Tryz.prog 106 [pW b] H (.tup [nd n, mss out]) := by
 obtain ⟨vl, vo, Hl, Ho, h1, h2, rfl⟩ := hw
 have hc := Y6 false n.log hl
 obtain ⟨p, c, rfl⟩ := h1.len
 obtain ⟨q, d, rfl⟩ := h2.len
 refine fe Tryz.func106 fun S0 w0 => ?_
 show Sim _ _ [(0, pW b)] _ _
 refine zC ?_
 apply cr
 refine Yp fun b2 _ => ?_
 refine s_ Qc <| zC ?_
 refine cr <| s_ Qa <| s_ Qa <| s_ Qe <| s_ Qd <| s_ Qd <| s_ Qn ?_
 refine Rw hc (Qg.cons (h1.lend (by intro p hp; simp [hp])) Qg.nil) OE.of ?_
 rintro r H1 ⟨v, rfl, ho⟩
 obtain ⟨p', c', rfl⟩ := ho.len
 refine QF (List.perm_middle.trans (.cons _ List.perm_middle)) ?_
 refine s_ Qe <| s_ Qd <| s_ Qd <| QC ?_
 refine zC ?_
 refine zC ?_
 refine OW 0 (.adr (.agg (wkD n out))) (Cs ho h2 (by intro p hp; simp [hp]) (by intro p hp; simp [hp]) List.mem_cons_self) ?_
 refine zC ?_
 refine ca [0, 1, 2, 3, 4, 5, 6, 7, 8, 9] [8] <| a_ (fun _ => Qa) <| a_ (fun _ => Qe) <| a_ (fun _ => D4) <| a_ (fun _ => Zf) <| a_ (fun _ => Qa) <| a_ (fun _ => Qe) <| a_ (fun _ => Qt) <| a_ (fun _ => Qm) <| XH ?_
 refine a_ (fun _ => Qc) ?_
 apply an
 refine zC ?_
 refine zR ?_
 refine rt ?_
 exact Le.refl _
def X2 (n : Nd) (to : Int) (m : Ms) : Ms := { m with frm := n.id, to := to, term := n.term }
theorem Jr {b : Nat} {n : Nd} {out : List Ms} {H : Qb} (to : Int) (m : Ms) (hb : out.length ≤ 1000) (hw : WkH b n out H) : FnH Tryz.prog 145 [pW b, ei to, ms m] H (fun r H' => r = .tup [] ∧ WkH b n (out ++ [X2 n to m]) H') := by
 obtain ⟨vl, vo, Hl, Ho, h1, h2, rfl⟩ := hw
 obtain ⟨p, c, rfl⟩ := h1.len
 obtain ⟨q, d, rfl⟩ := h2.len
 refine fe Tryz.func145 fun S0 w0 => ?_
 show Sim _ _ [(0, pW b), (1, ei to), (2, T.agg (msC m (Y5 m.entries)))] _ _
 refine zC ?_
 apply cr
 refine XW fun b5 _ => ?_
 refine zC ?_
 refine ca [0, 1, 2, 3, 4, 5, 6, 7, 8, 9, 10, 11, 12, 13, 14, 15, 16] [12, 14, 16] <| a_ (fun _ => Qa) <| a_ (fun _ => Qe) <| a_ (fun _ => Qd) <| a_ (fun _ => Qd) <| QG ?_
 refine a_ (fun _ => Qa) <| a_ (fun _ => Qa) <| a_ (fun _ => Qe) <| a_ (fun _ => Qd) <| a_ (fun _ => Qd) <| QG ?_
 refine a_ (fun _ => Qd) <| XH ?_
 refine a_ (fun _ => Qd) <| XH ?_
 refine a_ (fun _ => Qd) <| XH ?_
 apply an
 refine zC ?_
 refine zC ?_
 refine ca [0, 1, 2, 3, 4, 5, 6, 7, 8, 9, 10] [7, 10] <| a_ (fun _ => Qa) <| a_ (fun _ => Qa) <| a_ (fun _ => Qe) <| a_ (fun _ => Qd) <| QG ?_
 refine YD ?_
 refine a_ (fun _ => JN) ?_
 refine C5 (ho := h2) (A := _ :: _ :: Hl) (B := []) (Vp out) (fun v' Hs' h3 => ⟨zd, ?_⟩)
 refine zD ?_
 obtain ⟨q', d', rfl⟩ := h3.len
 refine a_ (fun _ => Qe) <| a_ (fun _ => Qd) <| XH ?_
 apply an
 refine zC ?_
 exact rhn (.skip _ _ _ kR) ⟨rfl, _, _, Hl, Hs', h1, (by unfold OM; rw [List.map_append]; exact h3), rfl⟩ (Le.refl _)
def Z9 (n : Nd) (to : Int) : Ms := X2 n to (if n.next.get to.toNat ≤ n.base then ⟨5, 0, 0, 0, n.base, n.baseTerm, 0, n.baseConf, false, [], n.snap⟩
 else ⟨3, 0, 0, 0, n.next.get to.toNat - 1, Yj n (n.next.get to.toNat - 1), n.commit, 0, false, (n.log.drop (min (n.next.get to.toNat - 1 - n.base) n.log.length).toNat).take 8, []⟩)
theorem five {to : Int} (h0 : 0 ≤ to) (h5 : to < 5) : to = 0 ∨ to = 1 ∨ to = 2 ∨ to = 3 ∨ to = 4 := by omega
theorem U0 {n : Nd} {vl vo : Value} {to : Int} (h0 : 0 ≤ to) (h5 : to < 5) : (wkC n vl vo)[0 + 0 + 12 + to.toNat * 1]? = some (ei (n.next.get to.toNat)) := by
 rcases five h0 h5 with rfl | rfl | rfl | rfl | rfl <;> rfl
theorem OL {b : Nat} {n : Nd} {out : List Ms} {H : Qb} (to : Int) (h0 : 0 ≤ to) (h5 : to < 5) (hl : n.log.length ≤ 1000000000) (hb1 : -100000000000 ≤ n.base) (hb2 : n.base ≤ 100000000000) (hb3 : n.next.get to.toNat ≤ 100000000000) (hb : out.length ≤ 1000) (hw : WkH b n out H) :
  FnH Tryz.prog 105 [pW b, ei to] H (fun r H' => r = .tup [] ∧ WkH b n (out ++ [Z9 n to]) H') := by
 have hw' := hw
 obtain ⟨vl, vo, Hl, Ho, h1, h2, rfl⟩ := hw
 obtain ⟨p, c, rfl⟩ := h1.len
 obtain ⟨q, d, rfl⟩ := h2.len
 refine fe Tryz.func105 fun S0 w0 => ?_
 show Sim _ _ [(0, pW b), (1, ei to)] _ _
 refine zC ?_
 refine ca [0, 1, 2, 3, 4, 5, 6, 7, 8, 9, 10, 11, 12] [] <| a_ (fun _ => Qa) <| a_ (fun _ => Qa) <| a_ (fun _ => Qe) <| a_ (fun _ => Qd) <| a_ (fun _ => Qd) <| a_ (fun _ => ZY) <| QG (hd := U0 h0 h5) ?_
 refine a_ (fun _ => Qa) <| a_ (fun _ => Qe) <| a_ (fun _ => Qd) <| a_ (fun _ => Qd) <| QG ?_
 refine a_ (fun _ => Io) ?_
 apply an
 refine zC ?_
 refine ci ?_ ?_
 ·intro hc
  refine zC ?_
  refine ca [0, 1, 2, 3, 4, 5, 6, 7, 8, 9, 10, 11, 12, 13, 14, 15, 16, 17, 18, 19, 20, 21, 22, 23] [23] <| a_ (fun _ => Qa) <| a_ (fun _ => Qa) <| a_ (fun _ => Qa) <| a_ (fun _ => Qe) <| a_ (fun _ => Qd) <| a_ (fun _ => Qd) <| QG ?_
  refine a_ (fun _ => Qa) <| a_ (fun _ => Qe) <| a_ (fun _ => Qd) <| a_ (fun _ => Qd) <| QG ?_
  refine a_ (fun _ => Qa) <| a_ (fun _ => Qe) <| a_ (fun _ => Qd) <| a_ (fun _ => Qd) <| QG ?_
  refine a_ (fun _ => Qa) <| a_ (fun _ => Qe) <| a_ (fun _ => Qd) <| a_ (fun _ => Qd) <| QG ?_
  refine a_ (fun _ => ZH 11 [_, _, _, _, _, _, _, _, _, _, _]) ?_
  refine I4 (FnH.of_le ?_ (Jr to ⟨5, 0, 0, 0, n.base, n.baseTerm, 0, n.baseConf, false, [], n.snap⟩ hb hw')) (fun r H' ⟨hr, h3⟩ => ⟨zd, ?_⟩)
  ·exact zM
  ·refine zD ?_
   subst hr
   apply an
   refine zC ?_
   refine zR ?_
   refine rh kR ⟨rfl, ?_⟩ (Le.refl _)
   rw [Z9, if_pos hc]
   exact h3
 ·intro hc
  have ht := UX n (n.next.get to.toNat - 1) hl (by simp only [big]; omega) (by simp only [big]; omega) (by simp only [big]; omega) (by simp only [big]; omega)
  refine zC ?_
  refine cr <| s_ Qa <| s_ Qa <| s_ Qe <| s_ Qd <| s_ Qd <| s_ ZY <| s_ (Qn (hd := U0 h0 h5)) <| s_ Ze <| s_ Qc <| zC ?_
  refine zC ?_
  refine ca [0, 1, 2, 3, 4, 5, 6, 7, 8, 9, 10, 11, 12, 13, 14, 15, 16, 17, 18, 19, 20] [] <| a_ (fun _ => Qa) <| a_ (fun _ => Qe) <| a_ (fun _ => Qd) <| a_ (fun _ => Qd) <| QG ?_
  refine a_ (fun _ => Qa) <| a_ (fun _ => Qa) <| a_ (fun _ => Qe) <| a_ (fun _ => Qd) <| a_ (fun _ => Qd) <| QG ?_
  refine a_ (fun _ => Ze) <| a_ (fun _ => Qa) <| a_ (fun _ => Qe) <| a_ (fun _ => Qd) <| a_ (fun _ => Qd) <| QG ?_
  (first | refine a_ (fun _ => QR) ?_ | refine a_ (fun _ => QN) ?_)
  refine a_ (fun _ => Lh) ?_
  obtain ⟨m, hm⟩ : ∃ m : Nat, (m : Int) = min (n.next.get to.toNat - 1 - n.base) ((n.log.map een).length : Nat) := ⟨(min (n.next.get to.toNat - 1 - n.base) ((n.log.map een).length : Nat)).toNat, by omega⟩
  have hml : m ≤ n.log.length := by simp only [List.length_map] at hm; omega
  have hs5 := (h1.sle (G := (b, ⟨tW, wkC n (.slice p (n.log.map een).length c) (.slice q (out.map ms).length d), 23⟩) :: (Hl ++ (Ho ++ []))) (by intro p hp; simp [hp]))
  have hs5' := SlE.sub hs5 (lo := m) (hi := n.log.length) hml (Nat.le_refl _)
  rw [List.take_of_length_le (by simp)] at hs5'
  obtain ⟨p5, c5, e5, hc5, hl5⟩ := hs5'
  rw [← hm]
  refine a_ (fun _ => D3 (i := (m : Int)) (p := p) (n := (n.log.map een).length) (c := c) h1.cap (by simp only [List.length_map, Int.toNat_natCast]; exact e5)) <| a_ (fun _ => Qc) ?_
  apply an
  refine zC ?_
  refine zC ?_
  refine zC ?_
  refine ca [0, 1, 2, 3, 4, 5, 6, 7, 8, 9, 10, 11, 12, 14, 15, 16, 17, 18, 13, 19, 20] [13, 20] <| a_ (fun _ => Qa) <| a_ (fun _ => Qa) <| a_ (fun _ => Qa) <| a_ (fun _ => Qa) <| a_ (fun _ => Qe) <| a_ (fun _ => Qd) <| a_ (fun _ => Qa) ?_
  refine C6 (G := (b, _) :: (Hl ++ (Ho ++ []))) ht (Qg.cons (Ll h1 (by intro p hp; simp [hp]) List.mem_cons_self) (Qg.cons (QB.le (Le.refl _)) Qg.nil)) ⟨[], UJ⟩ ?_
  refine a_ (fun _ => Qa) <| a_ (fun _ => Qa) ?_
  (first | refine a_ (fun _ => QR) ?_ | refine a_ (fun _ => QN) ?_)
  refine a_ (fun _ => Lh) ?_
  obtain ⟨k, hk⟩ : ∃ k : Nat, (k : Int) = min (((n.log.drop m).length : Nat) : Int) 8 := ⟨min (n.log.drop m).length 8, by omega⟩
  have hs6 := SlE.sub ⟨p5, c5, rfl, hc5, e5 ▸ hl5⟩ (lo := 0) (hi := k) (Nat.zero_le _) (by omega)
  simp only [List.drop_zero, Nat.sub_zero] at hs6
  obtain ⟨p6, c6, e6, hc6, hl6⟩ := hs6
  rw [← hk]
  refine a_ (fun _ => Me (j := (k : Int)) (p := p5) (n := (n.log.drop m).length) (c := c5) hc5 (by simp only [Int.toNat_natCast]; exact e6)) <| a_ (fun _ => Qa) <| a_ (fun _ => Qe) <| a_ (fun _ => Qd) <| a_ (fun _ => Qd) <| QG ?_
  refine BT (Y6 false ((n.log.drop m).take k) (by simp; omega)) (Qg.cons (e6 ▸ hl6) Qg.nil) ⟨[], UJ⟩ OE.of ?_
  rintro r H1 ⟨v, rfl, ho⟩
  obtain ⟨p7, c7, rfl⟩ := ho.len
  refine ⟨zd, ?_⟩
  refine zD ?_
  refine a_ (fun _ => ZH 11 [_, _, _, _, _, _, _, _, _, _, _]) ?_
  refine I4 (FnH.lend (G := H1) ?_ (Jr to ⟨3, 0, 0, 0, n.next.get to.toNat - 1, Yj n (n.next.get to.toNat - 1), n.commit, 0, false, (n.log.drop m).take k, []⟩ hb hw')) (fun r H' ⟨hr, h3⟩ => ⟨zd, ?_⟩)
  ·refine Qg.cons (QB.le (Le.refl _)) (Qg.cons (QB.le (Le.refl _)) (Qg.cons (QB.agg ?_) Qg.nil))
   repeat (first | exact Qg.nil | (refine Qg.cons (QB.le (Le.refl _)) ?_) | (refine Qg.cons (ho.lend fun _ h => h) ?_))
  ·refine zD ?_
   subst hr
   apply an
   refine zC ?_
   refine rhn kR ⟨rfl, ?_⟩ (Le.refl _)
   have e1 : (min (n.next.get to.toNat - 1 - n.base) (n.log.length : Int)).toNat = m := by simp only [List.length_map] at hm; omega
   have e2 : (n.log.drop m).take 8 = (n.log.drop m).take k := by
    rw [List.take_eq_take_iff]; omega
   rw [Z9, if_neg hc, e1, e2]
   exact h3
end Go.Proofs.YtjbokbikkcfjjaaGreat
