/-
  Bytes: slices.Clone, Grow, Concat; a number's, a text's bytes behind others.
-/
import Derived.Test.YtjbokbikkcfjjaaGreatAal
set_option maxRecDepth 16000
set_option maxHeartbeats 8000000
set_option linter.all false
namespace Go.Proofs.YtjbokbikkcfjjaaGreat
open Go.Cap
attribute [local irreducible] POp Qe AD EOp Sim FnH T.gp
def tB : TypeId := 5
def bl (l : List UInt8) : T := .sl false (l.map eb)
def OB (l : List UInt8) (v : Value) (Hs : Qc) : Prop := OSl tB 1 (l.map eb) v Hs
theorem eb1 (l : List UInt8) : ∀ x ∈ l.map eb, x.cells.length = 1 := zk
theorem Ag (l : List UInt8) : ∀ x ∈ l.map eb, x.solid := ZF _ (fun _ => .inl rfl) _
theorem OB.len {l : List UInt8} {v : Value} {Hs : Qc} (h : OB l v Hs) : ∃ p c, v = .slice p (l.map eb).length c := OSl.len h
theorem OB.lend {l : List UInt8} {v : Value} {Hs G : Qc} (h : OB l v Hs) (hG : ∀ p ∈ Hs, p ∈ G) : Qu G (.v v) (bl l) := OSl.lend h hG (eb1 l) (Ag l)
theorem WW (f : Bool) (l : List UInt8) (hl : l.length ≤ 1000000000000) : FnH Tryz.prog 127 [.sl f (l.map eb)] [] (fun r H => ∃ v, r = .v v ∧ OB l v H) := by
 refine fe Tryz.func127 fun S0 w0 => ?_
 show Sim _ _ [(0, T.sl f (l.map eb))] _ _
 refine zC ?_
 refine cr <| s_ Qb <| zC ?_
 refine cr <| s_ Qa ?_
 refine Y0 3 fun p c h1 _ => ?_
 refine s_ Bc <| zC ?_
 refine ci ?_ ?_
 ·intro hp
  have := h1 hp
  have : l = [] := by simpa using this
  subst this
  refine zC ?_
  refine cr <| s_ Qb <| zC ?_
  refine zR ?_
  exact rh kR ⟨_, rfl, Yy⟩ (Le.refl _)
 ·intro hp
  refine zC ?_
  refine cr <| s_ Z0 ?_
  refine Y0 5 fun q c' _ h2 => ?_
  have := h2 rfl
  subst this
  refine s_ Qa ?_
  refine VW (ho := (Ug : OSl tB 1 [] _ [])) (A := []) (B := []) (fun _ h => by cases h) (fun v' Hs' ho => ?_)
  refine s_ Qb <| zC ?_
  refine zR ?_
  exact rh kR ⟨_, rfl, by simpa [OB] using ho⟩ (Le.refl _)
theorem Zg (f : Bool) (l : List UInt8) (hl : l.length ≤ 1000000000000) : FnP Tryz.prog 127 [.sl f (l.map eb)] (fun r => r = bl l) :=
 FnH.give (WW f l hl) (by rintro r H ⟨v, rfl, ho⟩; exact ho.lend fun _ h => h)
theorem Rw (n : Nat) (hn : n ≤ 10000000000000) : FnH Tryz.prog 178 [.v (.slice none 0 0), ei n] [] (fun r H => ∃ v, r = .v v ∧ OB [] v H) := by
 refine fe Tryz.func178 fun S0 w0 => ?_
 show Sim _ _ [(0, T.v (.slice none 0 0)), (1, ei n)] _ _
 refine zC ?_
 refine cr <| s_ Qb <| zC ?_
 refine cr <| s_ Qa <| s_ QR <| zC ?_
 refine ci ?_ ?_
 ·intro h; exact absurd h (by omega)
 intro _
 refine zC ?_
 refine cr <| s_ Qa <| s_ Qa <| s_ CP <| s_ Qa ?_
 (first | refine s_ QP ?_ | refine s_ QO ?_)
 refine s_ Y9 <| s_ Y9 <| s_ Qb <| zC ?_
 refine cr <| s_ Qa <| s_ X0 <| zC ?_
 have e0 : (n : Int) - (((0 : Nat) : Int) - ((0 : Nat) : Int)) = n := by omega
 rw [e0]
 refine ci ?_ ?_
 ·intro h0
  have h0' : 0 < n := by omega
  refine zC ?_
  refine cr <| s_ Qa <| s_ Qa <| s_ CP <| s_ (Ef (p := none) (n := 0) (c := 0) (v := .slice none 0 0) (Nat.le_refl _) rfl) <| s_ Qa ?_
  refine Aj (n := n) (fun b c _ hc => ?_)
  refine s_ Qa ?_
  (first | refine s_ QP ?_ | refine s_ QO ?_)
  refine s_ (Ef (p := some ⟨b, 0, none⟩) (n := n) (c := c) (j := ((0 : Nat) : Int)) (v := .slice (some ⟨b, 0, none⟩) 0 c) hc (by simp [JB, Addr.add])) <| s_ Qb <| zC ?_
  refine zC ?_
  refine cr <| s_ Qa <| s_ Qb <| zC ?_
  refine zR ?_
  exact rh kR ⟨_, rfl, .inr ⟨b, c, rfl, by simp, rfl⟩⟩ (Le.refl _)
 ·intro h0
  refine zC ?_
  refine cr <| s_ Qa <| s_ Qb <| zC ?_
  refine zR ?_
  exact rh kR ⟨_, rfl, Yy⟩ (Le.refl _)
def JD (rows : List (Bool × List UInt8)) : List UInt8 := rows.flatMap (·.2)
def RR (p : Bool × List UInt8) : T := .sl p.1 (p.2.map eb)
theorem WY {rows : List (Bool × List UInt8)} {k : Nat} (hk : k < rows.length) : JD (rows.take (k + 1)) = JD (rows.take k) ++ (rows[k]'hk).2 := by
 unfold JD
 rw [List.take_succ_eq_append_getElem hk, List.flatMap_append]
 simp
theorem EM {rows : List (Bool × List UInt8)} (k : Nat) : (JD (rows.take k)).length ≤ (JD rows).length := by
 conv => rhs; rw [← List.take_append_drop k rows]
 unfold JD
 rw [List.flatMap_append, List.length_append]
 omega
theorem WU (f : Bool) (rows : List (Bool × List UInt8)) (hn : (JD rows).length ≤ 100000000000) (hr : rows.length ≤ 1000000) : FnP Tryz.prog 174 [.sl f (rows.map RR)] (fun r => r = bl (JD rows)) := by
 refine FnH.give (Φ := fun r H => ∃ v, r = .v v ∧ OB (JD rows) v H) ?_ (by rintro r H ⟨v, rfl, ho⟩; exact ho.lend fun _ h => h)
 refine fe Tryz.func174 fun S0 w0 => ?_
 show Sim _ _ [(0, T.sl f (rows.map RR))] _ _
 refine zC ?_
 refine cr <| s_ Qb <| zC ?_
 refine cr <| s_ Qb <| zC ?_
 refine cr <| s_ Qa ?_
 (first | refine s_ QP ?_ | refine s_ QO ?_)
 refine s_ Qa <| zC ?_
 apply Qo (σ := Nat) (ok := fun k => k ≤ rows.length) (env := fun k => [(11, ei k), (3, ei ((JD (rows.take k)).length : Nat)), (10, ei (rows.length : Nat)), (9, .sl f (rows.map RR)), (0, .sl f (rows.map RR))]) (heap := fun _ => []) (μ := fun k => rows.length - k) (s0 := 0)
 ·exact Nat.zero_le _
 ·refine ⟨?_, ?_, ?_, eL⟩
  ·apply Qi; (exact zG)
   exact Le.refl _
  ·apply Qi; (exact zG)
   exact Le.refl _
  ·apply Qi; (exact zG)
   exact Le.of_eq (by simp [ei])
 ·exact kR
 intro k hk
 refine zC ?_
 refine cr <| s_ QR <| zC ?_
 refine ci ?_ ?_
 ·intro hlt
  have hlt' : k < rows.length := by omega
  have hnx := WY hlt'
  have hle := EM (rows := rows) (k + 1)
  rw [hnx, List.length_append] at hle
  refine zC ?_
  apply cr
  (first | refine s_ (Xg hix) ?_ | refine s_ (Xg hix2) ?_ | refine s_ YK ?_ | refine s_ ZK ?_)
  (first | refine s_ Qn ?_ | refine s_ Ql ?_)
  refine s_ Qb <| zC ?_
  refine cr <| s_ Qa <| s_ Qa ?_
  (first | refine s_ QP ?_ | refine s_ QO ?_)
  refine s_ Q0 <| s_ Qb <| zC ?_
  refine cr <| s_ Qa <| s_ QR <| zC ?_
  refine ci ?_ ?_
  ·intro h; exact absurd h (by simp only [List.length_map]; omega)
  intro _
  refine zC ?_
  refine cr <| s_ Q0 <| s_ Qa <| zC ?_
  refine ⟨k + 1, by omega, (by simp only []; omega), ⟨?_, ?_, eL⟩, kR⟩
  ·apply Qi; (exact zG)
   exact Le.refl _
  ·apply Qi; (exact zG)
   exact Le.of_eq (by rw [hnx]; simp [ei])
 intro hge
 have hke : k = rows.length := by omega
 subst hke
 rw [List.take_length]
 refine zC ?_
 refine cr <| s_ Qa ?_
 refine QU (Hs := []) (Hr := []) (Rw (JD rows).length (by omega)) (.refl _) (fun r H' ⟨v, hr, ho⟩ => ?_)
 subst hr
 refine s_ Qb <| zC ?_
 refine cr <| s_ Qa ?_
 (first | refine s_ QP ?_ | refine s_ QO ?_)
 refine s_ Qa <| zC ?_
 apply Qo (σ := Nat × Value × Qc) (ok := fun s => s.1 ≤ rows.length ∧ OB (JD (rows.take s.1)) s.2.1 s.2.2) (env := fun s => [(27, ei s.1), (6, .v s.2.1), (26, ei (rows.length : Nat)), (25, .sl f (rows.map RR))]) (heap := fun s => s.2.2) (μ := fun s => rows.length - s.1) (s0 := (0, v, H'))
 ·exact ⟨Nat.zero_le _, ho⟩
 ·refine ⟨?_, ?_, ?_, eL⟩
  ·apply Qi; (exact zG)
   exact Le.refl _
  ·apply Qi; (exact zG)
   exact Le.refl _
  ·apply Qi; (exact zG)
   exact Le.of_eq (by simp [ei])
 ·rw [List.append_nil]; exact kR
 rintro ⟨k, v, H⟩ ⟨hk, ho⟩
 simp only at hk ho
 refine zC ?_
 refine cr <| s_ QR <| zC ?_
 refine ci ?_ ?_
 ·intro hlt
  simp only at hlt
  have hlt' : k < rows.length := by omega
  have hnx := WY hlt'
  have hle := EM (rows := rows) (k + 1)
  rw [hnx, List.length_append] at hle
  refine zC ?_
  apply cr
  (first | refine s_ (Xg hix) ?_ | refine s_ (Xg hix2) ?_ | refine s_ YK ?_ | refine s_ ZK ?_)
  (first | refine s_ Qn ?_ | refine s_ Ql ?_)
  refine s_ Qb <| zC ?_
  refine cr <| s_ Qa <| s_ Qa ?_
  refine VW (ho := ho) (A := []) (B := []) (eb1 _) (fun v' Hs' ho' => ?_) (hH := by simp)
  refine s_ Qb <| zC ?_
  refine cr <| s_ Q0 <| s_ Qa <| zC ?_
  refine ⟨(k + 1, v', Hs'), ⟨by simp only; omega, ?_⟩, (by simp only []; omega), ⟨?_, ?_, eL⟩, by simp only [List.nil_append, List.append_nil]; exact kR⟩
  ·simp only
   rw [hnx]
   unfold OB
   rw [List.map_append]
   exact ho'
  ·apply Qi; (exact zG)
   exact Le.refl _
  ·apply Qi; (exact zG)
   exact Le.refl _
 intro hge
 simp only at hge
 have hke : k = rows.length := by omega
 subst hke
 rw [List.take_length] at ho
 refine zC ?_
 refine cr <| s_ Qa <| s_ Qb <| zC ?_
 refine zR ?_
 exact rh kR ⟨v, rfl, ho⟩ (Le.refl _)
theorem Mq {k u : Nat} (h : 128 ≤ u) : JC (k + 1) u = UInt8.ofNat (u % 128 + 128) :: JC k (u / 128) := by rw [JC, if_pos h]
theorem VB {k u : Nat} (h : u < 128) : JC k u = [UInt8.ofNat u] := by
 cases k with
 | zero => rfl
 | succ k => rw [JC, if_neg (by omega)]
theorem G8 (u : Nat) : bOr .u8 (IntKind.u8.wrap ((u : Int).tmod 128)) 128 = ((UInt8.ofNat (u % 128 + 128)).toNat : Int) := by
 have key : ∀ i : Fin 128, bOr .u8 (IntKind.u8.wrap ((i.val : Nat) : Int)) 128 = ((UInt8.ofNat (i.val + 128)).toNat : Int) := by decide +kernel
 have h := key ⟨u % 128, Nat.mod_lt _ (by omega)⟩
 rw [show (u : Int).tmod 128 = ((u % 128 : Nat) : Int) from rfl]
 exact h
theorem G9 {u : Nat} (h : u < 128) : IntKind.u8.wrap (u : Int) = ((UInt8.ofNat u).toNat : Int) := by
 have key : ∀ i : Fin 128, IntKind.u8.wrap ((i.val : Nat) : Int) = ((UInt8.ofNat i.val).toNat : Int) := by decide +kernel
 exact key ⟨u, h⟩
theorem E2 (u : Nat) : VZ .u64 (u : Int) 7 = ((u / 128 : Nat) : Int) := by
 unfold VZ
 rw [show min (7 : Int).toNat IntKind.u64.bits = 7 by rfl, show (2 : Int) ^ 7 = 128 by rfl, Int.fdiv_eq_ediv_of_nonneg _ (by omega)]
 omega
theorem OV (k : Nat) : 2 ^ (7 * (k + 1 + 1)) = 2 ^ (7 * (k + 1)) * 128 := by
 rw [show 7 * (k + 1 + 1) = 7 * (k + 1) + 7 by omega, Nat.pow_add]
theorem Xb (n : Int) : 1 ≤ (Xv n).length ∧ (Xv n).length ≤ 10 := Mp 9 (ZC n)
structure AT where
 k : Nat
 u : Nat
 out : List UInt8
 v : Value
 H : Qc
theorem VG (f : Bool) (b : List UInt8) (n : Int) (h0 : -9223372036854775808 ≤ n) (h1 : n ≤ 9223372036854775807) (hl : b.length ≤ 100000000000) : FnP Tryz.prog 164 [.sl f (b.map eb), ei n] (fun r => r = bl (b ++ Xv n)) := by
 have hlen := Xb n
 have htl := LW h0 h1
 refine fe Tryz.func164 fun S0 w0 => ?_
 show Sim _ _ [(0, T.sl f (b.map eb)), (1, ei n)] _ _
 refine zC ?_
 refine cr <| s_ Qb <| zC ?_
 refine cr <| s_ Qa ?_
 refine QU (Hs := []) (Hr := []) (WW f b (by omega)) (.refl _) (fun r H ⟨v, hr, ho⟩ => ?_)
 subst hr
 refine s_ Qb <| zC ?_
 refine cr <| s_ Qa <| s_ (QK (EU n h0 h1)) <| s_ Qb <| zC ?_
 apply Qo (σ := AT) (ok := fun s => OB s.out s.v s.H ∧ s.out ++ JC s.k s.u = b ++ Xv n ∧ s.u < 2 ^ (7 * (s.k + 1))) (env := fun s => [(6, .v (.int .u64 s.u)), (5, .v s.v)]) (heap := fun s => s.H) (μ := fun s => s.k) (s0 := ⟨9, ZC n, b, v, H⟩)
 ·exact ⟨ho, rfl, by simp only; omega⟩
 ·exact eL
 ·rw [List.append_nil]; exact kR
 rintro ⟨k, u, out, v, H⟩ ⟨ho, he, hu⟩
 simp only at ho he hu
 show Sim _ _ [(6, .v (.int .u64 u)), (5, .v v)] H _
 have hol : out.length ≤ 100000000010 := by
  have := congrArg List.length he
  simp only [List.length_append] at this
  omega
 refine zC ?_
 refine cr <| s_ Qa <| s_ U0 <| zC ?_
 refine ci ?_ ?_
 ·intro hge
  have hge' : 128 ≤ u := by omega
  cases k with
  | zero => exact absurd hu (by omega)
  | succ k =>
   refine zC ?_
   refine cr <| s_ Qa <| s_ Qa <| s_ Gl <| s_ Ya <| s_ UU ?_
   rw [G8 u]
   refine s_ Z0 ?_
   refine VW (ho := ho) (A := []) (B := []) (ys := [eb (UInt8.ofNat (u % 128 + 128))]) (f := true) (eb1 _) (fun v' Hs' ho' => ?_) (hH := by simp)
   refine s_ Qb <| zC ?_
   refine cr <| s_ Qa <| s_ Zt ?_
   rw [E2 u]
   refine s_ Qb <| zC ?_
   refine ⟨⟨k, u / 128, out ++ [UInt8.ofNat (u % 128 + 128)], v', Hs'⟩, ⟨?_, ?_, ?_⟩, (by simp only []; omega), eL, by simp only [List.nil_append, List.append_nil]; exact kR⟩
   ·simp only
    unfold OB
    rw [List.map_append]
    exact ho'
   ·simp only
    rw [← he, Mq hge', List.append_assoc]
    rfl
   ·simp only
    rw [OV] at hu
    exact Nat.div_lt_of_lt_mul (by omega)
 ·intro hlt
  have hlt' : u < 128 := by omega
  refine zC ?_
  refine cr <| s_ Qa <| s_ Qa <| s_ Ya ?_
  rw [G9 hlt']
  refine s_ Z0 ?_
  refine VW (ho := ho) (A := []) (B := []) (ys := [eb (UInt8.ofNat u)]) (f := true) (eb1 _) (fun v' Hs' ho' => ?_) (hH := by simp)
  rw [VB hlt'] at he
  have ho2 : OB (b ++ Xv n) v' Hs' := by rw [← he]; unfold OB; rw [List.map_append]; exact ho'
  refine QJ (FnH.lend (G := Hs') (Qg.cons (ho2.lend fun _ h => h) Qg.nil) (Zg false (b ++ Xv n) (by simp only [List.length_append]; omega))) (fun r H' ⟨hr1, hr2⟩ => ?_)
  subst hr1 hr2
  refine s_ Qb <| zC ?_
  refine zE ?_
  exact Le.refl _
theorem MV (f g : Bool) (b s : List UInt8) (hb : b.length ≤ 10000000000) (hs : s.length ≤ 10000000000) : FnP Tryz.prog 173 [.sl f (b.map eb), .sl g (s.map eb)] (fun r => r = bl (b ++ Xv s.length ++ s)) := by
 have hlen := Xb s.length
 have hi := VG f b (s.length : Nat) (by omega) (by omega) (by omega)
 have hc := WU true [(false, b ++ Xv s.length), (g, s)] (by simp [JD]; omega) (by simp)
 refine fe Tryz.func173 fun S0 w0 => ?_
 show Sim _ _ [(0, T.sl f (b.map eb)), (1, T.sl g (s.map eb))] _ _
 refine zC ?_
 refine cr <| s_ Qb <| zC ?_
 refine cr <| s_ Qa <| s_ Qa ?_
 (first | refine s_ QP ?_ | refine s_ QO ?_)
 rw [List.length_map]
 refine s_ (QK (hi)) <| s_ Qa <| s_ Z0 <| s_ (QK (hc)) <| s_ Qb <| zC ?_
 refine zE ?_
 exact Le.of_eq (by simp [JD, bl]; rfl)
end Go.Proofs.YtjbokbikkcfjjaaGreat
namespace Go.Cap
section
variable {K : Ctx} {t : Env} {H : Qc} {N : Env → Qc → Prop} {ty ty' tp : TypeId} {pos : String} {aft : Array Edge} {g : Option (Nat × Bool)} {ops : Array Oper} {i : Nat} {l : List Oper} {kd : Tmp} {eff : List Nat} {pend : List Q9} {al : List (Nat × Oper)}
theorem B8 {c : Code} {Ψ : Exit → Env → Qc → Prop} {G H1 : Qc} {d : T} (k : Nat) (x : T) (hl : Qu G d x) (hp : H.Perm (G ++ H1)) (h : Sim K c ((k, x) :: t) H1 Ψ) (hg : t.get k = d := by rfl) : Sim K c t H Ψ :=
 Y6 (G := G) (H1 := H1) [(k, x)] hp ⟨hg ▸ hl, trivial⟩ h
end
end Go.Cap
namespace Go.Proofs.YtjbokbikkcfjjaaGreat
open Go.Cap
attribute [local irreducible] POp Qe AD EOp Sim FnH T.gp
theorem Ct (l : List En) (hl : l.length ≤ 4611686018427387904) : ItC Tryz.prog 124 [.adr (Zn l)] (fun p : Nat × En => [ei p.1, een p.2]) (fun xs => xs = VX l l.length) (fun pre => ∃ k, k ≤ l.length ∧ pre = VX l k) := by
 refine MC Tryz.func124 (by rfl) (by rfl) (by rfl) ?_
 intro c l' r I Ix Hx S w hlen _ _ hK h0 hY
 show Sim _ _ [(Tryz.f124.ntmps, .v undef), (0, .v (.func (.yield l') #[] #[])), (1, .adr (.sl false (l.map een)))] _ _
 refine zC ?_
 apply cr
 (first | refine s_ Qn ?_ | refine s_ Ql ?_)
 (first | refine s_ QP ?_ | refine s_ QO ?_)
 refine s_ Y9 <| s_ Qb <| zC ?_
 apply Qo (σ := Nat × Qc) (ok := fun s => s.1 ≤ l.length ∧ I (VX l s.1) s.2) (env := fun s => [(3, .v (.int .i64 ((l.length : Int) - 1 - s.1))), (Tryz.f124.ntmps, .v undef), (0, .v (.func (.yield l') #[] #[])), (1, .adr (.sl false (l.map een)))])
  (heap := fun s => s.2) (μ := fun s => l.length - s.1) (s0 := (0, Hx))
 ·exact ⟨by simp, h0⟩
 ·refine ⟨?_, eL⟩
  apply Qi; (exact zG)
  exact Le.of_eq (by simp)
 ·exact kR
 rintro ⟨k, H⟩ ⟨hk, hI⟩
 simp only at hk hI
 refine zC ?_
 refine cr <| s_ Qa <| s_ U0 <| zC ?_
 refine ci ?_ ?_
 ·intro hge
  have hix : l.length - 1 - k < l.length := by omega
  have hcast : (l.length : Int) - 1 - k = ((l.length - 1 - k : Nat) : Int) := by omega
  rw [hcast]
  have hget : l.getD (l.length - 1 - k) default = l[l.length - 1 - k] := by simp [hix]
  have hyc := hY (VX l k) (l.length - 1 - k, l[l.length - 1 - k]) H hI ⟨k + 1, by omega, by rw [Y1, hget]⟩
  refine zC ?_
  refine cr <| s_ Qa <| s_ Qa ?_
  (first | refine s_ Qn ?_ | refine s_ Ql ?_)
  refine s_ Qa ?_
  (first | refine s_ (Xg hix) ?_ | refine s_ (Xg hix2) ?_ | refine s_ YK ?_ | refine s_ ZK ?_)
  (first | refine s_ YP ?_ | refine s_ Q7 ?_)
  refine Ah (Hr := []) hyc (by simp) (hlen _) hK (fun H' hI' => ?_) (fun H' hI' => ?_)
  ·simp only [if_true] at hI'
   refine s_ YE <| zC ?_
   refine ci ?_ ?_
   ·intro h; exact absurd trivial h
   intro _
   refine zC ?_
   refine cr <| s_ Qa <| s_ Y9 <| s_ Qb <| zC ?_
   refine ⟨(k + 1, H'), ⟨by simp only; omega, ?_⟩, (by simp only []; omega), ⟨?_, eL⟩, by rw [List.append_nil]; exact kR⟩
   ·simp only
    rw [Y1, hget]; exact hI'
   ·apply Qi; (exact zG)
    exact Le.of_eq (by congr 2; simp only; omega)
  ·simp only [Bool.false_eq_true, if_false] at hI'
   refine s_ YE <| zC ?_
   refine ci ?_ ?_
   ·intro _
    refine zC ?_
    apply Yc
    simp only [Yt, YV, Jw]
    rw [List.append_nil]
    exact Ey ⟨k + 1, by omega, by rw [Y1, hget]⟩ hI'
   ·intro h; exact absurd (fun h => h) h
 ·intro hge
  have hk2 : k = l.length := by omega
  subst hk2
  refine zC ?_
  exact VF rfl hI
theorem Cu (f : Bool) (xs : List T) : FnP Tryz.prog 90 [.sl f xs] (fun r => r = .clo 124 [] [.adr (.sl f xs)]) := by
 refine fe Tryz.func90 fun S0 w0 => ?_
 show Sim _ _ [(0, T.sl f xs)] _ _
 refine zC ?_
 apply cr
 refine LM fun b1 _ => ?_
 refine s_ Qb <| zC ?_
 refine cr <| s_ Uf <| s_ Qb <| zC ?_
 refine Y6 (G := [_]) (H1 := []) [(2, .clo 124 [] [.adr (.sl f xs)])] (by simp; rfl) ⟨?_, trivial⟩ ?_
 ·refine (show Env.get _ _ = _ from gZ) ▸ Qu.clo Qg.nil (Qg.cons (Qu.ptr List.mem_cons_self (.inl rfl) ?_ (by simp [T.cells]) (by simp [T.cells])) Qg.nil)
  exact Qg.le (LeL.refl _)
 ·refine zE ?_
  exact Le.refl _
theorem R3 {l : List En} {k : Nat} (hk : k ≤ l.length) {p : Nat × En} (h : p ∈ VX l k) : p.1 < l.length := by
 obtain ⟨j, hj, rfl⟩ := List.mem_map.1 h
 have := List.mem_range.1 hj
 simp only; omega
theorem DJ {l : List En} {k : Nat} (hk : k ≤ l.length) {ini : List (Nat × En)} {last : Nat × En} (h : ini ++ [last] = VX l k) (hz : ∀ p ∈ ini, p.2.conf = 0) (hl : last.2.conf ≠ 0) : lc l l.length = some (last.1, last.2.conf) := by
 cases k with
 | zero => simp [VX] at h
 | succ k =>
  rw [Y1] at h
  obtain ⟨h1, h2⟩ := List.append_inj' h rfl
  have h3 : last = (l.length - 1 - k, l.getD (l.length - 1 - k) default) := by simpa using h2
  rw [LA l (l.length - k) k (by omega) (by rw [← h1]; exact hz)]
  have e : l.length - k = (l.length - 1 - k) + 1 := by omega
  rw [e, lc]
  rw [h3] at hl
  simp only at hl
  rw [if_pos hl, h3]
theorem EL (n : Nd) (hl : n.log.length ≤ 1000000000) (hb1 : -1000000000000 ≤ n.base) (hb2 : n.base ≤ 1000000000000) : FnP Tryz.prog 64 [.adr (nd n)] (fun r => r = .tup [ei (QM n).1, ei (QM n).2]) := by
 have cbk := Cu false (n.log.map een)
 refine fe Tryz.func64 fun S0 w0 => ?_
 show Sim _ _ [(0, T.adr (.agg (Qt n (.sl false (n.log.map een)))))] _ _
 refine zC ?_
 apply cr
 refine LM fun b1 _ => ?_
 refine XX fun b2 _ => ?_
 refine XX fun b3 _ => ?_
 refine zC ?_
 refine cr <| s_ Ql <| s_ Qf ?_
 (first | refine s_ Qr ?_ | refine s_ Qd ?_)
 (first | refine s_ Qn ?_ | refine s_ Ql ?_)
 refine s_ (QK (cbk)) <| zC ?_
 refine Ws (Ct n.log (by omega)) (by ((repeat (apply eS; rfl)); exact eZ)) (by rfl) rfl (fun (pre : List (Nat × En)) (H : Qc) => (∀ p ∈ pre, p.2.conf = 0) ∧ H = [(b3, ⟨3, [ei 0], 1⟩), (b2, ⟨3, [ei 0], 1⟩), (b1, ⟨147, [.adr (.agg (Qt n (.sl false (n.log.map een))))], 1⟩)])
  (fun (pre : List (Nat × En)) (H : Qc) => ∃ ini last, pre = ini ++ [last] ∧ (∀ p ∈ ini, p.2.conf = 0) ∧ last.2.conf ≠ 0 ∧ H = [(b3, ⟨3, [ei last.2.conf], 1⟩), (b2, ⟨3, [ei (n.base + last.1 + 1)], 1⟩), (b1, ⟨147, [.adr (.agg (Qt n (.sl false (n.log.map een))))], 1⟩)])
  .ret .ret (.inl ⟨rfl, rfl⟩) (fun _ => rfl) (by rfl) ⟨by simp, rfl⟩ ?_ ?_ ?_
 ·rintro pre x H1 ⟨hz, rfl⟩ ⟨k, hk, hsp⟩ l' S1 w1
  have hx1 : x.1 < n.log.length := R3 hk (by rw [← hsp]; simp)
  simp only [Vq]
  refine zC ?_
  refine cr <| s_ Qb <| zC ?_
  apply cr
  refine XX fun b5 _ => ?_
  refine Qw ?_
  refine zC ?_
  refine ⟨rfl, fun S2 w2 mk => ?_⟩
  refine zC ?_
  refine cr <| s_ Qd <| s_ Ql <| s_ XR <| zC ?_
  refine ci ?_ ?_
  ·intro hne
   refine zC ?_
   refine ca [0, 1, 2, 3, 4, 5, 6, 7, 8, 9, 10] [9, 10] <| QF ?_
   refine a_ (fun _ => Qf) ?_
   (first | refine a_ (fun _ => Qr) ?_ | refine a_ (fun _ => Qd) ?_)
   (first | refine a_ (fun _ => Qn) ?_ | refine QF ?_)
   refine a_ (fun _ => Qa) <| a_ (fun _ => Q0) <| a_ (fun _ => Q0) <| a_ (fun _ => Qd) <| QF ?_
   refine XH ?_
   refine XH ?_
   apply an
   refine zC ?_
   refine zC ?_
   apply Yc
   simp only [Yt, YV]
   exact ⟨_, kS kR, .inr ⟨rfl, pre, x, rfl, hz, hne, rfl⟩⟩
  ·intro he
   refine zC ?_
   exact ⟨_, kS kR, .inl ⟨rfl, by intro p hp; rcases List.mem_append.1 hp with h | h; exact hz p h; rw [List.mem_singleton.1 h]; simpa using he, rfl⟩⟩
 ·rintro xs H' rfl ⟨hz, rfl⟩
  have hlc : lc n.log n.log.length = none := by rw [LA n.log 0 n.log.length (by omega) hz]; rfl
  refine zC ?_
  refine zC ?_
  refine ca [0, 1, 2, 3, 4, 5, 6, 7, 8, 9] [8, 9] <| QF ?_
  refine a_ (fun _ => Qf) ?_
  (first | refine a_ (fun _ => Qr) ?_ | refine a_ (fun _ => Qd) ?_)
  (first | refine a_ (fun _ => Qn) ?_ | refine QF ?_)
  refine QF ?_
  refine a_ (fun _ => Qf) ?_
  (first | refine a_ (fun _ => Qr) ?_ | refine a_ (fun _ => Qd) ?_)
  (first | refine a_ (fun _ => Qn) ?_ | refine QF ?_)
  refine XH ?_
  refine XH ?_
  apply an
  refine zC ?_
  refine zC ?_
  refine zE ?_
  simp only [QM, hlc]; exact Le.refl _
 ·rintro pre H' ⟨k, hk, rfl⟩ ⟨ini, last, h1, hz, hne, rfl⟩
  have hlc := DJ hk h1.symm hz hne
  simp only [Yt, YV]
  refine rt ?_
  simp only [QM, hlc]; exact Le.refl _
def Wh (x : Int) : Int := ((List.range 5).filter x.toNat.testBit).length
def isF (conf id : Int) : Bool := conf.toNat.testBit id.toNat
def U3 (a b : Int) : Int := (a.toNat &&& b.toNat : Nat)
def UV (conf some : Int) : Bool := decide (Wh conf < 2 * Wh (U3 conf some))
def XC (id conf : Int) : Nd := ⟨id, 0, -1, 0, 0, conf, [], [], 0, 0, 0, 0, .all 0, .all 0⟩
def Yi (n : Nd) (i : Int) : Int := if n.base + 1 ≤ i ∧ i < n.base + 1 + n.log.length then (n.log.getD (i - n.base - 1).toNat default).term else n.baseTerm
def QW (n : Nd) : Int := n.base + n.log.length
theorem EG {x : Int} (h0 : 0 ≤ x) (h1 : x ≤ 31) : ∃ i : Fin 32, x = (i.val : Int) := ⟨⟨x.toNat, by omega⟩, by simp only; omega⟩
theorem Zc {K : Ctx} {t : Env} {b m : Nat} {e : TypeId} {cs : List T} {H1 : Qc} {Ψ : Exit → Env → Qc → Prop} {c : Code} (k : Nat) (hl : 0 < cs.length) (h : Sim K c ((k, .adr (.agg cs)) :: t) H1 Ψ) (hg : t.get k = .v (.pointer (some ⟨b, 0, none⟩)) := by rfl) : Sim K c t ((b, ⟨e, cs, m⟩) :: H1) Ψ := by
 have hcs : (T.agg cs).cells = cs := by simp [T.cells]
 refine Y6 (G := [_]) (H1 := H1) [(k, .adr (.agg cs))] (by simp; rfl) ⟨?_, trivial⟩ h
 rw [hg]
 refine Qu.ptr List.mem_cons_self (.inr ⟨_, rfl⟩) ?_ (by rwa [hcs]) (by rw [hcs]; exact Nat.le_refl _)
 rw [hcs]
 exact Qg.le (by rw [List.take_length]; exact LeL.refl _)
theorem V2 {p : Int → Prop} (h : ∀ i : Fin 32, p (i.val : Int)) {x : Int} (h0 : 0 ≤ x) (h1 : x ≤ 31) : p x := by
 obtain ⟨i, rfl⟩ := EG h0 h1; exact h i
theorem Jf {x : Int} (h0 : 0 ≤ x) (h1 : x ≤ 31) : IntKind.u64.wrap x = x := V2 (p := fun x => IntKind.u64.wrap x = x) (by decide) h0 h1
theorem IY {x : Int} (h0 : 0 ≤ x) (h1 : x ≤ 31) : 0 ≤ Wh x ∧ Wh x ≤ 5 := V2 (p := fun x => 0 ≤ Wh x ∧ Wh x ≤ 5) (by decide) h0 h1
theorem BC {x y : Int} (h0 : 0 ≤ x) (h1 : x ≤ 31) (h2 : 0 ≤ y) (h3 : y ≤ 31) : V0 .i64 x y = U3 x y ∧ 0 ≤ U3 x y ∧ U3 x y ≤ 31 :=
 V2 (p := fun x => V0 .i64 x y = U3 x y ∧ 0 ≤ U3 x y ∧ U3 x y ≤ 31) (fun i => V2 (p := fun y => V0 .i64 i y = U3 i y ∧ 0 ≤ U3 i y ∧ U3 i y ≤ 31) (by revert i; decide) h2 h3) h0 h1
theorem Aa {x y : Int} (h0 : 0 ≤ x) (h1 : x ≤ 31) (h2 : 0 ≤ y) (h3 : y < 5) : decide (V0 .i64 (VZ .i64 x y) 1 = 1) = isF x y :=
 V2 (p := fun x => decide (V0 .i64 (VZ .i64 x y) 1 = 1) = isF x y) (fun i => V2 (p := fun y => decide (V0 .i64 (VZ .i64 i y) 1 = 1) = isF i y) (by revert i; decide) h2 (by omega)) h0 h1
theorem Gr (x : Int) (h0 : 0 ≤ x) (h1 : x ≤ 31) : FnP Tryz.prog 150 [.v (.int .u64 x)] (fun r => r = ei (Wh x)) := by
 refine fe Tryz.func150 fun S0 w0 => ?_
 show Sim _ _ [(0, T.v (.int .u64 x))] _ _
 refine zC ?_
 refine cr <| s_ Qb <| zC ?_
 refine cr <| s_ Qa <| s_ Zt <| s_ JH <| s_ Qa <| s_ JH <| s_ Vu <| s_ Qb <| zC ?_
 refine cr <| s_ Qa <| s_ Zt <| s_ JH <| s_ Qa <| s_ JH <| s_ Vu <| s_ Qb <| zC ?_
 refine cr <| s_ Qa <| s_ Zt <| s_ Qa <| s_ Vu <| s_ JH <| s_ Qb <| zC ?_
 refine cr <| s_ Qa <| s_ Qa <| s_ Zt <| s_ Vu <| s_ Qb <| zC ?_
 refine cr <| s_ Qa <| s_ Qa <| s_ Zt <| s_ Vu <| s_ Qb <| zC ?_
 refine cr <| s_ Qa <| s_ Qa <| s_ Zt <| s_ Vu <| s_ Qb <| zC ?_
 refine cr <| s_ Qa <| s_ Ya <| s_ JH <| s_ Qb <| zC ?_
 refine zE ?_
 obtain ⟨i, rfl⟩ := EG h0 h1
 refine Le.of_eq (congrArg (fun z => T.v (.int .i64 z)) ?_)
 revert i; decide
theorem Ej (x : Int) (h0 : 0 ≤ x) (h1 : x ≤ 31) : FnP Tryz.prog 109 [.v (.int .u64 x)] (fun r => r = ei (Wh x)) := by
 have h64 := Gr x h0 h1
 refine fe Tryz.func109 fun S0 w0 => ?_
 show Sim _ _ [(0, T.v (.int .u64 x))] _ _
 refine zC ?_
 refine cr <| s_ Qb <| zC ?_
 refine ci (p := False) (fun h => h.elim) (fun _ => ?_) (by rfl)
 refine zC ?_
 refine cr <| s_ Qa <| s_ (QK (h64)) <| s_ Qb <| zC ?_
 refine zE ?_
 exact Le.refl _
def big : Int := 1000000000000
theorem Bl (id conf : Int) (h0 : 0 ≤ id) (h1 : id < 5) (h2 : 0 ≤ conf) (h3 : conf ≤ 31) : FnP Tryz.prog 66 [ei id, ei conf] (fun r => r = nd (XC id conf)) := by
 refine fe Tryz.func66 fun S0 w0 => ?_
 show Sim _ _ [(0, ei id), (1, ei conf)] _ _
 have ht : id.tmod 5 = id := Int.tmod_eq_of_lt h0 h1
 have ht2 : (id.tmod 5 + 5).tmod 5 = id := by rw [ht, Int.tmod_eq_emod_of_nonneg (by omega)]; omega
 have hc : V0 .i64 conf 31 = conf := V2 (p := fun x => V0 .i64 x 31 = x) (by decide) h2 h3
 refine zC ?_
 apply cr
 refine XX fun b4 _ => ?_
 refine zC ?_
 refine cr <| s_ Qa <| s_ Gl <| s_ Q0 <| s_ Gl <| s_ Qa <| s_ JH <| s_ (Zv 22 [_, _, _, _, _, _, _, _, _, _, _, _, _, _, _, _, _, _, _, _, _, _]) <| Qw ?_
 refine zC ?_
 refine zE ?_
 simp only [ht2, hc]
 show Le (.agg _) (.agg (Qt _ _))
 exact zL
theorem CU (conf id : Int) (h0 : 0 ≤ id) (h1 : id < 5) (h2 : 0 ≤ conf) (h3 : conf ≤ 31) : FnP Tryz.prog 107 [ei conf, ei id] (fun r => r = eB (isF conf id)) := by
 refine fe Tryz.func107 fun S0 w0 => ?_
 show Sim _ _ [(0, ei conf), (1, ei id)] _ _
 have hw := Jf h0 (by omega)
 refine zC ?_
 refine cr <| s_ Qb <| zC ?_
 refine cr <| s_ Qa <| s_ Qa <| s_ Ya <| s_ Zt <| s_ JH <| s_ XB <| s_ Qb <| zC ?_
 refine zE ?_
 rw [Jf h0 (by omega), Aa h2 h3 h0 h1]
 exact Le.refl _
theorem Lw (conf some : Int) (h0 : 0 ≤ some) (h1 : some ≤ 31) (h2 : 0 ≤ conf) (h3 : conf ≤ 31) : FnP Tryz.prog 146 [ei conf, ei some] (fun r => r = eB (UV conf some)) := by
 have hb := BC h2 h3 h0 h1
 have o1 := Ej (U3 conf some) hb.2.1 hb.2.2
 have o2 := Ej conf h2 h3
 have l1 := IY hb.2.1 hb.2.2
 have l2 : Wh (IntKind.u64.wrap (V0 .i64 conf some)) = Wh (U3 conf some) := by rw [hb.1, Jf hb.2.1 hb.2.2]
 have w1 := Jf hb.2.1 hb.2.2
 have w2 := Jf h2 h3
 rw [← w1, ← hb.1, l2] at o1
 rw [← w2] at o2
 refine fe Tryz.func146 fun S0 w0 => ?_
 show Sim _ _ [(0, ei conf), (1, ei some)] _ _
 refine zC ?_
 refine cr <| s_ Qb <| zC ?_
 refine cr <| s_ Qa <| s_ Qa <| s_ JH <| s_ Ya <| s_ (QK (o1)) <| s_ Bb <| s_ Qa <| s_ Ya <| s_ (QK (o2)) <| s_ X0 <| s_ Qb <| zC ?_
 refine zE ?_
 rw [w2]
 exact Le.refl _
theorem U8 (n : Nd) (i : Int) (hl : n.log.length ≤ 1000000000) (hb1 : -big ≤ n.base) (hb2 : n.base ≤ big) (hi1 : -big ≤ i) (hi2 : i ≤ big) : FnP Tryz.prog 110 [.adr (nd n), ei i] (fun r => r = ei (Yi n i)) := by
 refine fe Tryz.func110 fun S0 w0 => ?_
 show Sim _ _ [(0, T.adr (.agg (Qt n (.sl false (n.log.map een))))), (1, ei i)] _ _
 simp only [big] at hb1 hb2 hi1 hi2
 refine zC ?_
 refine cr <| s_ Qb <| zC ?_
 refine cr <| s_ Qa <| s_ Qa <| s_ Qf ?_
 (first | refine s_ Qr ?_ | refine s_ Qd ?_)
 (first | refine s_ Qn ?_ | refine s_ Ql ?_)
 refine s_ Y9 <| s_ Y9 <| s_ Qb <| zC ?_
 refine cr <| s_ Qa <| s_ U0 <| s_ Qa <| gT (fun hg => Qa) ?_
 refine gT (fun hg => Qa) ?_
 refine gT (fun hg => Qf (hx := u_ hg)) ?_
 (first | refine gT (fun hg => Qr (hx := u_ hg)) ?_ | refine gT (fun hg => Qd (hx := u_ hg)) ?_)
 (first | refine gT (fun hg => Qn (hx := u_ hg)) ?_ | refine gT (fun hg => Ql (hx := u_ hg)) ?_)
 (first | refine gT (fun hg => QP (hx := u_ hg)) ?_ | refine gT (fun hg => QO (hx := u_ hg)) ?_)
 refine gT (fun hg => QR (hx := u_ hg) (hy := u_ hg)) ?_
 refine s_ XW <| zC ?_
 refine ci ?_ ?_
 ·intro hc
  simp only [List.length_map] at hc
  refine zC ?_
  refine cr <| s_ Qa <| s_ Qf ?_
  (first | refine s_ Qr ?_ | refine s_ Qd ?_)
  (first | refine s_ Qn ?_ | refine s_ Ql ?_)
  refine s_ Qa ?_
  (first | refine s_ (Xg hix) ?_ | refine s_ (Xg hix2) ?_ | refine s_ YK ?_ | refine s_ ZK ?_)
  (first | refine s_ Qr ?_ | refine s_ Qd ?_)
  (first | refine s_ Qn ?_ | refine s_ Ql ?_)
  refine s_ Qb <| zC ?_
  refine zE ?_
  rw [Yi, if_pos (by omega)]
  exact Le.refl _
 ·intro hc
  simp only [List.length_map] at hc
  refine zC ?_
  refine cr <| s_ Qa <| s_ Qf ?_
  (first | refine s_ Qr ?_ | refine s_ Qd ?_)
  (first | refine s_ Qn ?_ | refine s_ Ql ?_)
  refine s_ Qb <| zC ?_
  refine zE ?_
  rw [Yi, if_neg (by omega)]
  exact Le.refl _
theorem Z3 (n : Nd) (hl : n.log.length ≤ 1000000000) (hb1 : -100000000000 ≤ n.base) (hb2 : n.base ≤ 100000000000) : FnP Tryz.prog 143 [nd n] (fun r => r = .tup [ei (QW n), ei (Yi n (QW n))]) := by
 have ht := U8 n (QW n) hl (by simp only [big]; omega) (by simp only [big]; omega) (by simp only [big, QW]; omega) (by simp only [big, QW]; omega)
 have hlf : QW n = n.base + ((n.log.map een).length : Nat) := by simp [QW]
 rw [hlf] at ht ⊢
 refine fe Tryz.func143 fun S0 w0 => ?_
 show Sim _ _ [(0, T.agg (Qt n (.sl false (n.log.map een))))] _ _
 refine zC ?_
 apply cr
 refine XN fun b1 _ => ?_
 refine s_ Qb <| s_ Qb <| zC ?_
 refine Zc 1 (by simp [Qt]) ?_
 refine zC ?_
 refine cr <| s_ Qr <| s_ Qn <| s_ Qr <| s_ Qn ?_
 (first | refine s_ QP ?_ | refine s_ QO ?_)
 refine s_ Q0 <| s_ Qb <| zC ?_
 refine cr <| s_ Qa <| s_ Qa <| s_ (QK (ht)) <| s_ Qb <| s_ Qb <| zC ?_
 refine zE ?_
 exact Le.refl _
theorem Vh (n : Nd) (hl : n.log.length ≤ 1000000000) (hb1 : -1000000000000 ≤ n.base) (hb2 : n.base ≤ 1000000000000) : FnP Tryz.prog 32 [nd n] (fun r => r = ei (QM n).2) := by
 have ht := EL n hl hb1 hb2
 refine fe Tryz.func32 fun S0 w0 => ?_
 show Sim _ _ [(0, T.agg (Qt n (.sl false (n.log.map een))))] _ _
 refine zC ?_
 apply cr
 refine XN fun b1 _ => ?_
 refine s_ Qb <| zC ?_
 refine Zc 1 (by simp [Qt]) ?_
 refine zC ?_
 refine cr <| s_ (QK (ht)) <| s_ Qa <| s_ QC <| s_ QC <| s_ Qb <| s_ Qb <| zC ?_
 refine cr <| s_ Qa <| s_ Qb <| zC ?_
 refine zE ?_
 exact Le.refl _
def tE : TypeId := 84
def tM : TypeId := 76
def tW : TypeId := 167
def OE (l : List En) (v : Value) (Hs : Qc) : Prop := OSl tE 3 (l.map een) v Hs
def OM (l : List Ms) (v : Value) (Hs : Qc) : Prop := OSl tM 11 (l.map ms) v Hs
theorem DI (l : List En) : ∀ x ∈ l.map een, x.cells.length = 3 := zk
theorem Br (l : List En) : ∀ x ∈ l.map een, x.solid := ZF _ (fun _ => .inr ⟨_, rfl⟩) _
theorem I2 (l : List Ms) : ∀ x ∈ l.map ms, x.cells.length = 11 := zk
theorem B4 (l : List Ms) : ∀ x ∈ l.map ms, x.solid := ZF _ (fun _ => .inr ⟨_, rfl⟩) _
theorem WS : ∀ (l : List En), ((l.map een).flatMap T.cells).all T.isV = true
 | [] => rfl
 | e :: l => by simp only [List.map_cons, List.flatMap_cons, List.all_append, WS l, Bool.and_true]; rfl
theorem OE.plain {l : List En} {v : Value} {Hs : Qc} (h : OE l v Hs) : ∀ p ∈ Hs, p.2.vals.all T.isV = true := by
 rcases h with ⟨_, _, rfl⟩ | ⟨b, c, _, _, rfl⟩
 ·simp
 ·intro p hp
  rw [List.mem_singleton.1 hp]
  exact WS l
theorem OE.len {l : List En} {v : Value} {Hs : Qc} (h : OE l v Hs) : ∃ p c, v = .slice p (l.map een).length c := OSl.len h
theorem OM.len {l : List Ms} {v : Value} {Hs : Qc} (h : OM l v Hs) : ∃ p c, v = .slice p (l.map ms).length c := OSl.len h
theorem OE.cap {l : List En} {p : Option Addr} {n c : Nat} {Hs : Qc} (h : OE l (.slice p n c) Hs) : n ≤ c := OSl.cap h
theorem OE.lend {l : List En} {v : Value} {Hs G : Qc} (h : OE l v Hs) (hG : ∀ p ∈ Hs, p ∈ G) : Qu G (.v v) (.sl false (l.map een)) := OSl.lend h hG (DI l) (Br l)
theorem OM.lend {l : List Ms} {v : Value} {Hs G : Qc} (h : OM l v Hs) (hG : ∀ p ∈ Hs, p ∈ G) : Qu G (.v v) (mss l) := OSl.lend h hG (I2 l) (B4 l)
theorem Zf (f : Bool) (l : List En) (hl : l.length ≤ 1000000000) : FnH Tryz.prog 72 [.sl f (l.map een)] [] (fun r H => ∃ v, r = .v v ∧ OE l v H) := by
 refine fe Tryz.func72 fun S0 w0 => ?_
 show Sim _ _ [(0, T.sl f (l.map een))] _ _
 refine zC ?_
 refine cr <| s_ Qb <| zC ?_
 refine cr <| s_ Qa ?_
 refine Y0 3 fun p c h1 _ => ?_
 refine s_ Bc <| zC ?_
 refine ci ?_ ?_
 ·intro hp
  have := h1 hp
  have : l = [] := by simpa using this
  subst this
  refine zC ?_
  refine cr <| s_ Qb <| zC ?_
  refine zR ?_
  exact rh kR ⟨_, rfl, Yy⟩ (Le.refl _)
 ·intro hp
  refine zC ?_
  refine cr <| s_ Z0 ?_
  refine Y0 5 fun q c' _ h2 => ?_
  have := h2 rfl
  subst this
  cases l with
  | nil =>
   refine s_ Qa <| s_ (B0 (hxl := Le.slice0 q true)) ?_
   refine Y0 7 fun q c' _ h2 => ?_
   have := h2 rfl
   subst this
   refine s_ Qb <| zC ?_
   refine zR ?_
   exact rh kR ⟨_, rfl, Ug⟩ (Le.refl _)
  | cons e l =>
   refine s_ Qa ?_
   refine Cn (ho := (Ug : OSl tE 3 [] _ [])) (A := []) (B := []) (fun _ h => by cases h) (fun v' Hs' ho => ?_)
   refine s_ Qb <| zC ?_
   refine zR ?_
   exact rh kR ⟨_, rfl, by simpa [OE] using ho⟩ (Le.refl _)
def SlE (G : Qc) (l : List En) (v : Value) : Prop := ∃ p c, v = .slice p l.length c ∧ l.length ≤ c ∧ Qu G (.v v) (.sl false (l.map een))
theorem OE.sle {l : List En} {v : Value} {Hs G : Qc} (h : OE l v Hs) (hG : ∀ p ∈ Hs, p ∈ G) : SlE G l v := by
 obtain ⟨p, c, rfl⟩ := h.len
 exact ⟨p, c, by simp, by simpa using h.cap, h.lend hG⟩
theorem SlE.sub {G : Qc} {l : List En} {p : Option Addr} {n c : Nat} (h : SlE G l (.slice p n c)) {lo hi : Nat} (h1 : lo ≤ hi) (h2 : hi ≤ l.length) : SlE G ((l.drop lo).take (hi - lo)) (JB 3 p c lo (hi - lo)) := by
 obtain ⟨p', c', e, hc, hl⟩ := h
 cases e
 have h3 := Qu.sub (P := Tryz.prog) (ty := 41) hl (zk) h1 (by simpa using h2) (by simp) hc
 have hlen : ((l.drop lo).take (hi - lo)).length = hi - lo := by simp; omega
 exact ⟨p.map fun a => if c = lo then a else a.add (lo * 3), c - lo, by rw [hlen]; rfl, by rw [hlen]; omega, by rw [List.map_take, List.map_drop]; exact h3⟩
abbrev AC (P : Program) (f : FuncId) (args : List T) (H : Qc) (d : T) : Prop := FnH P f args H fun r H' => H' = [] ∧ r = d
def wkC (n : Nd) (vl vo : Value) : List T := Qt n (.v vl) ++ [.v vo]
def WkH (b : Nat) (n : Nd) (out : List Ms) (H : Qc) : Prop := ∃ vl vo Hl Ho, OE n.log vl Hl ∧ OM out vo Ho ∧ H = (b, ⟨tW, wkC n vl vo, 23⟩) :: (Hl ++ (Ho ++ []))
def pW (b : Nat) : T := .v (.pointer (some ⟨b, 0, none⟩))
theorem OE.of {l : List En} : ∀ (r : T) (H : Qc), (∃ v, r = .v v ∧ OE l v H) → r.plain = true ∧ ∀ p ∈ H, p.2.vals.all T.isV = true := by
 rintro r H ⟨v, rfl, h⟩
 exact ⟨rfl, h.plain⟩
theorem W0 (n : Nd) (hl : n.log.length ≤ 1000000000) : FnH Tryz.prog 102 [nd n] [] (fun r H => ∃ b, r = pW b ∧ WkH b n [] H) := by
 have hc := Zf false n.log hl
 refine fe Tryz.func102 fun S0 w0 => ?_
 show Sim _ _ [(0, T.agg (Qt n (.sl false (n.log.map een))))] _ _
 refine zC ?_
 apply cr
 refine XN fun b1 _ => ?_
 refine s_ Qb <| zC ?_
 refine cr <| s_ Qd <| s_ Ql ?_
 refine CW (G := []) hc (Qg.le (LeL.refl _)) ⟨_, List.Perm.refl _⟩ OE.of ?_
 rintro r H1 ⟨v, rfl, ho⟩
 obtain ⟨p, c, rfl⟩ := ho.len
 refine QG List.perm_middle ?_
 refine s_ Qd <| Qw ?_
 refine zC ?_
 refine cr <| s_ Q7 <| s_ (Zv 23 [_, _, _, _, _, _, _, _, _, _, _, _, _, _, _, _, _, _, _, _, _, _, _]) ?_
 refine XN fun b9 _ => ?_
 refine s_ Qb <| zC ?_
 refine zR ?_
 exact rh (.keep _ _ _ _ _ (X9.refl _) (.skip _ _ _ kR)) ⟨b9, rfl, _, _, H1, [], ho, Yy, rfl⟩ (Le.refl _)
theorem QS {G : Qc} (n : Nd) {x y : T} (h : Qu G x y) : Qg G (Qt n x) (Qt n y) := by
 unfold Qt
 repeat (first | exact Qg.nil | (refine Qg.cons (Qu.le (Le.refl _)) ?_) | (refine Qg.cons h ?_))
def wkD (n : Nd) (out : List Ms) : List T := Qt n (Zn n.log) ++ [mss out]
theorem Ok {G Hl Ho : Qc} {n : Nd} {out : List Ms} {vl vo : Value} (h1 : OE n.log vl Hl) (h2 : OM out vo Ho) (hl : ∀ p ∈ Hl, p ∈ G) (ho : ∀ p ∈ Ho, p ∈ G) : Qg G (wkC n vl vo) (wkD n out) :=
 Qg.append (QS n (h1.lend hl)) (Qg.cons (h2.lend ho) Qg.nil)
theorem CY {G Hl Ho : Qc} {b : Nat} {n : Nd} {out : List Ms} {vl vo : Value} (h1 : OE n.log vl Hl) (h2 : OM out vo Ho) (hl : ∀ p ∈ Hl, p ∈ G) (ho : ∀ p ∈ Ho, p ∈ G) (hb : (b, (⟨tW, wkC n vl vo, 23⟩ : Blk)) ∈ G) : Qu G (pW b) (.adr (.agg (wkD n out))) :=
 Qu.ptr hb (.inr ⟨_, rfl⟩) (Ok h1 h2 hl ho) (by simp [T.cells, wkD]) (by simp [T.cells, wkD, wkC, Qt])
theorem Lt {G Hl : Qc} {b : Nat} {n : Nd} {vl vo : Value} (h1 : OE n.log vl Hl) (hl : ∀ p ∈ Hl, p ∈ G) (hb : (b, (⟨tW, wkC n vl vo, 23⟩ : Blk)) ∈ G) : Qu G (pW b) (.adr (nd n)) :=
 Qu.ptr hb (.inr ⟨_, rfl⟩) (QS n (h1.lend hl)) (by simp [nd, T.cells, Qt]) (by simp [nd, T.cells, wkC, Qt])
theorem XY {b : Nat} {n : Nd} {out : List Ms} {H : Qc} (hl : n.log.length ≤ 1000000000) (hw : WkH b n out H) : AC Tryz.prog 106 [pW b] H (.tup [nd n, mss out]) := by
 obtain ⟨vl, vo, Hl, Ho, h1, h2, rfl⟩ := hw
 have hc := Zf false n.log hl
 obtain ⟨p, c, rfl⟩ := h1.len
 obtain ⟨q, d, rfl⟩ := h2.len
 refine fe Tryz.func106 fun S0 w0 => ?_
 show Sim _ _ [(0, pW b)] _ _
 refine zC ?_
 apply cr
 refine XX fun b2 _ => ?_
 refine s_ Qb <| zC ?_
 refine cr <| s_ Qa <| s_ Qa <| s_ Qf <| s_ Qd <| s_ Qd <| s_ Ql ?_
 refine R0 hc (Qg.cons (h1.lend (by intro p hp; simp [hp])) Qg.nil) OE.of ?_
 rintro r H1 ⟨v, rfl, ho⟩
 obtain ⟨p', c', rfl⟩ := ho.len
 refine QG (List.perm_middle.trans (.cons _ List.perm_middle)) ?_
 refine s_ Qf <| s_ Qd <| s_ Qd <| Qw ?_
 refine zC ?_
 refine zC ?_
 refine Rf 0 (.adr (.agg (wkD n out))) (CY ho h2 (by intro p hp; simp [hp]) (by intro p hp; simp [hp]) List.mem_cons_self) ?_
 refine zC ?_
 refine ca [0, 1, 2, 3, 4, 5, 6, 7, 8, 9] [8] <| a_ (fun _ => Qa) <| a_ (fun _ => Qf) <| a_ (fun _ => Eg) <| a_ (fun _ => YP) <| a_ (fun _ => Qa) <| a_ (fun _ => Qf) <| a_ (fun _ => Qr) <| a_ (fun _ => Qn) <| XH ?_
 refine a_ (fun _ => Qb) ?_
 apply an
 refine zC ?_
 refine zR ?_
 refine rt ?_
 exact Le.refl _
def X4 (n : Nd) (to : Int) (m : Ms) : Ms := { m with frm := n.id, to := to, term := n.term }
theorem Jv {b : Nat} {n : Nd} {out : List Ms} {H : Qc} (to : Int) (m : Ms) (hb : out.length ≤ 1000) (hw : WkH b n out H) : FnH Tryz.prog 145 [pW b, ei to, ms m] H (fun r H' => r = .tup [] ∧ WkH b n (out ++ [X4 n to m]) H') := by
 obtain ⟨vl, vo, Hl, Ho, h1, h2, rfl⟩ := hw
 obtain ⟨p, c, rfl⟩ := h1.len
 obtain ⟨q, d, rfl⟩ := h2.len
 refine fe Tryz.func145 fun S0 w0 => ?_
 show Sim _ _ [(0, pW b), (1, ei to), (2, T.agg (msC m (Zn m.entries)))] _ _
 refine zC ?_
 apply cr
 refine XN fun b5 _ => ?_
 refine zC ?_
 refine ca [0, 1, 2, 3, 4, 5, 6, 7, 8, 9, 10, 11, 12, 13, 14, 15, 16] [12, 14, 16] <| a_ (fun _ => Qa) <| a_ (fun _ => Qf) <| a_ (fun _ => Qd) <| a_ (fun _ => Qd) <| QF ?_
 refine a_ (fun _ => Qa) <| a_ (fun _ => Qa) <| a_ (fun _ => Qf) <| a_ (fun _ => Qd) <| a_ (fun _ => Qd) <| QF ?_
 refine a_ (fun _ => Qd) <| XH ?_
 refine a_ (fun _ => Qd) <| XH ?_
 refine a_ (fun _ => Qd) <| XH ?_
 apply an
 refine zC ?_
 refine zC ?_
 refine ca [0, 1, 2, 3, 4, 5, 6, 7, 8, 9, 10] [7, 10] <| a_ (fun _ => Qa) <| a_ (fun _ => Qa) <| a_ (fun _ => Qf) <| a_ (fun _ => Qd) <| QF ?_
 refine Yk ?_
 refine a_ (fun _ => Z0) ?_
 refine BH (ho := h2) (A := _ :: _ :: Hl) (B := []) (I2 out) (fun v' Hs' h3 => ⟨zd, ?_⟩)
 refine zD ?_
 obtain ⟨q', d', rfl⟩ := h3.len
 refine a_ (fun _ => Qf) <| a_ (fun _ => Qd) <| XH ?_
 apply an
 refine zC ?_
 exact rhn (.skip _ _ _ kR) ⟨rfl, _, _, Hl, Hs', h1, (by unfold OM; rw [List.map_append]; exact h3), rfl⟩ (Le.refl _)
def Jc (n : Nd) (to : Int) : Ms := X4 n to (if n.next.get to.toNat ≤ n.base then ⟨5, 0, 0, 0, n.base, n.baseTerm, 0, n.baseConf, false, [], n.snap⟩
 else ⟨3, 0, 0, 0, n.next.get to.toNat - 1, Yi n (n.next.get to.toNat - 1), n.commit, 0, false, (n.log.drop (min (n.next.get to.toNat - 1 - n.base) n.log.length).toNat).take 8, []⟩)
theorem five {to : Int} (h0 : 0 ≤ to) (h5 : to < 5) : to = 0 ∨ to = 1 ∨ to = 2 ∨ to = 3 ∨ to = 4 := by omega
theorem Va {n : Nd} {vl vo : Value} {to : Int} (h0 : 0 ≤ to) (h5 : to < 5) : (wkC n vl vo)[0 + 0 + 12 + to.toNat * 1]? = some (ei (n.next.get to.toNat)) := by
 rcases five h0 h5 with rfl | rfl | rfl | rfl | rfl <;> rfl
theorem O4 {b : Nat} {n : Nd} {out : List Ms} {H : Qc} (to : Int) (h0 : 0 ≤ to) (h5 : to < 5) (hl : n.log.length ≤ 1000000000) (hb1 : -100000000000 ≤ n.base) (hb2 : n.base ≤ 100000000000) (hb3 : n.next.get to.toNat ≤ 100000000000) (hb : out.length ≤ 1000) (hw : WkH b n out H) :
  FnH Tryz.prog 105 [pW b, ei to] H (fun r H' => r = .tup [] ∧ WkH b n (out ++ [Jc n to]) H') := by
 have hw' := hw
 obtain ⟨vl, vo, Hl, Ho, h1, h2, rfl⟩ := hw
 obtain ⟨p, c, rfl⟩ := h1.len
 obtain ⟨q, d, rfl⟩ := h2.len
 refine fe Tryz.func105 fun S0 w0 => ?_
 show Sim _ _ [(0, pW b), (1, ei to)] _ _
 refine zC ?_
 refine ca [0, 1, 2, 3, 4, 5, 6, 7, 8, 9, 10, 11, 12] [] <| a_ (fun _ => Qa) <| a_ (fun _ => Qa) <| a_ (fun _ => Qf) <| a_ (fun _ => Qd) <| a_ (fun _ => Qd) <| a_ (fun _ => YQ) <| QF (hd := Va h0 h5) ?_
 refine a_ (fun _ => Qa) <| a_ (fun _ => Qf) <| a_ (fun _ => Qd) <| a_ (fun _ => Qd) <| QF ?_
 refine a_ (fun _ => IX) ?_
 apply an
 refine zC ?_
 refine ci ?_ ?_
 ·intro hc
  refine zC ?_
  refine ca [0, 1, 2, 3, 4, 5, 6, 7, 8, 9, 10, 11, 12, 13, 14, 15, 16, 17, 18, 19, 20, 21, 22, 23] [23] <| a_ (fun _ => Qa) <| a_ (fun _ => Qa) <| a_ (fun _ => Qa) <| a_ (fun _ => Qf) <| a_ (fun _ => Qd) <| a_ (fun _ => Qd) <| QF ?_
  refine a_ (fun _ => Qa) <| a_ (fun _ => Qf) <| a_ (fun _ => Qd) <| a_ (fun _ => Qd) <| QF ?_
  refine a_ (fun _ => Qa) <| a_ (fun _ => Qf) <| a_ (fun _ => Qd) <| a_ (fun _ => Qd) <| QF ?_
  refine a_ (fun _ => Qa) <| a_ (fun _ => Qf) <| a_ (fun _ => Qd) <| a_ (fun _ => Qd) <| QF ?_
  refine a_ (fun _ => Zv 11 [_, _, _, _, _, _, _, _, _, _, _]) ?_
  refine Im (FnH.of_le ?_ (Jv to ⟨5, 0, 0, 0, n.base, n.baseTerm, 0, n.baseConf, false, [], n.snap⟩ hb hw')) (fun r H' ⟨hr, h3⟩ => ⟨zd, ?_⟩)
  ·exact zM
  ·refine zD ?_
   subst hr
   apply an
   refine zC ?_
   refine zR ?_
   refine rh kR ⟨rfl, ?_⟩ (Le.refl _)
   rw [Jc, if_pos hc]
   exact h3
 ·intro hc
  have ht := U8 n (n.next.get to.toNat - 1) hl (by simp only [big]; omega) (by simp only [big]; omega) (by simp only [big]; omega) (by simp only [big]; omega)
  refine zC ?_
  refine cr <| s_ Qa <| s_ Qa <| s_ Qf <| s_ Qd <| s_ Qd <| s_ YQ <| s_ (Ql (hd := Va h0 h5)) <| s_ Y9 <| s_ Qb <| zC ?_
  refine zC ?_
  refine ca [0, 1, 2, 3, 4, 5, 6, 7, 8, 9, 10, 11, 12, 13, 14, 15, 16, 17, 18, 19, 20] [] <| a_ (fun _ => Qa) <| a_ (fun _ => Qf) <| a_ (fun _ => Qd) <| a_ (fun _ => Qd) <| QF ?_
  refine a_ (fun _ => Qa) <| a_ (fun _ => Qa) <| a_ (fun _ => Qf) <| a_ (fun _ => Qd) <| a_ (fun _ => Qd) <| QF ?_
  refine a_ (fun _ => Y9) <| a_ (fun _ => Qa) <| a_ (fun _ => Qf) <| a_ (fun _ => Qd) <| a_ (fun _ => Qd) <| QF ?_
  (first | refine a_ (fun _ => QP) ?_ | refine a_ (fun _ => QO) ?_)
  refine a_ (fun _ => Wg) ?_
  obtain ⟨m, hm⟩ : ∃ m : Nat, (m : Int) = min (n.next.get to.toNat - 1 - n.base) ((n.log.map een).length : Nat) := ⟨(min (n.next.get to.toNat - 1 - n.base) ((n.log.map een).length : Nat)).toNat, by omega⟩
  have hml : m ≤ n.log.length := by simp only [List.length_map] at hm; omega
  have hs5 := (h1.sle (G := (b, ⟨tW, wkC n (.slice p (n.log.map een).length c) (.slice q (out.map ms).length d), 23⟩) :: (Hl ++ (Ho ++ []))) (by intro p hp; simp [hp]))
  have hs5' := SlE.sub hs5 (lo := m) (hi := n.log.length) hml (Nat.le_refl _)
  rw [List.take_of_length_le (by simp)] at hs5'
  obtain ⟨p5, c5, e5, hc5, hl5⟩ := hs5'
  rw [← hm]
  refine a_ (fun _ => O2 (i := (m : Int)) (p := p) (n := (n.log.map een).length) (c := c) h1.cap (by simp only [List.length_map, Int.toNat_natCast]; exact e5)) <| a_ (fun _ => Qb) ?_
  apply an
  refine zC ?_
  refine zC ?_
  refine zC ?_
  refine ca [0, 1, 2, 3, 4, 5, 6, 7, 8, 9, 10, 11, 12, 14, 15, 16, 17, 18, 13, 19, 20] [13, 20] <| a_ (fun _ => Qa) <| a_ (fun _ => Qa) <| a_ (fun _ => Qa) <| a_ (fun _ => Qa) <| a_ (fun _ => Qf) <| a_ (fun _ => Qd) <| a_ (fun _ => Qa) ?_
  refine BI (G := (b, _) :: (Hl ++ (Ho ++ []))) ht (Qg.cons (Lt h1 (by intro p hp; simp [hp]) List.mem_cons_self) (Qg.cons (Qu.le (Le.refl _)) Qg.nil)) ⟨[], UT⟩ ?_
  refine a_ (fun _ => Qa) <| a_ (fun _ => Qa) ?_
  (first | refine a_ (fun _ => QP) ?_ | refine a_ (fun _ => QO) ?_)
  refine a_ (fun _ => Wg) ?_
  obtain ⟨k, hk⟩ : ∃ k : Nat, (k : Int) = min (((n.log.drop m).length : Nat) : Int) 8 := ⟨min (n.log.drop m).length 8, by omega⟩
  have hs6 := SlE.sub ⟨p5, c5, rfl, hc5, e5 ▸ hl5⟩ (lo := 0) (hi := k) (Nat.zero_le _) (by omega)
  simp only [List.drop_zero, Nat.sub_zero] at hs6
  obtain ⟨p6, c6, e6, hc6, hl6⟩ := hs6
  rw [← hk]
  refine a_ (fun _ => Ef (j := (k : Int)) (p := p5) (n := (n.log.drop m).length) (c := c5) hc5 (by simp only [Int.toNat_natCast]; exact e6)) <| a_ (fun _ => Qa) <| a_ (fun _ => Qf) <| a_ (fun _ => Qd) <| a_ (fun _ => Qd) <| QF ?_
  refine Az (Zf false ((n.log.drop m).take k) (by simp; omega)) (Qg.cons (e6 ▸ hl6) Qg.nil) ⟨[], UT⟩ OE.of ?_
  rintro r H1 ⟨v, rfl, ho⟩
  obtain ⟨p7, c7, rfl⟩ := ho.len
  refine ⟨zd, ?_⟩
  refine zD ?_
  refine a_ (fun _ => Zv 11 [_, _, _, _, _, _, _, _, _, _, _]) ?_
  refine Im (FnH.lend (G := H1) ?_ (Jv to ⟨3, 0, 0, 0, n.next.get to.toNat - 1, Yi n (n.next.get to.toNat - 1), n.commit, 0, false, (n.log.drop m).take k, []⟩ hb hw')) (fun r H' ⟨hr, h3⟩ => ⟨zd, ?_⟩)
  ·refine Qg.cons (Qu.le (Le.refl _)) (Qg.cons (Qu.le (Le.refl _)) (Qg.cons (Qu.agg ?_) Qg.nil))
   repeat (first | exact Qg.nil | (refine Qg.cons (Qu.le (Le.refl _)) ?_) | (refine Qg.cons (ho.lend fun _ h => h) ?_))
  ·refine zD ?_
   subst hr
   apply an
   refine zC ?_
   refine rhn kR ⟨rfl, ?_⟩ (Le.refl _)
   have e1 : (min (n.next.get to.toNat - 1 - n.base) (n.log.length : Int)).toNat = m := by simp only [List.length_map] at hm; omega
   have e2 : (n.log.drop m).take 8 = (n.log.drop m).take k := by
    rw [List.take_eq_take_iff]; omega
   rw [Jc, if_neg hc, e1, e2]
   exact h3
end Go.Proofs.YtjbokbikkcfjjaaGreat
