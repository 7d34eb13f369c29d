/-
  Bytes: slices.Clone, Grow, Concat; a number's, a text's bytes behind others.
-/
import Derived.Test.YtjbokbikkcfjjaaGreatAal
set_option maxRecDepth 16000
set_option maxHeartbeats 8000000
set_option linter.all false
namespace Go.Proofs.YtjbokbikkcfjjaaGreat
open Go.Cap
attribute [local irreducible] POp Qf Bv EOp Sim FnH T.gp
def tB : TypeId := 5
def bl (l : List UInt8) : T := .sl false (l.map eb)
def OB (l : List UInt8) (v : Value) (Hs : Qb) : Prop := OSl tB 1 (l.map eb) v Hs
theorem eb1 (l : List UInt8) : ∀ x ∈ l.map eb, x.cells.length = 1 := zk
theorem Bi (l : List UInt8) : ∀ x ∈ l.map eb, x.solid := Zt _ (fun _ => .inl rfl) _
theorem OB.len {l : List UInt8} {v : Value} {Hs : Qb} (h : OB l v Hs) : ∃ p c, v = .slice p (l.map eb).length c := OSl.len h
theorem OB.lend {l : List UInt8} {v : Value} {Hs G : Qb} (h : OB l v Hs) (hG : ∀ p ∈ Hs, p ∈ G) : Qz G (.v v) (bl l) := OSl.lend h hG (eb1 l) (Bi l)
theorem WB (f : Bool) (l : List UInt8) (hl : l.length ≤ 1000000000000) : FnH Tryz.prog 127 [.sl f (l.map eb)] [] (fun r H => ∃ v, r = .v v ∧ OB l v H) := by
 refine fe Tryz.func127 fun S0 w0 => ?_
 show Sim _ _ [(0, T.sl f (l.map eb))] _ _
 refine zC ?_
 refine cr <| s_ Qc <| zC ?_
 refine cr <| s_ Qa ?_
 refine ZB 3 fun p c h1 _ => ?_
 refine s_ CY <| zC ?_
 refine ci ?_ ?_
 ·intro hp
  have := h1 hp
  have : l = [] := by simpa using this
  subst this
  refine zC ?_
  refine cr <| s_ Qc <| zC ?_
  refine zR ?_
  exact rh kR ⟨_, rfl, Ze⟩ (Le.refl _)
 ·intro hp
  refine zC ?_
  refine cr <| s_ J9 ?_
  refine ZB 5 fun q c' _ h2 => ?_
  have := h2 rfl
  subst this
  refine s_ Qa ?_
  refine Mp (ho := (Ua : OSl tB 1 [] _ [])) (A := []) (B := []) (fun _ h => by cases h) (fun v' Hs' ho => ?_)
  refine s_ Qc <| zC ?_
  refine zR ?_
  exact rh kR ⟨_, rfl, by simpa [OB] using ho⟩ (Le.refl _)
theorem YZ (f : Bool) (l : List UInt8) (hl : l.length ≤ 1000000000000) : FnP Tryz.prog 127 [.sl f (l.map eb)] (fun r => r = bl l) :=
 FnH.give (WB f l hl) (by rintro r H ⟨v, rfl, ho⟩; exact ho.lend fun _ h => h)
theorem OJ (n : Nat) (hn : n ≤ 10000000000000) : FnH Tryz.prog 178 [.v (.slice none 0 0), ei n] [] (fun r H => ∃ v, r = .v v ∧ OB [] v H) := by
 refine fe Tryz.func178 fun S0 w0 => ?_
 show Sim _ _ [(0, T.v (.slice none 0 0)), (1, ei n)] _ _
 refine zC ?_
 refine cr <| s_ Qc <| zC ?_
 refine cr <| s_ Qa <| s_ QX <| zC ?_
 refine ci ?_ ?_
 ·intro h; exact absurd h (by omega)
 intro _
 refine zC ?_
 refine cr <| s_ Qa <| s_ Qa <| s_ IR <| s_ Qa ?_
 (first | refine s_ QR ?_ | refine s_ QP ?_)
 refine s_ ZP <| s_ ZP <| s_ Qc <| zC ?_
 refine cr <| s_ Qa <| s_ XZ <| zC ?_
 have e0 : (n : Int) - (((0 : Nat) : Int) - ((0 : Nat) : Int)) = n := by omega
 rw [e0]
 refine ci ?_ ?_
 ·intro h0
  have h0' : 0 < n := by omega
  refine zC ?_
  refine cr <| s_ Qa <| s_ Qa <| s_ IR <| s_ (DJ (p := none) (n := 0) (c := 0) (v := .slice none 0 0) (Nat.le_refl _) rfl) <| s_ Qa ?_
  refine Bl (n := n) (fun b c _ hc => ?_)
  refine s_ Qa ?_
  (first | refine s_ QR ?_ | refine s_ QP ?_)
  refine s_ (DJ (p := some ⟨b, 0, none⟩) (n := n) (c := c) (j := ((0 : Nat) : Int)) (v := .slice (some ⟨b, 0, none⟩) 0 c) hc (by simp [Jv, Addr.add])) <| s_ Qc <| zC ?_
  refine zC ?_
  refine cr <| s_ Qa <| s_ Qc <| zC ?_
  refine zR ?_
  exact rh kR ⟨_, rfl, .inr ⟨b, c, rfl, by simp, rfl⟩⟩ (Le.refl _)
 ·intro h0
  refine zC ?_
  refine cr <| s_ Qa <| s_ Qc <| zC ?_
  refine zR ?_
  exact rh kR ⟨_, rfl, Ze⟩ (Le.refl _)
def Jy (rows : List (Bool × List UInt8)) : List UInt8 := rows.flatMap (·.2)
def O1 (p : Bool × List UInt8) : T := .sl p.1 (p.2.map eb)
theorem WD {rows : List (Bool × List UInt8)} {k : Nat} (hk : k < rows.length) : Jy (rows.take (k + 1)) = Jy (rows.take k) ++ (rows[k]'hk).2 := by
 unfold Jy
 rw [List.take_succ_eq_append_getElem hk, List.flatMap_append]
 simp
theorem Eb {rows : List (Bool × List UInt8)} (k : Nat) : (Jy (rows.take k)).length ≤ (Jy rows).length := by
 conv => rhs; rw [← List.take_append_drop k rows]
 unfold Jy
 rw [List.flatMap_append, List.length_append]
 omega
theorem Wy (f : Bool) (rows : List (Bool × List UInt8)) (hn : (Jy rows).length ≤ 100000000000) (hr : rows.length ≤ 1000000) : FnP Tryz.prog 174 [.sl f (rows.map O1)] (fun r => r = bl (Jy rows)) := by
 refine FnH.give (Φ := fun r H => ∃ v, r = .v v ∧ OB (Jy rows) v H) ?_ (by rintro r H ⟨v, rfl, ho⟩; exact ho.lend fun _ h => h)
 refine fe Tryz.func174 fun S0 w0 => ?_
 show Sim _ _ [(0, T.sl f (rows.map O1))] _ _
 refine zC ?_
 refine cr <| s_ Qc <| zC ?_
 refine cr <| s_ Qc <| zC ?_
 refine cr <| s_ Qa ?_
 (first | refine s_ QR ?_ | refine s_ QP ?_)
 refine s_ Qa <| zC ?_
 apply Qt (σ := Nat) (ok := fun k => k ≤ rows.length) (env := fun k => [(11, ei k), (3, ei ((Jy (rows.take k)).length : Nat)), (10, ei (rows.length : Nat)), (9, .sl f (rows.map O1)), (0, .sl f (rows.map O1))]) (heap := fun _ => []) (μ := fun k => rows.length - k) (s0 := 0)
 ·exact Nat.zero_le _
 ·refine ⟨?_, ?_, ?_, eL⟩
  ·apply Qk; (exact zG)
   exact Le.refl _
  ·apply Qk; (exact zG)
   exact Le.refl _
  ·apply Qk; (exact zG)
   exact Le.of_eq (by simp [ei])
 ·exact kR
 intro k hk
 refine zC ?_
 refine cr <| s_ QX <| zC ?_
 refine ci ?_ ?_
 ·intro hlt
  have hlt' : k < rows.length := by omega
  have hnx := WD hlt'
  have hle := Eb (rows := rows) (k + 1)
  rw [hnx, List.length_append] at hle
  refine zC ?_
  apply cr
  (first | refine s_ (Xu hix) ?_ | refine s_ (Xu hix2) ?_ | refine s_ Zz ?_ | refine s_ Jw ?_)
  (first | refine s_ Qm ?_ | refine s_ Qn ?_)
  refine s_ Qc <| zC ?_
  refine cr <| s_ Qa <| s_ Qa ?_
  (first | refine s_ QR ?_ | refine s_ QP ?_)
  refine s_ Q5 <| s_ Qc <| zC ?_
  refine cr <| s_ Qa <| s_ QX <| zC ?_
  refine ci ?_ ?_
  ·intro h; exact absurd h (by simp only [List.length_map]; omega)
  intro _
  refine zC ?_
  refine cr <| s_ Q5 <| s_ Qa <| zC ?_
  refine ⟨k + 1, by omega, (by simp only []; omega), ⟨?_, ?_, eL⟩, kR⟩
  ·apply Qk; (exact zG)
   exact Le.refl _
  ·apply Qk; (exact zG)
   exact Le.of_eq (by rw [hnx]; simp [ei])
 intro hge
 have hke : k = rows.length := by omega
 subst hke
 rw [List.take_length]
 refine zC ?_
 refine cr <| s_ Qa ?_
 refine Q1 (Hs := []) (Hr := []) (OJ (Jy rows).length (by omega)) (.refl _) (fun r H' ⟨v, hr, ho⟩ => ?_)
 subst hr
 refine s_ Qc <| zC ?_
 refine cr <| s_ Qa ?_
 (first | refine s_ QR ?_ | refine s_ QP ?_)
 refine s_ Qa <| zC ?_
 apply Qt (σ := Nat × Value × Qb) (ok := fun s => s.1 ≤ rows.length ∧ OB (Jy (rows.take s.1)) s.2.1 s.2.2) (env := fun s => [(27, ei s.1), (6, .v s.2.1), (26, ei (rows.length : Nat)), (25, .sl f (rows.map O1))]) (heap := fun s => s.2.2) (μ := fun s => rows.length - s.1) (s0 := (0, v, H'))
 ·exact ⟨Nat.zero_le _, ho⟩
 ·refine ⟨?_, ?_, ?_, eL⟩
  ·apply Qk; (exact zG)
   exact Le.refl _
  ·apply Qk; (exact zG)
   exact Le.refl _
  ·apply Qk; (exact zG)
   exact Le.of_eq (by simp [ei])
 ·rw [List.append_nil]; exact kR
 rintro ⟨k, v, H⟩ ⟨hk, ho⟩
 simp only at hk ho
 refine zC ?_
 refine cr <| s_ QX <| zC ?_
 refine ci ?_ ?_
 ·intro hlt
  simp only at hlt
  have hlt' : k < rows.length := by omega
  have hnx := WD hlt'
  have hle := Eb (rows := rows) (k + 1)
  rw [hnx, List.length_append] at hle
  refine zC ?_
  apply cr
  (first | refine s_ (Xu hix) ?_ | refine s_ (Xu hix2) ?_ | refine s_ Zz ?_ | refine s_ Jw ?_)
  (first | refine s_ Qm ?_ | refine s_ Qn ?_)
  refine s_ Qc <| zC ?_
  refine cr <| s_ Qa <| s_ Qa ?_
  refine Mp (ho := ho) (A := []) (B := []) (eb1 _) (fun v' Hs' ho' => ?_) (hH := by simp)
  refine s_ Qc <| zC ?_
  refine cr <| s_ Q5 <| s_ Qa <| zC ?_
  refine ⟨(k + 1, v', Hs'), ⟨by simp only; omega, ?_⟩, (by simp only []; omega), ⟨?_, ?_, eL⟩, by simp only [List.nil_append, List.append_nil]; exact kR⟩
  ·simp only
   rw [hnx]
   unfold OB
   rw [List.map_append]
   exact ho'
  ·apply Qk; (exact zG)
   exact Le.refl _
  ·apply Qk; (exact zG)
   exact Le.refl _
 intro hge
 simp only at hge
 have hke : k = rows.length := by omega
 subst hke
 rw [List.take_length] at ho
 refine zC ?_
 refine cr <| s_ Qa <| s_ Qc <| zC ?_
 refine zR ?_
 exact rh kR ⟨v, rfl, ho⟩ (Le.refl _)
theorem L0 {k u : Nat} (h : 128 ≤ u) : Jx (k + 1) u = UInt8.ofNat (u % 128 + 128) :: Jx k (u / 128) := by rw [Jx, if_pos h]
theorem Vl {k u : Nat} (h : u < 128) : Jx k u = [UInt8.ofNat u] := by
 cases k with
 | zero => rfl
 | succ k => rw [Jx, if_neg (by omega)]
theorem Gl (u : Nat) : bOr .u8 (IntKind.u8.wrap ((u : Int).tmod 128)) 128 = ((UInt8.ofNat (u % 128 + 128)).toNat : Int) := by
 have key : ∀ i : Fin 128, bOr .u8 (IntKind.u8.wrap ((i.val : Nat) : Int)) 128 = ((UInt8.ofNat (i.val + 128)).toNat : Int) := by decide +kernel
 have h := key ⟨u % 128, Nat.mod_lt _ (by omega)⟩
 rw [show (u : Int).tmod 128 = ((u % 128 : Nat) : Int) from rfl]
 exact h
theorem Gm {u : Nat} (h : u < 128) : IntKind.u8.wrap (u : Int) = ((UInt8.ofNat u).toNat : Int) := by
 have key : ∀ i : Fin 128, IntKind.u8.wrap ((i.val : Nat) : Int) = ((UInt8.ofNat i.val).toNat : Int) := by decide +kernel
 exact key ⟨u, h⟩
theorem Es (u : Nat) : VI .u64 (u : Int) 7 = ((u / 128 : Nat) : Int) := by
 unfold VI
 rw [show min (7 : Int).toNat IntKind.u64.bits = 7 by rfl, show (2 : Int) ^ 7 = 128 by rfl, Int.fdiv_eq_ediv_of_nonneg _ (by omega)]
 omega
theorem G4 (k : Nat) : 2 ^ (7 * (k + 1 + 1)) = 2 ^ (7 * (k + 1)) * 128 := by
 rw [show 7 * (k + 1 + 1) = 7 * (k + 1) + 7 by omega, Nat.pow_add]
theorem Q8 (n : Int) : 1 ≤ (Xs n).length ∧ (Xs n).length ≤ 10 := LZ 9 (Zp n)
structure BN where
 k : Nat
 u : Nat
 out : List UInt8
 v : Value
 H : Qb
theorem Vq (f : Bool) (b : List UInt8) (n : Int) (h0 : -9223372036854775808 ≤ n) (h1 : n ≤ 9223372036854775807) (hl : b.length ≤ 100000000000) : FnP Tryz.prog 164 [.sl f (b.map eb), ei n] (fun r => r = bl (b ++ Xs n)) := by
 have hlen := Q8 n
 have htl := Lw h0 h1
 refine fe Tryz.func164 fun S0 w0 => ?_
 show Sim _ _ [(0, T.sl f (b.map eb)), (1, ei n)] _ _
 refine zC ?_
 refine cr <| s_ Qc <| zC ?_
 refine cr <| s_ Qa ?_
 refine Q1 (Hs := []) (Hr := []) (WB f b (by omega)) (.refl _) (fun r H ⟨v, hr, ho⟩ => ?_)
 subst hr
 refine s_ Qc <| zC ?_
 refine cr <| s_ Qa <| s_ (QM (Ei n h0 h1)) <| s_ Qc <| zC ?_
 apply Qt (σ := BN) (ok := fun s => OB s.out s.v s.H ∧ s.out ++ Jx s.k s.u = b ++ Xs n ∧ s.u < 2 ^ (7 * (s.k + 1))) (env := fun s => [(6, .v (.int .u64 s.u)), (5, .v s.v)]) (heap := fun s => s.H) (μ := fun s => s.k) (s0 := ⟨9, Zp n, b, v, H⟩)
 ·exact ⟨ho, rfl, by simp only; omega⟩
 ·exact eL
 ·rw [List.append_nil]; exact kR
 rintro ⟨k, u, out, v, H⟩ ⟨ho, he, hu⟩
 simp only at ho he hu
 show Sim _ _ [(6, .v (.int .u64 u)), (5, .v v)] H _
 have hol : out.length ≤ 100000000010 := by
  have := congrArg List.length he
  simp only [List.length_append] at this
  omega
 refine zC ?_
 refine cr <| s_ Qa <| s_ Vc <| zC ?_
 refine ci ?_ ?_
 ·intro hge
  have hge' : 128 ≤ u := by omega
  cases k with
  | zero => exact absurd hu (by omega)
  | succ k =>
   refine zC ?_
   refine cr <| s_ Qa <| s_ Qa <| s_ Oe <| s_ X3 <| s_ UG ?_
   rw [Gl u]
   refine s_ J9 ?_
   refine Mp (ho := ho) (A := []) (B := []) (ys := [eb (UInt8.ofNat (u % 128 + 128))]) (f := true) (eb1 _) (fun v' Hs' ho' => ?_) (hH := by simp)
   refine s_ Qc <| zC ?_
   refine cr <| s_ Qa <| s_ Zd ?_
   rw [Es u]
   refine s_ Qc <| zC ?_
   refine ⟨⟨k, u / 128, out ++ [UInt8.ofNat (u % 128 + 128)], v', Hs'⟩, ⟨?_, ?_, ?_⟩, (by simp only []; omega), eL, by simp only [List.nil_append, List.append_nil]; exact kR⟩
   ·simp only
    unfold OB
    rw [List.map_append]
    exact ho'
   ·simp only
    rw [← he, L0 hge', List.append_assoc]
    rfl
   ·simp only
    rw [G4] at hu
    exact Nat.div_lt_of_lt_mul (by omega)
 ·intro hlt
  have hlt' : u < 128 := by omega
  refine zC ?_
  refine cr <| s_ Qa <| s_ Qa <| s_ X3 ?_
  rw [Gm hlt']
  refine s_ J9 ?_
  refine Mp (ho := ho) (A := []) (B := []) (ys := [eb (UInt8.ofNat u)]) (f := true) (eb1 _) (fun v' Hs' ho' => ?_) (hH := by simp)
  rw [Vl hlt'] at he
  have ho2 : OB (b ++ Xs n) v' Hs' := by rw [← he]; unfold OB; rw [List.map_append]; exact ho'
  refine QN (FnH.lend (G := Hs') (Qg.cons (ho2.lend fun _ h => h) Qg.nil) (YZ false (b ++ Xs n) (by simp only [List.length_append]; omega))) (fun r H' ⟨hr1, hr2⟩ => ?_)
  subst hr1 hr2
  refine s_ Qc <| zC ?_
  refine zE ?_
  exact Le.refl _
theorem Mx (f g : Bool) (b s : List UInt8) (hb : b.length ≤ 10000000000) (hs : s.length ≤ 10000000000) : FnP Tryz.prog 173 [.sl f (b.map eb), .sl g (s.map eb)] (fun r => r = bl (b ++ Xs s.length ++ s)) := by
 have hlen := Q8 s.length
 have hi := Vq f b (s.length : Nat) (by omega) (by omega) (by omega)
 have hc := Wy true [(false, b ++ Xs s.length), (g, s)] (by simp [Jy]; omega) (by simp)
 refine fe Tryz.func173 fun S0 w0 => ?_
 show Sim _ _ [(0, T.sl f (b.map eb)), (1, T.sl g (s.map eb))] _ _
 refine zC ?_
 refine cr <| s_ Qc <| zC ?_
 refine cr <| s_ Qa <| s_ Qa ?_
 (first | refine s_ QR ?_ | refine s_ QP ?_)
 rw [List.length_map]
 refine s_ (QM (hi)) <| s_ Qa <| s_ J9 <| s_ (QM (hc)) <| s_ Qc <| zC ?_
 refine zE ?_
 exact Le.of_eq (by simp [Jy, bl]; rfl)
end Go.Proofs.YtjbokbikkcfjjaaGreat
namespace Go.Cap
section
variable {K : Ctx} {t : Env} {H : Qb} {N : Env → Qb → Prop} {ty ty' tp : TypeId} {pos : String} {aft : Array Edge} {g : Option (Nat × Bool)} {ops : Array Oper} {i : Nat} {l : List Oper} {kd : Tmp} {eff : List Nat} {pend : List Q7} {al : List (Nat × Oper)}
theorem Ba {c : Code} {Ψ : Exit → Env → Qb → Prop} {G H1 : Qb} {d : T} (k : Nat) (x : T) (hl : Qz G d x) (hp : H.Perm (G ++ H1)) (h : Sim K c ((k, x) :: t) H1 Ψ) (hg : t.get k = d := by rfl) : Sim K c t H Ψ :=
 Jb (G := G) (H1 := H1) [(k, x)] hp ⟨hg ▸ hl, trivial⟩ h
end
end Go.Cap
namespace Go.Proofs.YtjbokbikkcfjjaaGreat
open Go.Cap
attribute [local irreducible] POp Qf Bv EOp Sim FnH T.gp
theorem Iw (l : List En) (hl : l.length ≤ 4611686018427387904) : ItC Tryz.prog 124 [.adr (Y7 l)] (fun p : Nat × En => [ei p.1, een p.2]) (fun xs => xs = VG l l.length) (fun pre => ∃ k, k ≤ l.length ∧ pre = VG l k) := by
 refine L9 Tryz.func124 (by rfl) (by rfl) (by rfl) ?_
 intro c l' r I Ix Hx S w hlen _ _ hK h0 hY
 show Sim _ _ [(Tryz.f124.ntmps, .v undef), (0, .v (.func (.yield l') #[] #[])), (1, .adr (.sl false (l.map een)))] _ _
 refine zC ?_
 apply cr
 (first | refine s_ Qm ?_ | refine s_ Qn ?_)
 (first | refine s_ QR ?_ | refine s_ QP ?_)
 refine s_ ZP <| s_ Qc <| zC ?_
 apply Qt (σ := Nat × Qb) (ok := fun s => s.1 ≤ l.length ∧ I (VG l s.1) s.2) (env := fun s => [(3, .v (.int .i64 ((l.length : Int) - 1 - s.1))), (Tryz.f124.ntmps, .v undef), (0, .v (.func (.yield l') #[] #[])), (1, .adr (.sl false (l.map een)))])
  (heap := fun s => s.2) (μ := fun s => l.length - s.1) (s0 := (0, Hx))
 ·exact ⟨by simp, h0⟩
 ·refine ⟨?_, eL⟩
  apply Qk; (exact zG)
  exact Le.of_eq (by simp)
 ·exact kR
 rintro ⟨k, H⟩ ⟨hk, hI⟩
 simp only at hk hI
 refine zC ?_
 refine cr <| s_ Qa <| s_ Vc <| zC ?_
 refine ci ?_ ?_
 ·intro hge
  have hix : l.length - 1 - k < l.length := by omega
  have hcast : (l.length : Int) - 1 - k = ((l.length - 1 - k : Nat) : Int) := by omega
  rw [hcast]
  have hget : l.getD (l.length - 1 - k) default = l[l.length - 1 - k] := by simp [hix]
  have hyc := hY (VG l k) (l.length - 1 - k, l[l.length - 1 - k]) H hI ⟨k + 1, by omega, by rw [YN, hget]⟩
  refine zC ?_
  refine cr <| s_ Qa <| s_ Qa ?_
  (first | refine s_ Qm ?_ | refine s_ Qn ?_)
  refine s_ Qa ?_
  (first | refine s_ (Xu hix) ?_ | refine s_ (Xu hix2) ?_ | refine s_ Zz ?_ | refine s_ Jw ?_)
  (first | refine s_ Y6 ?_ | refine s_ Xp ?_)
  refine Bj (Hr := []) hyc (by simp) (hlen _) hK (fun H' hI' => ?_) (fun H' hI' => ?_)
  ·simp only [if_true] at hI'
   refine s_ XY <| zC ?_
   refine ci ?_ ?_
   ·intro h; exact absurd trivial h
   intro _
   refine zC ?_
   refine cr <| s_ Qa <| s_ ZP <| s_ Qc <| zC ?_
   refine ⟨(k + 1, H'), ⟨by simp only; omega, ?_⟩, (by simp only []; omega), ⟨?_, eL⟩, by rw [List.append_nil]; exact kR⟩
   ·simp only
    rw [YN, hget]; exact hI'
   ·apply Qk; (exact zG)
    exact Le.of_eq (by congr 2; simp only; omega)
  ·simp only [Bool.false_eq_true, if_false] at hI'
   refine s_ XY <| zC ?_
   refine ci ?_ ?_
   ·intro _
    refine zC ?_
    apply X1
    simp only [Yi, YI, Jp]
    rw [List.append_nil]
    exact DZ ⟨k + 1, by omega, by rw [YN, hget]⟩ hI'
   ·intro h; exact absurd (fun h => h) h
 ·intro hge
  have hk2 : k = l.length := by omega
  subst hk2
  refine zC ?_
  exact Vp rfl hI
theorem Iy (f : Bool) (xs : List T) : FnP Tryz.prog 90 [.sl f xs] (fun r => r = .clo 124 [] [.adr (.sl f xs)]) := by
 refine fe Tryz.func90 fun S0 w0 => ?_
 show Sim _ _ [(0, T.sl f xs)] _ _
 refine zC ?_
 apply cr
 refine Lm fun b1 _ => ?_
 refine s_ Qc <| zC ?_
 refine cr <| s_ J8 <| s_ Qc <| zC ?_
 refine Jb (G := [_]) (H1 := []) [(2, .clo 124 [] [.adr (.sl f xs)])] (by simp; rfl) ⟨?_, trivial⟩ ?_
 ·refine (show Env.get _ _ = _ from gZ) ▸ Qz.clo Qg.nil (Qg.cons (Qz.ptr List.mem_cons_self (.inl rfl) ?_ (by simp [T.cells]) (by simp [T.cells])) Qg.nil)
  exact Qg.le (LeL.refl _)
 ·refine zE ?_
  exact Le.refl _
theorem Rb {l : List En} {k : Nat} (hk : k ≤ l.length) {p : Nat × En} (h : p ∈ VG l k) : p.1 < l.length := by
 obtain ⟨j, hj, rfl⟩ := List.mem_map.1 h
 have := List.mem_range.1 hj
 simp only; omega
theorem Dg {l : List En} {k : Nat} (hk : k ≤ l.length) {ini : List (Nat × En)} {last : Nat × En} (h : ini ++ [last] = VG l k) (hz : ∀ p ∈ ini, p.2.conf = 0) (hl : last.2.conf ≠ 0) : lc l l.length = some (last.1, last.2.conf) := by
 cases k with
 | zero => simp [VG] at h
 | succ k =>
  rw [YN] at h
  obtain ⟨h1, h2⟩ := List.append_inj' h rfl
  have h3 : last = (l.length - 1 - k, l.getD (l.length - 1 - k) default) := by simpa using h2
  rw [La l (l.length - k) k (by omega) (by rw [← h1]; exact hz)]
  have e : l.length - k = (l.length - 1 - k) + 1 := by omega
  rw [e, lc]
  rw [h3] at hl
  simp only at hl
  rw [if_pos hl, h3]
theorem Ea (n : Nd) (hl : n.log.length ≤ 1000000000) (hb1 : -1000000000000 ≤ n.base) (hb2 : n.base ≤ 1000000000000) : FnP Tryz.prog 64 [.adr (nd n)] (fun r => r = .tup [ei (QK n).1, ei (QK n).2]) := by
 have cbk := Iy false (n.log.map een)
 refine fe Tryz.func64 fun S0 w0 => ?_
 show Sim _ _ [(0, T.adr (.agg (Qv n (.sl false (n.log.map een)))))] _ _
 refine zC ?_
 apply cr
 refine Lm fun b1 _ => ?_
 refine Yt fun b2 _ => ?_
 refine Yt fun b3 _ => ?_
 refine zC ?_
 refine cr <| s_ Qn <| s_ Qe ?_
 (first | refine s_ Qs ?_ | refine s_ Qd ?_)
 (first | refine s_ Qm ?_ | refine s_ Qn ?_)
 refine s_ (QM (cbk)) <| zC ?_
 refine V5 (Iw n.log (by omega)) (by ((repeat (apply eS; rfl)); exact eZ)) (by rfl) rfl (fun (pre : List (Nat × En)) (H : Qb) => (∀ p ∈ pre, p.2.conf = 0) ∧ H = [(b3, ⟨3, [ei 0], 1⟩), (b2, ⟨3, [ei 0], 1⟩), (b1, ⟨147, [.adr (.agg (Qv n (.sl false (n.log.map een))))], 1⟩)])
  (fun (pre : List (Nat × En)) (H : Qb) => ∃ ini last, pre = ini ++ [last] ∧ (∀ p ∈ ini, p.2.conf = 0) ∧ last.2.conf ≠ 0 ∧ H = [(b3, ⟨3, [ei last.2.conf], 1⟩), (b2, ⟨3, [ei (n.base + last.1 + 1)], 1⟩), (b1, ⟨147, [.adr (.agg (Qv n (.sl false (n.log.map een))))], 1⟩)])
  .ret .ret (.inl ⟨rfl, rfl⟩) (fun _ => rfl) (by rfl) ⟨by simp, rfl⟩ ?_ ?_ ?_
 ·rintro pre x H1 ⟨hz, rfl⟩ ⟨k, hk, hsp⟩ l' S1 w1
  have hx1 : x.1 < n.log.length := Rb hk (by rw [← hsp]; simp)
  simp only [Va]
  refine zC ?_
  refine cr <| s_ Qc <| zC ?_
  apply cr
  refine Yt fun b5 _ => ?_
  refine QC ?_
  refine zC ?_
  refine ⟨rfl, fun S2 w2 mk => ?_⟩
  refine zC ?_
  refine cr <| s_ Qd <| s_ Qn <| s_ Yw <| zC ?_
  refine ci ?_ ?_
  ·intro hne
   refine zC ?_
   refine ca [0, 1, 2, 3, 4, 5, 6, 7, 8, 9, 10] [9, 10] <| QF ?_
   refine a_ (fun _ => Qe) ?_
   (first | refine a_ (fun _ => Qs) ?_ | refine a_ (fun _ => Qd) ?_)
   (first | refine a_ (fun _ => Qm) ?_ | refine QF ?_)
   refine a_ (fun _ => Qa) <| a_ (fun _ => Q5) <| a_ (fun _ => Q5) <| a_ (fun _ => Qd) <| QF ?_
   refine XJ ?_
   refine XJ ?_
   apply an
   refine zC ?_
   refine zC ?_
   apply X1
   simp only [Yi, YI]
   exact ⟨_, kS kR, .inr ⟨rfl, pre, x, rfl, hz, hne, rfl⟩⟩
  ·intro he
   refine zC ?_
   exact ⟨_, kS kR, .inl ⟨rfl, by intro p hp; rcases List.mem_append.1 hp with h | h; exact hz p h; rw [List.mem_singleton.1 h]; simpa using he, rfl⟩⟩
 ·rintro xs H' rfl ⟨hz, rfl⟩
  have hlc : lc n.log n.log.length = none := by rw [La n.log 0 n.log.length (by omega) hz]; rfl
  refine zC ?_
  refine zC ?_
  refine ca [0, 1, 2, 3, 4, 5, 6, 7, 8, 9] [8, 9] <| QF ?_
  refine a_ (fun _ => Qe) ?_
  (first | refine a_ (fun _ => Qs) ?_ | refine a_ (fun _ => Qd) ?_)
  (first | refine a_ (fun _ => Qm) ?_ | refine QF ?_)
  refine QF ?_
  refine a_ (fun _ => Qe) ?_
  (first | refine a_ (fun _ => Qs) ?_ | refine a_ (fun _ => Qd) ?_)
  (first | refine a_ (fun _ => Qm) ?_ | refine QF ?_)
  refine XJ ?_
  refine XJ ?_
  apply an
  refine zC ?_
  refine zC ?_
  refine zE ?_
  simp only [QK, hlc]; exact Le.refl _
 ·rintro pre H' ⟨k, hk, rfl⟩ ⟨ini, last, h1, hz, hne, rfl⟩
  have hlc := Dg hk h1.symm hz hne
  simp only [Yi, YI]
  refine rt ?_
  simp only [QK, hlc]; exact Le.refl _
def VX (x : Int) : Int := ((List.range 5).filter x.toNat.testBit).length
def isF (conf id : Int) : Bool := conf.toNat.testBit id.toNat
def UO (a b : Int) : Int := (a.toNat &&& b.toNat : Nat)
def UH (conf some : Int) : Bool := decide (VX conf < 2 * VX (UO conf some))
def XA (id conf : Int) : Nd := ⟨id, 0, -1, 0, 0, conf, [], [], 0, 0, 0, 0, .all 0, .all 0⟩
def Ya (n : Nd) (i : Int) : Int := if n.base + 1 ≤ i ∧ i < n.base + 1 + n.log.length then (n.log.getD (i - n.base - 1).toNat default).term else n.baseTerm
def QY (n : Nd) : Int := n.base + n.log.length
theorem D5 {x : Int} (h0 : 0 ≤ x) (h1 : x ≤ 31) : ∃ i : Fin 32, x = (i.val : Int) := ⟨⟨x.toNat, by omega⟩, by simp only; omega⟩
theorem Zf {K : Ctx} {t : Env} {b m : Nat} {e : TypeId} {cs : List T} {H1 : Qb} {Ψ : Exit → Env → Qb → Prop} {c : Code} (k : Nat) (hl : 0 < cs.length) (h : Sim K c ((k, .adr (.agg cs)) :: t) H1 Ψ) (hg : t.get k = .v (.pointer (some ⟨b, 0, none⟩)) := by rfl) : Sim K c t ((b, ⟨e, cs, m⟩) :: H1) Ψ := by
 have hcs : (T.agg cs).cells = cs := by simp [T.cells]
 refine Jb (G := [_]) (H1 := H1) [(k, .adr (.agg cs))] (by simp; rfl) ⟨?_, trivial⟩ h
 rw [hg]
 refine Qz.ptr List.mem_cons_self (.inr ⟨_, rfl⟩) ?_ (by rwa [hcs]) (by rw [hcs]; exact Nat.le_refl _)
 rw [hcs]
 exact Qg.le (by rw [List.take_length]; exact LeL.refl _)
theorem VL {p : Int → Prop} (h : ∀ i : Fin 32, p (i.val : Int)) {x : Int} (h0 : 0 ≤ x) (h1 : x ≤ 31) : p x := by
 obtain ⟨i, rfl⟩ := D5 h0 h1; exact h i
theorem Z5 {x : Int} (h0 : 0 ≤ x) (h1 : x ≤ 31) : IntKind.u64.wrap x = x := VL (p := fun x => IntKind.u64.wrap x = x) (by decide) h0 h1
theorem R3 {x : Int} (h0 : 0 ≤ x) (h1 : x ≤ 31) : 0 ≤ VX x ∧ VX x ≤ 5 := VL (p := fun x => 0 ≤ VX x ∧ VX x ≤ 5) (by decide) h0 h1
theorem CB {x y : Int} (h0 : 0 ≤ x) (h1 : x ≤ 31) (h2 : 0 ≤ y) (h3 : y ≤ 31) : VJ .i64 x y = UO x y ∧ 0 ≤ UO x y ∧ UO x y ≤ 31 :=
 VL (p := fun x => VJ .i64 x y = UO x y ∧ 0 ≤ UO x y ∧ UO x y ≤ 31) (fun i => VL (p := fun y => VJ .i64 i y = UO i y ∧ 0 ≤ UO i y ∧ UO i y ≤ 31) (by revert i; decide) h2 h3) h0 h1
theorem Bc {x y : Int} (h0 : 0 ≤ x) (h1 : x ≤ 31) (h2 : 0 ≤ y) (h3 : y < 5) : decide (VJ .i64 (VI .i64 x y) 1 = 1) = isF x y :=
 VL (p := fun x => decide (VJ .i64 (VI .i64 x y) 1 = 1) = isF x y) (fun i => VL (p := fun y => decide (VJ .i64 (VI .i64 i y) 1 = 1) = isF i y) (by revert i; decide) h2 (by omega)) h0 h1
theorem EK (x : Int) (h0 : 0 ≤ x) (h1 : x ≤ 31) : FnP Tryz.prog 150 [.v (.int .u64 x)] (fun r => r = ei (VX x)) := by
 refine fe Tryz.func150 fun S0 w0 => ?_
 show Sim _ _ [(0, T.v (.int .u64 x))] _ _
 refine zC ?_
 refine cr <| s_ Qc <| zC ?_
 refine cr <| s_ Qa <| s_ Zd <| s_ JC <| s_ Qa <| s_ JC <| s_ Ve <| s_ Qc <| zC ?_
 refine cr <| s_ Qa <| s_ Zd <| s_ JC <| s_ Qa <| s_ JC <| s_ Ve <| s_ Qc <| zC ?_
 refine cr <| s_ Qa <| s_ Zd <| s_ Qa <| s_ Ve <| s_ JC <| s_ Qc <| zC ?_
 refine cr <| s_ Qa <| s_ Qa <| s_ Zd <| s_ Ve <| s_ Qc <| zC ?_
 refine cr <| s_ Qa <| s_ Qa <| s_ Zd <| s_ Ve <| s_ Qc <| zC ?_
 refine cr <| s_ Qa <| s_ Qa <| s_ Zd <| s_ Ve <| s_ Qc <| zC ?_
 refine cr <| s_ Qa <| s_ X3 <| s_ JC <| s_ Qc <| zC ?_
 refine zE ?_
 obtain ⟨i, rfl⟩ := D5 h0 h1
 refine Le.of_eq (congrArg (fun z => T.v (.int .i64 z)) ?_)
 revert i; decide
theorem DN (x : Int) (h0 : 0 ≤ x) (h1 : x ≤ 31) : FnP Tryz.prog 109 [.v (.int .u64 x)] (fun r => r = ei (VX x)) := by
 have h64 := EK x h0 h1
 refine fe Tryz.func109 fun S0 w0 => ?_
 show Sim _ _ [(0, T.v (.int .u64 x))] _ _
 refine zC ?_
 refine cr <| s_ Qc <| zC ?_
 refine ci (p := False) (fun h => h.elim) (fun _ => ?_) (by rfl)
 refine zC ?_
 refine cr <| s_ Qa <| s_ (QM (h64)) <| s_ Qc <| zC ?_
 refine zE ?_
 exact Le.refl _
def big : Int := 1000000000000
theorem Cl (id conf : Int) (h0 : 0 ≤ id) (h1 : id < 5) (h2 : 0 ≤ conf) (h3 : conf ≤ 31) : FnP Tryz.prog 66 [ei id, ei conf] (fun r => r = nd (XA id conf)) := by
 refine fe Tryz.func66 fun S0 w0 => ?_
 show Sim _ _ [(0, ei id), (1, ei conf)] _ _
 have ht : id.tmod 5 = id := Int.tmod_eq_of_lt h0 h1
 have ht2 : (id.tmod 5 + 5).tmod 5 = id := by rw [ht, Int.tmod_eq_emod_of_nonneg (by omega)]; omega
 have hc : VJ .i64 conf 31 = conf := VL (p := fun x => VJ .i64 x 31 = x) (by decide) h2 h3
 refine zC ?_
 apply cr
 refine Yt fun b4 _ => ?_
 refine zC ?_
 refine cr <| s_ Qa <| s_ Oe <| s_ Q5 <| s_ Oe <| s_ Qa <| s_ JC <| s_ (ZA 22 [_, _, _, _, _, _, _, _, _, _, _, _, _, _, _, _, _, _, _, _, _, _]) <| QC ?_
 refine zC ?_
 refine zE ?_
 simp only [ht2, hc]
 show Le (.agg _) (.agg (Qv _ _))
 exact zL
theorem IW (conf id : Int) (h0 : 0 ≤ id) (h1 : id < 5) (h2 : 0 ≤ conf) (h3 : conf ≤ 31) : FnP Tryz.prog 107 [ei conf, ei id] (fun r => r = eB (isF conf id)) := by
 refine fe Tryz.func107 fun S0 w0 => ?_
 show Sim _ _ [(0, ei conf), (1, ei id)] _ _
 have hw := Z5 h0 (by omega)
 refine zC ?_
 refine cr <| s_ Qc <| zC ?_
 refine cr <| s_ Qa <| s_ Qa <| s_ X3 <| s_ Zd <| s_ JC <| s_ Xy <| s_ Qc <| zC ?_
 refine zE ?_
 rw [Z5 h0 (by omega), Bc h2 h3 h0 h1]
 exact Le.refl _
theorem W6 (conf some : Int) (h0 : 0 ≤ some) (h1 : some ≤ 31) (h2 : 0 ≤ conf) (h3 : conf ≤ 31) : FnP Tryz.prog 146 [ei conf, ei some] (fun r => r = eB (UH conf some)) := by
 have hb := CB h2 h3 h0 h1
 have o1 := DN (UO conf some) hb.2.1 hb.2.2
 have o2 := DN conf h2 h3
 have l1 := R3 hb.2.1 hb.2.2
 have l2 : VX (IntKind.u64.wrap (VJ .i64 conf some)) = VX (UO conf some) := by rw [hb.1, Z5 hb.2.1 hb.2.2]
 have w1 := Z5 hb.2.1 hb.2.2
 have w2 := Z5 h2 h3
 rw [← w1, ← hb.1, l2] at o1
 rw [← w2] at o2
 refine fe Tryz.func146 fun S0 w0 => ?_
 show Sim _ _ [(0, ei conf), (1, ei some)] _ _
 refine zC ?_
 refine cr <| s_ Qc <| zC ?_
 refine cr <| s_ Qa <| s_ Qa <| s_ JC <| s_ X3 <| s_ (QM (o1)) <| s_ Cd <| s_ Qa <| s_ X3 <| s_ (QM (o2)) <| s_ XZ <| s_ Qc <| zC ?_
 refine zE ?_
 rw [w2]
 exact Le.refl _
theorem UT (n : Nd) (i : Int) (hl : n.log.length ≤ 1000000000) (hb1 : -big ≤ n.base) (hb2 : n.base ≤ big) (hi1 : -big ≤ i) (hi2 : i ≤ big) : FnP Tryz.prog 110 [.adr (nd n), ei i] (fun r => r = ei (Ya n i)) := by
 refine fe Tryz.func110 fun S0 w0 => ?_
 show Sim _ _ [(0, T.adr (.agg (Qv n (.sl false (n.log.map een))))), (1, ei i)] _ _
 simp only [big] at hb1 hb2 hi1 hi2
 refine zC ?_
 refine cr <| s_ Qc <| zC ?_
 refine cr <| s_ Qa <| s_ Qa <| s_ Qe ?_
 (first | refine s_ Qs ?_ | refine s_ Qd ?_)
 (first | refine s_ Qm ?_ | refine s_ Qn ?_)
 refine s_ ZP <| s_ ZP <| s_ Qc <| zC ?_
 refine cr <| s_ Qa <| s_ Vc <| s_ Qa <| gT (fun hg => Qa) ?_
 refine gT (fun hg => Qa) ?_
 refine gT (fun hg => Qe (hx := u_ hg)) ?_
 (first | refine gT (fun hg => Qs (hx := u_ hg)) ?_ | refine gT (fun hg => Qd (hx := u_ hg)) ?_)
 (first | refine gT (fun hg => Qm (hx := u_ hg)) ?_ | refine gT (fun hg => Qn (hx := u_ hg)) ?_)
 (first | refine gT (fun hg => QR (hx := u_ hg)) ?_ | refine gT (fun hg => QP (hx := u_ hg)) ?_)
 refine gT (fun hg => QX (hx := u_ hg) (hy := u_ hg)) ?_
 refine s_ Xz <| zC ?_
 refine ci ?_ ?_
 ·intro hc
  simp only [List.length_map] at hc
  refine zC ?_
  refine cr <| s_ Qa <| s_ Qe ?_
  (first | refine s_ Qs ?_ | refine s_ Qd ?_)
  (first | refine s_ Qm ?_ | refine s_ Qn ?_)
  refine s_ Qa ?_
  (first | refine s_ (Xu hix) ?_ | refine s_ (Xu hix2) ?_ | refine s_ Zz ?_ | refine s_ Jw ?_)
  (first | refine s_ Qs ?_ | refine s_ Qd ?_)
  (first | refine s_ Qm ?_ | refine s_ Qn ?_)
  refine s_ Qc <| zC ?_
  refine zE ?_
  rw [Ya, if_pos (by omega)]
  exact Le.refl _
 ·intro hc
  simp only [List.length_map] at hc
  refine zC ?_
  refine cr <| s_ Qa <| s_ Qe ?_
  (first | refine s_ Qs ?_ | refine s_ Qd ?_)
  (first | refine s_ Qm ?_ | refine s_ Qn ?_)
  refine s_ Qc <| zC ?_
  refine zE ?_
  rw [Ya, if_neg (by omega)]
  exact Le.refl _
theorem Jq (n : Nd) (hl : n.log.length ≤ 1000000000) (hb1 : -100000000000 ≤ n.base) (hb2 : n.base ≤ 100000000000) : FnP Tryz.prog 143 [nd n] (fun r => r = .tup [ei (QY n), ei (Ya n (QY n))]) := by
 have ht := UT n (QY n) hl (by simp only [big]; omega) (by simp only [big]; omega) (by simp only [big, QY]; omega) (by simp only [big, QY]; omega)
 have hlf : QY n = n.base + ((n.log.map een).length : Nat) := by simp [QY]
 rw [hlf] at ht ⊢
 refine fe Tryz.func143 fun S0 w0 => ?_
 show Sim _ _ [(0, T.agg (Qv n (.sl false (n.log.map een))))] _ _
 refine zC ?_
 apply cr
 refine XO fun b1 _ => ?_
 refine s_ Qc <| s_ Qc <| zC ?_
 refine Zf 1 (by simp [Qv]) ?_
 refine zC ?_
 refine cr <| s_ Qs <| s_ Qm <| s_ Qs <| s_ Qm ?_
 (first | refine s_ QR ?_ | refine s_ QP ?_)
 refine s_ Q5 <| s_ Qc <| zC ?_
 refine cr <| s_ Qa <| s_ Qa <| s_ (QM (ht)) <| s_ Qc <| s_ Qc <| zC ?_
 refine zE ?_
 exact Le.refl _
theorem U1 (n : Nd) (hl : n.log.length ≤ 1000000000) (hb1 : -1000000000000 ≤ n.base) (hb2 : n.base ≤ 1000000000000) : FnP Tryz.prog 32 [nd n] (fun r => r = ei (QK n).2) := by
 have ht := Ea n hl hb1 hb2
 refine fe Tryz.func32 fun S0 w0 => ?_
 show Sim _ _ [(0, T.agg (Qv n (.sl false (n.log.map een))))] _ _
 refine zC ?_
 apply cr
 refine XO fun b1 _ => ?_
 refine s_ Qc <| zC ?_
 refine Zf 1 (by simp [Qv]) ?_
 refine zC ?_
 refine cr <| s_ (QM (ht)) <| s_ Qa <| s_ QH <| s_ QH <| s_ Qc <| s_ Qc <| zC ?_
 refine cr <| s_ Qa <| s_ Qc <| zC ?_
 refine zE ?_
 exact Le.refl _
def tE : TypeId := 84
def tM : TypeId := 76
def tW : TypeId := 167
def OE (l : List En) (v : Value) (Hs : Qb) : Prop := OSl tE 3 (l.map een) v Hs
def OM (l : List Ms) (v : Value) (Hs : Qb) : Prop := OSl tM 11 (l.map ms) v Hs
theorem Gg (l : List En) : ∀ x ∈ l.map een, x.cells.length = 3 := zk
theorem Cs (l : List En) : ∀ x ∈ l.map een, x.solid := Zt _ (fun _ => .inr ⟨_, rfl⟩) _
theorem R6 (l : List Ms) : ∀ x ∈ l.map ms, x.cells.length = 11 := zk
theorem C6 (l : List Ms) : ∀ x ∈ l.map ms, x.solid := Zt _ (fun _ => .inr ⟨_, rfl⟩) _
theorem Ww : ∀ (l : List En), ((l.map een).flatMap T.cells).all T.isV = true
 | [] => rfl
 | e :: l => by simp only [List.map_cons, List.flatMap_cons, List.all_append, Ww l, Bool.and_true]; rfl
theorem OE.plain {l : List En} {v : Value} {Hs : Qb} (h : OE l v Hs) : ∀ p ∈ Hs, p.2.vals.all T.isV = true := by
 rcases h with ⟨_, _, rfl⟩ | ⟨b, c, _, _, rfl⟩
 ·simp
 ·intro p hp
  rw [List.mem_singleton.1 hp]
  exact Ww l
theorem OE.len {l : List En} {v : Value} {Hs : Qb} (h : OE l v Hs) : ∃ p c, v = .slice p (l.map een).length c := OSl.len h
theorem OM.len {l : List Ms} {v : Value} {Hs : Qb} (h : OM l v Hs) : ∃ p c, v = .slice p (l.map ms).length c := OSl.len h
theorem OE.cap {l : List En} {p : Option Addr} {n c : Nat} {Hs : Qb} (h : OE l (.slice p n c) Hs) : n ≤ c := OSl.cap h
theorem OE.lend {l : List En} {v : Value} {Hs G : Qb} (h : OE l v Hs) (hG : ∀ p ∈ Hs, p ∈ G) : Qz G (.v v) (.sl false (l.map een)) := OSl.lend h hG (Gg l) (Cs l)
theorem OM.lend {l : List Ms} {v : Value} {Hs G : Qb} (h : OM l v Hs) (hG : ∀ p ∈ Hs, p ∈ G) : Qz G (.v v) (mss l) := OSl.lend h hG (R6 l) (C6 l)
theorem YY (f : Bool) (l : List En) (hl : l.length ≤ 1000000000) : FnH Tryz.prog 72 [.sl f (l.map een)] [] (fun r H => ∃ v, r = .v v ∧ OE l v H) := by
 refine fe Tryz.func72 fun S0 w0 => ?_
 show Sim _ _ [(0, T.sl f (l.map een))] _ _
 refine zC ?_
 refine cr <| s_ Qc <| zC ?_
 refine cr <| s_ Qa ?_
 refine ZB 3 fun p c h1 _ => ?_
 refine s_ CY <| zC ?_
 refine ci ?_ ?_
 ·intro hp
  have := h1 hp
  have : l = [] := by simpa using this
  subst this
  refine zC ?_
  refine cr <| s_ Qc <| zC ?_
  refine zR ?_
  exact rh kR ⟨_, rfl, Ze⟩ (Le.refl _)
 ·intro hp
  refine zC ?_
  refine cr <| s_ J9 ?_
  refine ZB 5 fun q c' _ h2 => ?_
  have := h2 rfl
  subst this
  cases l with
  | nil =>
   refine s_ Qa <| s_ (C3 (hxl := Le.slice0 q true)) ?_
   refine ZB 7 fun q c' _ h2 => ?_
   have := h2 rfl
   subst this
   refine s_ Qc <| zC ?_
   refine zR ?_
   exact rh kR ⟨_, rfl, Ua⟩ (Le.refl _)
  | cons e l =>
   refine s_ Qa ?_
   refine Ir (ho := (Ua : OSl tE 3 [] _ [])) (A := []) (B := []) (fun _ h => by cases h) (fun v' Hs' ho => ?_)
   refine s_ Qc <| zC ?_
   refine zR ?_
   exact rh kR ⟨_, rfl, by simpa [OE] using ho⟩ (Le.refl _)
def SlE (G : Qb) (l : List En) (v : Value) : Prop := ∃ p c, v = .slice p l.length c ∧ l.length ≤ c ∧ Qz G (.v v) (.sl false (l.map een))
theorem OE.sle {l : List En} {v : Value} {Hs G : Qb} (h : OE l v Hs) (hG : ∀ p ∈ Hs, p ∈ G) : SlE G l v := by
 obtain ⟨p, c, rfl⟩ := h.len
 exact ⟨p, c, by simp, by simpa using h.cap, h.lend hG⟩
theorem SlE.sub {G : Qb} {l : List En} {p : Option Addr} {n c : Nat} (h : SlE G l (.slice p n c)) {lo hi : Nat} (h1 : lo ≤ hi) (h2 : hi ≤ l.length) : SlE G ((l.drop lo).take (hi - lo)) (Jv 3 p c lo (hi - lo)) := by
 obtain ⟨p', c', e, hc, hl⟩ := h
 cases e
 have h3 := Qz.sub (P := Tryz.prog) (ty := 41) hl (zk) h1 (by simpa using h2) (by simp) hc
 have hlen : ((l.drop lo).take (hi - lo)).length = hi - lo := by simp; omega
 exact ⟨p.map fun a => if c = lo then a else a.add (lo * 3), c - lo, by rw [hlen]; rfl, by rw [hlen]; omega, by rw [List.map_take, List.map_drop]; exact h3⟩
abbrev BO (P : Program) (f : FuncId) (args : List T) (H : Qb) (d : T) : Prop := FnH P f args H fun r H' => H' = [] ∧ r = d
def wkC (n : Nd) (vl vo : Value) : List T := Qv n (.v vl) ++ [.v vo]
def WkH (b : Nat) (n : Nd) (out : List Ms) (H : Qb) : Prop := ∃ vl vo Hl Ho, OE n.log vl Hl ∧ OM out vo Ho ∧ H = (b, ⟨tW, wkC n vl vo, 23⟩) :: (Hl ++ (Ho ++ []))
def pW (b : Nat) : T := .v (.pointer (some ⟨b, 0, none⟩))
theorem OE.of {l : List En} : ∀ (r : T) (H : Qb), (∃ v, r = .v v ∧ OE l v H) → r.plain = true ∧ ∀ p ∈ H, p.2.vals.all T.isV = true := by
 rintro r H ⟨v, rfl, h⟩
 exact ⟨rfl, h.plain⟩
theorem Du (n : Nd) (hl : n.log.length ≤ 1000000000) : FnH Tryz.prog 102 [nd n] [] (fun r H => ∃ b, r = pW b ∧ WkH b n [] H) := by
 have hc := YY false n.log hl
 refine fe Tryz.func102 fun S0 w0 => ?_
 show Sim _ _ [(0, T.agg (Qv n (.sl false (n.log.map een))))] _ _
 refine zC ?_
 apply cr
 refine XO fun b1 _ => ?_
 refine s_ Qc <| zC ?_
 refine cr <| s_ Qd <| s_ Qn ?_
 refine I0 (G := []) hc (Qg.le (LeL.refl _)) ⟨_, List.Perm.refl _⟩ OE.of ?_
 rintro r H1 ⟨v, rfl, ho⟩
 obtain ⟨p, c, rfl⟩ := ho.len
 refine QJ List.perm_middle ?_
 refine s_ Qd <| QC ?_
 refine zC ?_
 refine cr <| s_ Xp <| s_ (ZA 23 [_, _, _, _, _, _, _, _, _, _, _, _, _, _, _, _, _, _, _, _, _, _, _]) ?_
 refine XO fun b9 _ => ?_
 refine s_ Qc <| zC ?_
 refine zR ?_
 exact rh (.keep _ _ _ _ _ (XX.refl _) (.skip _ _ _ kR)) ⟨b9, rfl, _, _, H1, [], ho, Ze, rfl⟩ (Le.refl _)
theorem Q6 {G : Qb} (n : Nd) {x y : T} (h : Qz G x y) : Qg G (Qv n x) (Qv n y) := by
 unfold Qv
 repeat (first | exact Qg.nil | (refine Qg.cons (Qz.le (Le.refl _)) ?_) | (refine Qg.cons h ?_))
def wkD (n : Nd) (out : List Ms) : List T := Qv n (Y7 n.log) ++ [mss out]
theorem GA {G Hl Ho : Qb} {n : Nd} {out : List Ms} {vl vo : Value} (h1 : OE n.log vl Hl) (h2 : OM out vo Ho) (hl : ∀ p ∈ Hl, p ∈ G) (ho : ∀ p ∈ Ho, p ∈ G) : Qg G (wkC n vl vo) (wkD n out) :=
 Qg.append (Q6 n (h1.lend hl)) (Qg.cons (h2.lend ho) Qg.nil)
theorem I2 {G Hl Ho : Qb} {b : Nat} {n : Nd} {out : List Ms} {vl vo : Value} (h1 : OE n.log vl Hl) (h2 : OM out vo Ho) (hl : ∀ p ∈ Hl, p ∈ G) (ho : ∀ p ∈ Ho, p ∈ G) (hb : (b, (⟨tW, wkC n vl vo, 23⟩ : Blk)) ∈ G) : Qz G (pW b) (.adr (.agg (wkD n out))) :=
 Qz.ptr hb (.inr ⟨_, rfl⟩) (GA h1 h2 hl ho) (by simp [T.cells, wkD]) (by simp [T.cells, wkD, wkC, Qv])
theorem W4 {G Hl : Qb} {b : Nat} {n : Nd} {vl vo : Value} (h1 : OE n.log vl Hl) (hl : ∀ p ∈ Hl, p ∈ G) (hb : (b, (⟨tW, wkC n vl vo, 23⟩ : Blk)) ∈ G) : Qz G (pW b) (.adr (nd n)) :=
 Qz.ptr hb (.inr ⟨_, rfl⟩) (Q6 n (h1.lend hl)) (by simp [nd, T.cells, Qv]) (by simp [nd, T.cells, wkC, Qv])
theorem X6 {b : Nat} {n : Nd} {out : List Ms} {H : Qb} (hl : n.log.length ≤ 1000000000) (hw : WkH b n out H) : BO Tryz.prog 106 [pW b] H (.tup [nd n, mss out]) := by
 obtain ⟨vl, vo, Hl, Ho, h1, h2, rfl⟩ := hw
 have hc := YY false n.log hl
 obtain ⟨p, c, rfl⟩ := h1.len
 obtain ⟨q, d, rfl⟩ := h2.len
 refine fe Tryz.func106 fun S0 w0 => ?_
 show Sim _ _ [(0, pW b)] _ _
 refine zC ?_
 apply cr
 refine Yt fun b2 _ => ?_
 refine s_ Qc <| zC ?_
 refine cr <| s_ Qa <| s_ Qa <| s_ Qe <| s_ Qd <| s_ Qd <| s_ Qn ?_
 refine O9 hc (Qg.cons (h1.lend (by intro p hp; simp [hp])) Qg.nil) OE.of ?_
 rintro r H1 ⟨v, rfl, ho⟩
 obtain ⟨p', c', rfl⟩ := ho.len
 refine QJ (List.perm_middle.trans (.cons _ List.perm_middle)) ?_
 refine s_ Qe <| s_ Qd <| s_ Qd <| QC ?_
 refine zC ?_
 refine zC ?_
 refine Ot 0 (.adr (.agg (wkD n out))) (I2 ho h2 (by intro p hp; simp [hp]) (by intro p hp; simp [hp]) List.mem_cons_self) ?_
 refine zC ?_
 refine ca [0, 1, 2, 3, 4, 5, 6, 7, 8, 9] [8] <| a_ (fun _ => Qa) <| a_ (fun _ => Qe) <| a_ (fun _ => DK) <| a_ (fun _ => Y6) <| a_ (fun _ => Qa) <| a_ (fun _ => Qe) <| a_ (fun _ => Qs) <| a_ (fun _ => Qm) <| XJ ?_
 refine a_ (fun _ => Qc) ?_
 apply an
 refine zC ?_
 refine zR ?_
 refine rt ?_
 exact Le.refl _
def XT (n : Nd) (to : Int) (m : Ms) : Ms := { m with frm := n.id, to := to, term := n.term }
theorem Jo {b : Nat} {n : Nd} {out : List Ms} {H : Qb} (to : Int) (m : Ms) (hb : out.length ≤ 1000) (hw : WkH b n out H) : FnH Tryz.prog 145 [pW b, ei to, ms m] H (fun r H' => r = .tup [] ∧ WkH b n (out ++ [XT n to m]) H') := by
 obtain ⟨vl, vo, Hl, Ho, h1, h2, rfl⟩ := hw
 obtain ⟨p, c, rfl⟩ := h1.len
 obtain ⟨q, d, rfl⟩ := h2.len
 refine fe Tryz.func145 fun S0 w0 => ?_
 show Sim _ _ [(0, pW b), (1, ei to), (2, T.agg (msC m (Y7 m.entries)))] _ _
 refine zC ?_
 apply cr
 refine XO fun b5 _ => ?_
 refine zC ?_
 refine ca [0, 1, 2, 3, 4, 5, 6, 7, 8, 9, 10, 11, 12, 13, 14, 15, 16] [12, 14, 16] <| a_ (fun _ => Qa) <| a_ (fun _ => Qe) <| a_ (fun _ => Qd) <| a_ (fun _ => Qd) <| QF ?_
 refine a_ (fun _ => Qa) <| a_ (fun _ => Qa) <| a_ (fun _ => Qe) <| a_ (fun _ => Qd) <| a_ (fun _ => Qd) <| QF ?_
 refine a_ (fun _ => Qd) <| XJ ?_
 refine a_ (fun _ => Qd) <| XJ ?_
 refine a_ (fun _ => Qd) <| XJ ?_
 apply an
 refine zC ?_
 refine zC ?_
 refine ca [0, 1, 2, 3, 4, 5, 6, 7, 8, 9, 10] [7, 10] <| a_ (fun _ => Qa) <| a_ (fun _ => Qa) <| a_ (fun _ => Qe) <| a_ (fun _ => Qd) <| QF ?_
 refine Yz ?_
 refine a_ (fun _ => J9) ?_
 refine Br (ho := h2) (A := _ :: _ :: Hl) (B := []) (R6 out) (fun v' Hs' h3 => ⟨zd, ?_⟩)
 refine zD ?_
 obtain ⟨q', d', rfl⟩ := h3.len
 refine a_ (fun _ => Qe) <| a_ (fun _ => Qd) <| XJ ?_
 apply an
 refine zC ?_
 exact rhn (.skip _ _ _ kR) ⟨rfl, _, _, Hl, Hs', h1, (by unfold OM; rw [List.map_append]; exact h3), rfl⟩ (Le.refl _)
def Z2 (n : Nd) (to : Int) : Ms := XT n to (if n.next.get to.toNat ≤ n.base then ⟨5, 0, 0, 0, n.base, n.baseTerm, 0, n.baseConf, false, [], n.snap⟩
 else ⟨3, 0, 0, 0, n.next.get to.toNat - 1, Ya n (n.next.get to.toNat - 1), n.commit, 0, false, (n.log.drop (min (n.next.get to.toNat - 1 - n.base) n.log.length).toNat).take 8, []⟩)
theorem five {to : Int} (h0 : 0 ≤ to) (h5 : to < 5) : to = 0 ∨ to = 1 ∨ to = 2 ∨ to = 3 ∨ to = 4 := by omega
theorem UV {n : Nd} {vl vo : Value} {to : Int} (h0 : 0 ≤ to) (h5 : to < 5) : (wkC n vl vo)[0 + 0 + 12 + to.toNat * 1]? = some (ei (n.next.get to.toNat)) := by
 rcases five h0 h5 with rfl | rfl | rfl | rfl | rfl <;> rfl
theorem Og {b : Nat} {n : Nd} {out : List Ms} {H : Qb} (to : Int) (h0 : 0 ≤ to) (h5 : to < 5) (hl : n.log.length ≤ 1000000000) (hb1 : -100000000000 ≤ n.base) (hb2 : n.base ≤ 100000000000) (hb3 : n.next.get to.toNat ≤ 100000000000) (hb : out.length ≤ 1000) (hw : WkH b n out H) :
  FnH Tryz.prog 105 [pW b, ei to] H (fun r H' => r = .tup [] ∧ WkH b n (out ++ [Z2 n to]) H') := by
 have hw' := hw
 obtain ⟨vl, vo, Hl, Ho, h1, h2, rfl⟩ := hw
 obtain ⟨p, c, rfl⟩ := h1.len
 obtain ⟨q, d, rfl⟩ := h2.len
 refine fe Tryz.func105 fun S0 w0 => ?_
 show Sim _ _ [(0, pW b), (1, ei to)] _ _
 refine zC ?_
 refine ca [0, 1, 2, 3, 4, 5, 6, 7, 8, 9, 10, 11, 12] [] <| a_ (fun _ => Qa) <| a_ (fun _ => Qa) <| a_ (fun _ => Qe) <| a_ (fun _ => Qd) <| a_ (fun _ => Qd) <| a_ (fun _ => ZQ) <| QF (hd := UV h0 h5) ?_
 refine a_ (fun _ => Qa) <| a_ (fun _ => Qe) <| a_ (fun _ => Qd) <| a_ (fun _ => Qd) <| QF ?_
 refine a_ (fun _ => Of) ?_
 apply an
 refine zC ?_
 refine ci ?_ ?_
 ·intro hc
  refine zC ?_
  refine ca [0, 1, 2, 3, 4, 5, 6, 7, 8, 9, 10, 11, 12, 13, 14, 15, 16, 17, 18, 19, 20, 21, 22, 23] [23] <| a_ (fun _ => Qa) <| a_ (fun _ => Qa) <| a_ (fun _ => Qa) <| a_ (fun _ => Qe) <| a_ (fun _ => Qd) <| a_ (fun _ => Qd) <| QF ?_
  refine a_ (fun _ => Qa) <| a_ (fun _ => Qe) <| a_ (fun _ => Qd) <| a_ (fun _ => Qd) <| QF ?_
  refine a_ (fun _ => Qa) <| a_ (fun _ => Qe) <| a_ (fun _ => Qd) <| a_ (fun _ => Qd) <| QF ?_
  refine a_ (fun _ => Qa) <| a_ (fun _ => Qe) <| a_ (fun _ => Qd) <| a_ (fun _ => Qd) <| QF ?_
  refine a_ (fun _ => ZA 11 [_, _, _, _, _, _, _, _, _, _, _]) ?_
  refine ID (FnH.of_le ?_ (Jo to ⟨5, 0, 0, 0, n.base, n.baseTerm, 0, n.baseConf, false, [], n.snap⟩ hb hw')) (fun r H' ⟨hr, h3⟩ => ⟨zd, ?_⟩)
  ·exact zM
  ·refine zD ?_
   subst hr
   apply an
   refine zC ?_
   refine zR ?_
   refine rh kR ⟨rfl, ?_⟩ (Le.refl _)
   rw [Z2, if_pos hc]
   exact h3
 ·intro hc
  have ht := UT n (n.next.get to.toNat - 1) hl (by simp only [big]; omega) (by simp only [big]; omega) (by simp only [big]; omega) (by simp only [big]; omega)
  refine zC ?_
  refine cr <| s_ Qa <| s_ Qa <| s_ Qe <| s_ Qd <| s_ Qd <| s_ ZQ <| s_ (Qn (hd := UV h0 h5)) <| s_ ZP <| s_ Qc <| zC ?_
  refine zC ?_
  refine ca [0, 1, 2, 3, 4, 5, 6, 7, 8, 9, 10, 11, 12, 13, 14, 15, 16, 17, 18, 19, 20] [] <| a_ (fun _ => Qa) <| a_ (fun _ => Qe) <| a_ (fun _ => Qd) <| a_ (fun _ => Qd) <| QF ?_
  refine a_ (fun _ => Qa) <| a_ (fun _ => Qa) <| a_ (fun _ => Qe) <| a_ (fun _ => Qd) <| a_ (fun _ => Qd) <| QF ?_
  refine a_ (fun _ => ZP) <| a_ (fun _ => Qa) <| a_ (fun _ => Qe) <| a_ (fun _ => Qd) <| a_ (fun _ => Qd) <| QF ?_
  (first | refine a_ (fun _ => QR) ?_ | refine a_ (fun _ => QP) ?_)
  refine a_ (fun _ => WZ) ?_
  obtain ⟨m, hm⟩ : ∃ m : Nat, (m : Int) = min (n.next.get to.toNat - 1 - n.base) ((n.log.map een).length : Nat) := ⟨(min (n.next.get to.toNat - 1 - n.base) ((n.log.map een).length : Nat)).toNat, by omega⟩
  have hml : m ≤ n.log.length := by simp only [List.length_map] at hm; omega
  have hs5 := (h1.sle (G := (b, ⟨tW, wkC n (.slice p (n.log.map een).length c) (.slice q (out.map ms).length d), 23⟩) :: (Hl ++ (Ho ++ []))) (by intro p hp; simp [hp]))
  have hs5' := SlE.sub hs5 (lo := m) (hi := n.log.length) hml (Nat.le_refl _)
  rw [List.take_of_length_le (by simp)] at hs5'
  obtain ⟨p5, c5, e5, hc5, hl5⟩ := hs5'
  rw [← hm]
  refine a_ (fun _ => Oc (i := (m : Int)) (p := p) (n := (n.log.map een).length) (c := c) h1.cap (by simp only [List.length_map, Int.toNat_natCast]; exact e5)) <| a_ (fun _ => Qc) ?_
  apply an
  refine zC ?_
  refine zC ?_
  refine zC ?_
  refine ca [0, 1, 2, 3, 4, 5, 6, 7, 8, 9, 10, 11, 12, 14, 15, 16, 17, 18, 13, 19, 20] [13, 20] <| a_ (fun _ => Qa) <| a_ (fun _ => Qa) <| a_ (fun _ => Qa) <| a_ (fun _ => Qa) <| a_ (fun _ => Qe) <| a_ (fun _ => Qd) <| a_ (fun _ => Qa) ?_
  refine CG (G := (b, _) :: (Hl ++ (Ho ++ []))) ht (Qg.cons (W4 h1 (by intro p hp; simp [hp]) List.mem_cons_self) (Qg.cons (Qz.le (Le.refl _)) Qg.nil)) ⟨[], UF⟩ ?_
  refine a_ (fun _ => Qa) <| a_ (fun _ => Qa) ?_
  (first | refine a_ (fun _ => QR) ?_ | refine a_ (fun _ => QP) ?_)
  refine a_ (fun _ => WZ) ?_
  obtain ⟨k, hk⟩ : ∃ k : Nat, (k : Int) = min (((n.log.drop m).length : Nat) : Int) 8 := ⟨min (n.log.drop m).length 8, by omega⟩
  have hs6 := SlE.sub ⟨p5, c5, rfl, hc5, e5 ▸ hl5⟩ (lo := 0) (hi := k) (Nat.zero_le _) (by omega)
  simp only [List.drop_zero, Nat.sub_zero] at hs6
  obtain ⟨p6, c6, e6, hc6, hl6⟩ := hs6
  rw [← hk]
  refine a_ (fun _ => DJ (j := (k : Int)) (p := p5) (n := (n.log.drop m).length) (c := c5) hc5 (by simp only [Int.toNat_natCast]; exact e6)) <| a_ (fun _ => Qa) <| a_ (fun _ => Qe) <| a_ (fun _ => Qd) <| a_ (fun _ => Qd) <| QF ?_
  refine Bs (YY false ((n.log.drop m).take k) (by simp; omega)) (Qg.cons (e6 ▸ hl6) Qg.nil) ⟨[], UF⟩ OE.of ?_
  rintro r H1 ⟨v, rfl, ho⟩
  obtain ⟨p7, c7, rfl⟩ := ho.len
  refine ⟨zd, ?_⟩
  refine zD ?_
  refine a_ (fun _ => ZA 11 [_, _, _, _, _, _, _, _, _, _, _]) ?_
  refine ID (FnH.lend (G := H1) ?_ (Jo to ⟨3, 0, 0, 0, n.next.get to.toNat - 1, Ya n (n.next.get to.toNat - 1), n.commit, 0, false, (n.log.drop m).take k, []⟩ hb hw')) (fun r H' ⟨hr, h3⟩ => ⟨zd, ?_⟩)
  ·refine Qg.cons (Qz.le (Le.refl _)) (Qg.cons (Qz.le (Le.refl _)) (Qg.cons (Qz.agg ?_) Qg.nil))
   repeat (first | exact Qg.nil | (refine Qg.cons (Qz.le (Le.refl _)) ?_) | (refine Qg.cons (ho.lend fun _ h => h) ?_))
  ·refine zD ?_
   subst hr
   apply an
   refine zC ?_
   refine rhn kR ⟨rfl, ?_⟩ (Le.refl _)
   have e1 : (min (n.next.get to.toNat - 1 - n.base) (n.log.length : Int)).toNat = m := by simp only [List.length_map] at hm; omega
   have e2 : (n.log.drop m).take 8 = (n.log.drop m).take k := by
    rw [List.take_eq_take_iff]; omega
   rw [Z2, if_neg hc, e1, e2]
   exact h3
end Go.Proofs.YtjbokbikkcfjjaaGreat
