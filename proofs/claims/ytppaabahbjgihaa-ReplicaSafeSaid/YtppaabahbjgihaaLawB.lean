/-
  The laws' own small functions: one that leads.
-/
import Derived.Test.YtppaabahbjgihaaLaw
set_option maxRecDepth 4000
namespace Go.Proofs.Ytppaabahbjgihaa
open Go.Cap
set_option linter.unusedSimpArgs false
set_option linter.unusedVariables false
attribute [local irreducible] POp SimFrom DrawFrom EOp Sim FnH T.gp
def voM (f : Int) : Ms := ⟨2, f, 0, 1, 0, 0, 0, 0, true, [], []⟩
def cand : Nd := standN (waitN (newF 0 31) 5)
def ask31 (to : Int) : Ms := sendF cand to (askM 0 0)
def ch (k : Nat) : List UInt8 := [UInt8.ofNat (97 + k)]
def ledP (k : Nat) : Nd := ⟨0, 1, 0, 0, 0, 31, [], ⟨1, 0, []⟩ :: (List.range k).map (fun i => ⟨1, 0, ch i⟩), 0, 2, 0, 7, .all 1, ⟨k + 1, 0, 0, 0, 0⟩⟩
def atN : Nat → Nd
  | 1 => cand
  | 2 => { cand with votes := 3 }
  | _ => ledP 0
theorem lead_tick : ∀ k : Fin 4, tickF (waitN (newF 0 31) (k.val : Nat)) = (waitN (newF 0 31) ((k.val + 1 : Nat) : Int), []) := by decide +kernel
theorem lead_five : tickF (waitN (newF 0 31) 4) = (cand, [ask31 1, ask31 2, ask31 3, ask31 4]) := by decide +kernel
theorem lead_one : takeF cand (voM 1) = (atN 2, []) := by decide +kernel
theorem lead_two : (takeF (atN 2) (voM 2)).1 = ledP 0 := by decide +kernel
theorem lead_put : ∀ k : Fin 8, propF (ledP k.val) (ch k.val) = (ledP (k.val + 1), ((k.val + 2 : Nat) : Int), 0) := by decide +kernel
theorem f5_all {p : Int → Prop} {f : F5} (ha : p f.a) (hb : p f.b) (hc : p f.c) (hd : p f.d) (he : p f.e) (i : Nat) : p (f.get i) := by
  unfold F5.get
  split <;> assumption
theorem bd31 {n : Nd} (h1 : n.id = 0) (h2 : n.base = 0) (h3 : n.log.length ≤ 100000000) (h4 : (confF n).2 = 31) : Bd n := ⟨by omega, by omega, h3, by omega, by omega, by omega, by omega⟩
theorem cand_bd : Bd cand := bd31 rfl rfl (by decide) rfl
theorem cand2_bd : Bd (atN 2) := bd31 rfl rfl (by decide) rfl
theorem atN_nbd : ∀ k : Nat, 1 ≤ k → k < 3 → NBd (atN k) := by
  intro k h1 h2
  rcases (by omega : k = 1 ∨ k = 2) with rfl | rfl
  · exact ⟨by decide, by decide, by decide, fun i => f5_all (p := fun x => -100000000000 ≤ x) (by decide) (by decide) (by decide) (by decide) (by decide) i, fun i => f5_all (p := fun x => x ≤ 50000000000) (by decide) (by decide) (by decide) (by decide) (by decide) i,
      fun i => f5_all (p := fun x => -100000000000 ≤ x) (by decide) (by decide) (by decide) (by decide) (by decide) i, fun i => f5_all (p := fun x => x ≤ 50000000000) (by decide) (by decide) (by decide) (by decide) (by decide) i⟩
  · exact ⟨by decide, by decide, by decide, fun i => f5_all (p := fun x => -100000000000 ≤ x) (by decide) (by decide) (by decide) (by decide) (by decide) i, fun i => f5_all (p := fun x => x ≤ 50000000000) (by decide) (by decide) (by decide) (by decide) (by decide) i,
      fun i => f5_all (p := fun x => -100000000000 ≤ x) (by decide) (by decide) (by decide) (by decide) (by decide) i, fun i => f5_all (p := fun x => x ≤ 50000000000) (by decide) (by decide) (by decide) (by decide) (by decide) i⟩
theorem ledP_conf : ∀ k : Fin 9, confF (ledP k.val) = (0, 31) := by decide +kernel
theorem ledP_bd {k : Nat} (hk : k ≤ 8) : Bd (ledP k) := bd31 rfl rfl (by simp [ledP]; omega) (by rw [ledP_conf ⟨k, by omega⟩])
def nB : TypeId := 29
def pN (b : Nat) : T := .v (.pointer (some ⟨b, 0, none⟩))
set_option maxHeartbeats 2000000 in
theorem lead_fn0 (cmds : Int) (h0 : 0 ≤ cmds) (h1 : cmds ≤ 8) : FnP Try.prog 19 [ei 0, ei cmds] (fun r => r = nd (ledP cmds.toNat)) := by
  have hb := new_bd (id := 0) (conf := 31) (by omega) (by omega) (by omega) (by omega)
  have hN := new_fn' 0 31 (by omega) (by omega) (by omega) (by omega)
  have hx : ∀ i, (newF 0 31).next.get i ≤ 100000000000 := fun i => by rw [show (newF 0 31).next = .all 0 from rfl, F5.get_all]; omega
  refine fn_enter Try.func19 (by rfl) (by rfl) ?_
  intro S0 w0
  show Sim _ _ [(0, ei 0), (1, ei cmds)] _ _
  (repeat (first | apply cn | apply cq | apply cb | apply ck | apply cl | apply cx))
  apply cr
  refine e_al fun b4 _ => ?_
  (repeat (first | apply cn | apply cq | apply cb | apply ck | apply cl | apply cx))
  apply cr
  refine s_ p_mv ?_
  refine s_ (p_ca (hN)) ?_
  refine e_al fun b5 _ => ?_
  refine e_st ?_
  (repeat (first | apply cn | apply cq | apply cb | apply ck | apply cl | apply cx))
  apply cr
  refine s_ p_as ?_
  (repeat (first | apply cn | apply cq | apply cb | apply ck | apply cl | apply cx))
  apply sim_loopL (σ := Nat) (ok := fun k => k ≤ 5) (env := fun k => [(6, ei (k : Nat)), (5, pN b5), (4, pN b4), (1, ei cmds)]) (heap := fun k => [(b5, ⟨nB, nodeC (if k = 5 then cand else waitN (newF 0 31) (k : Nat)) (.sl false (([] : List En).map een)), 22⟩), (b4, ⟨nB, nodeC zeroN (.v (.slice none 0 0)), 22⟩)]) (μ := fun k => 5 - k) (s0 := 0)
  · exact Nat.zero_le _
  · exact eL
  · exact kK kR (node_le0 _) (by rfl)
  · intro k hk
    by_cases hk5 : k = 5
    · subst hk5
      rw [if_pos rfl]
      have hci : cand.id = 0 := rfl
      (repeat (first | apply cn | apply cq | apply cb | apply ck | apply cl | apply cx))
      apply cr
      refine s_ p_mv ?_
      refine s_ p_fr ?_
      refine s_ p_lo ?_
      refine s_ p_mu ?_
      refine s_ p_ad ?_
      refine s_ p_lt ?_
      (repeat (first | apply cn | apply cq | apply cb | apply ck | apply cl | apply cx))
      refine ci ?_ ?_
      · intro h
        exact absurd h (by decide)
      intro _
      (repeat (first | apply cn | apply cq | apply cb | apply ck | apply cl | apply cx))
      apply cr
      refine s_ p_as ?_
      (repeat (first | apply cn | apply cq | apply cb | apply ck | apply cl | apply cx))
      apply sim_loopL (σ := Nat) (ok := fun k => 1 ≤ k ∧ k ≤ 3) (env := fun k => [(7, ei (k : Nat)), (5, pN b5), (4, pN b4), (1, ei cmds)]) (heap := fun k => [(b5, ⟨nB, nodeC (atN k) (eens (atN k).log), 22⟩), (b4, ⟨nB, nodeC zeroN (.v (.slice none 0 0)), 22⟩)]) (μ := fun k => 3 - k) (s0 := 1)
      · exact ⟨by decide, by decide⟩
      · exact eL
      · exact kR
      · rintro k ⟨hk1, hk3⟩
        (repeat (first | apply cn | apply cq | apply cb | apply ck | apply cl | apply cx))
        apply cr
        refine s_ p_mv ?_
        refine s_ p_lt ?_
        (repeat (first | apply cn | apply cq | apply cb | apply ck | apply cl | apply cx))
        refine ci ?_ ?_
        · intro hlt
          rcases (by omega : k = 1 ∨ k = 2) with rfl | rfl
          · have hia : (atN 1).id = 0 := rfl
            have ht := take_fn (n := atN 1) (m := voM 1) cand_bd (atN_nbd 1 (by decide) (by decide)) (.inr ⟨by decide, by decide, by decide⟩)
            rw [show takeF (atN 1) (voM 1) = (atN 2, []) from lead_one] at ht
            (repeat (first | apply cn | apply cq | apply cb | apply ck | apply cl | apply cx))
            apply cr
            refine s_ p_loa ?_
            refine s_ p_fr ?_
            refine s_ p_lo ?_
            refine s_ p_mv ?_
            refine s_ p_ad ?_
            refine s_ p_re ?_
            refine s_ p_fr ?_
            refine s_ p_lo ?_
            refine s_ (p_bd 11 [_, _, _, _, _, _, _, _, _, _, _]) ?_
            refine s_ (p_cl (ht)) ?_
            refine s_ p_mv ?_
            refine s_ p_ex ?_
            refine s_ p_ex ?_
            refine e_st ?_
            (repeat (first | apply cn | apply cq | apply cb | apply ck | apply cl | apply cx))
            apply cr
            refine s_ p_mv ?_
            refine s_ p_ad ?_
            refine s_ p_as ?_
            (repeat (first | apply cn | apply cq | apply cb | apply ck | apply cl | apply cx))
            exact ⟨2, by decide, by decide, ⟨le_get (by rfl) (Le.refl _), eL⟩, kR⟩
          · have hia : (atN 2).id = 0 := rfl
            have ht := take_fn (n := atN 2) (m := voM 2) cand2_bd (atN_nbd 2 (by decide) (by decide)) (.inr ⟨by decide, by decide, by decide⟩)
            rw [lead_two] at ht
            (repeat (first | apply cn | apply cq | apply cb | apply ck | apply cl | apply cx))
            apply cr
            refine s_ p_loa ?_
            refine s_ p_fr ?_
            refine s_ p_lo ?_
            refine s_ p_mv ?_
            refine s_ p_ad ?_
            refine s_ p_re ?_
            refine s_ p_fr ?_
            refine s_ p_lo ?_
            refine s_ (p_bd 11 [_, _, _, _, _, _, _, _, _, _, _]) ?_
            refine s_ (p_cl (ht)) ?_
            refine s_ p_mv ?_
            refine s_ p_ex ?_
            refine s_ p_ex ?_
            refine e_st ?_
            (repeat (first | apply cn | apply cq | apply cb | apply ck | apply cl | apply cx))
            apply cr
            refine s_ p_mv ?_
            refine s_ p_ad ?_
            refine s_ p_as ?_
            (repeat (first | apply cn | apply cq | apply cb | apply ck | apply cl | apply cx))
            exact ⟨3, by decide, by decide, ⟨le_get (by rfl) (Le.refl _), eL⟩, kR⟩
        · intro hlt
          have : k = 3 := by omega
          subst this
          obtain ⟨c, rfl⟩ : ∃ c : Nat, cmds = (c : Int) := ⟨cmds.toNat, by omega⟩
          (repeat (first | apply cn | apply cq | apply cb | apply ck | apply cl | apply cx))
          apply cr
          refine s_ p_as ?_
          (repeat (first | apply cn | apply cq | apply cb | apply ck | apply cl | apply cx))
          apply sim_loopL (σ := Nat) (ok := fun k => k ≤ c) (env := fun k => [(8, ei (k : Nat)), (5, pN b5), (4, pN b4), (1, ei c)]) (heap := fun k => [(b5, ⟨nB, nodeC (ledP k) (eens (ledP k).log), 22⟩), (b4, ⟨nB, nodeC zeroN (.v (.slice none 0 0)), 22⟩)]) (μ := fun k => c - k) (s0 := 0)
          · exact Nat.zero_le _
          · exact eL
          · exact kR
          · intro k hk
            (repeat (first | apply cn | apply cq | apply cb | apply ck | apply cl | apply cx))
            apply cr
            refine s_ p_mv ?_
            refine s_ p_mv ?_
            refine s_ p_lt ?_
            (repeat (first | apply cn | apply cq | apply cb | apply ck | apply cl | apply cx))
            refine ci ?_ ?_
            · intro hlt
              have hkc : k < c := by omega
              have hch : IntKind.u8.wrap (97 + (k : Int)) = ((UInt8.ofNat (97 + k)).toNat : Int) := by
                have key : ∀ i : Fin 8, IntKind.u8.wrap (97 + ((i.val : Nat) : Int)) = ((UInt8.ofNat (97 + i.val)).toNat : Int) := by decide
                exact key ⟨k, by omega⟩
              have ht := prop_fn (n := ledP k) (ch k) (ledP_bd (by omega)) (by simp [ledP]; omega)
              rw [lead_put ⟨k, by omega⟩] at ht
              (repeat (first | apply cn | apply cq | apply cb | apply ck | apply cl | apply cx))
              apply cr
              refine s_ p_loa ?_
              refine s_ p_mv ?_
              refine s_ p_ad ?_
              refine s_ p_cv ?_
              rw [hch]
              refine s_ p_bs ?_
              refine s_ (p_st (l := ch k)) ?_
              refine s_ (p_cl (ht)) ?_
              refine s_ p_mv ?_
              refine s_ p_ex ?_
              refine s_ p_ex ?_
              refine s_ p_ex ?_
              refine e_st ?_
              (repeat (first | apply cn | apply cq | apply cb | apply ck | apply cl | apply cx))
              apply cr
              refine s_ p_mv ?_
              refine s_ p_ad ?_
              refine s_ p_as ?_
              (repeat (first | apply cn | apply cq | apply cb | apply ck | apply cl | apply cx))
              exact ⟨k + 1, hkc, by show c - (k + 1) < c - k; omega, ⟨le_get (by rfl) (Le.refl _), eL⟩, kR⟩
            · intro hlt
              have : k = c := by omega
              subst this
              (repeat (first | apply cn | apply cq | apply cb | apply ck | apply cl | apply cx))
              apply cr
              refine s_ p_loa ?_
              refine e_st ?_
              (repeat (first | apply cn | apply cq | apply cb | apply ck | apply cl | apply cx))
              (apply sim_ret; (try simp only [blockΨ_ret, thenΨ_ret, loopL_ret, cutΨ_ret, cutE_ret]); first | refine rt ?_ | refine rn ?_)
              rw [Int.toNat_natCast]
              exact Le.refl _
    · rw [if_neg hk5]
      have hci : (waitN (newF 0 31) (k : Nat)).id = 0 := rfl
      (repeat (first | apply cn | apply cq | apply cb | apply ck | apply cl | apply cx))
      apply cr
      refine s_ p_mv ?_
      refine s_ p_fr ?_
      refine s_ p_lo ?_
      refine s_ p_mu ?_
      refine s_ p_ad ?_
      refine s_ p_lt ?_
      (repeat (first | apply cn | apply cq | apply cb | apply ck | apply cl | apply cx))
      refine ci ?_ ?_
      · intro _
        by_cases hk4 : k = 4
        · subst hk4
          have ht := tick_fn (n := waitN (newF 0 31) 4) hb.of (by simp [waitN, newF]) (by simp [waitN, newF]) (by simp [waitN, newF]) (by simp only [waitN]; omega) (by simp only [waitN]; omega) hx
          rw [lead_five] at ht
          (repeat (first | apply cn | apply cq | apply cb | apply ck | apply cl | apply cx))
          apply cr
          refine s_ p_loa ?_
          refine s_ (p_cl (ht)) ?_
          refine s_ p_mv ?_
          refine s_ p_ex ?_
          refine s_ p_ex ?_
          refine e_st ?_
          (repeat (first | apply cn | apply cq | apply cb | apply ck | apply cl | apply cx))
          apply cr
          refine s_ p_mv ?_
          refine s_ p_ad ?_
          refine s_ p_as ?_
          (repeat (first | apply cn | apply cq | apply cb | apply ck | apply cl | apply cx))
          refine ⟨5, by decide, by decide, ⟨le_get (by rfl) (Le.refl _), eL⟩, ?_⟩
          exact kR
        · have hk4 : k < 4 := by omega
          have ht := tick_fn (n := waitN (newF 0 31) (k : Nat)) hb.of (by simp [waitN, newF]) (by simp [waitN, newF]) (by simp [waitN, newF]) (by simp only [waitN]; omega) (by simp only [waitN]; omega) hx
          rw [lead_tick ⟨k, hk4⟩] at ht
          (repeat (first | apply cn | apply cq | apply cb | apply ck | apply cl | apply cx))
          apply cr
          refine s_ p_loa ?_
          refine s_ (p_cl (ht)) ?_
          refine s_ p_mv ?_
          refine s_ p_ex ?_
          refine s_ p_ex ?_
          refine e_st ?_
          (repeat (first | apply cn | apply cq | apply cb | apply ck | apply cl | apply cx))
          apply cr
          refine s_ p_mv ?_
          refine s_ p_ad ?_
          refine s_ p_as ?_
          (repeat (first | apply cn | apply cq | apply cb | apply ck | apply cl | apply cx))
          refine ⟨k + 1, by omega, by show 5 - (k + 1) < 5 - k; omega, ⟨le_get (by rfl) (Le.refl _), eL⟩, ?_⟩
          dsimp only
          rw [if_neg (show ¬ k + 1 = 5 by omega)]
          exact kR
      · intro h
        exfalso
        have h' : ¬ (k : Int) < 5 + 3 * 0 := h
        omega
theorem zero_nbd {n : Nd} (hl : n.log.length < 100000000) (hv : n.votes = 0) (hx : n.next = .all 0) (hm : n.mtch = .all 0) : NBd n :=
  ⟨hl, by omega, by omega, fun i => by rw [hx, F5.get_all]; omega, fun i => by rw [hx, F5.get_all]; omega, fun i => by rw [hm, F5.get_all]; omega, fun i => by rw [hm, F5.get_all]; omega⟩
theorem voteF_keeps (n : Nd) (m : Ms) : (voteF n m).id = n.id ∧ (voteF n m).term = n.term ∧ (voteF n m).log = n.log ∧ (voteF n m).votes = n.votes ∧ (voteF n m).next = n.next ∧ (voteF n m).mtch = n.mtch ∧ (voteF n m).base = n.base ∧ (voteF n m).baseTerm = n.baseTerm ∧ (voteF n m).vote = if yesF n m then m.frm else n.vote := by
  unfold voteF
  by_cases h : yesF n m <;> simp [h]
end Go.Proofs.Ytppaabahbjgihaa
