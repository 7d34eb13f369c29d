/-
  ReplicaCommits: an entry of the leader's own term is committed as soon as most members have it; not sooner.
-/
import Derived.Test.YtppaabahbjgihaaQuiet
set_option maxRecDepth 4000
namespace Go.Proofs.Ytppaabahbjgihaa
open Go.Cap
set_option linter.unusedSimpArgs false
set_option linter.unusedVariables false
attribute [local irreducible] POp SimFrom DrawFrom EOp Sim FnH T.gp
/-- How many of the first p hold an index. -/
def cntK (a : F5) (j : Int) : Nat → Int
  | 0 => 0
  | p + 1 => cntK a j p + if j ≤ a.get p then 1 else 0
def wantF (a : F5) : Nat → Int
  | 0 => 0
  | j + 1 => if 3 ≤ cntK a (j + 1 : Nat) 5 then ((j + 1 : Nat) : Int) else wantF a j
theorem cntK_bd (a : F5) (j : Int) : ∀ p, 0 ≤ cntK a j p ∧ cntK a j p ≤ p
  | 0 => by simp [cntK]
  | p + 1 => by
    have := cntK_bd a j p
    rw [cntK]; split <;> omega
theorem most_cnt (a : F5) (j : Int) : mostF 31 (someF a j 5) = true ↔ 3 ≤ cntK a j 5 := by
  simp only [someF, cntK, F5.get]
  by_cases h1 : j ≤ a.a <;> by_cases h2 : j ≤ a.b <;> by_cases h3 : j ≤ a.c <;> by_cases h4 : j ≤ a.d <;> by_cases h5 : j ≤ a.e <;> simp only [h1, h2, h3, h4, h5, if_true, if_false] <;> decide
theorem wantF_le (a : F5) : ∀ j, 0 ≤ wantF a j ∧ wantF a j ≤ j
  | 0 => by simp [wantF]
  | j + 1 => by
    have := wantF_le a j
    rw [wantF]; split <;> omega
theorem wantF_succ (a : F5) (j : Nat) : wantF a j ≤ wantF a (j + 1) := by
  have := wantF_le a j
  rw [wantF]; split <;> omega
theorem cntK_mono {a b : F5} (h : ∀ i, a.get i ≤ b.get i) (j : Int) : ∀ p, cntK a j p ≤ cntK b j p
  | 0 => Int.le_refl _
  | p + 1 => by
    have := cntK_mono h j p
    have := h p
    rw [cntK, cntK]; split <;> split <;> omega
theorem wantF_mono {a b : F5} (h : ∀ i, a.get i ≤ b.get i) : ∀ j, wantF a j ≤ wantF b j
  | 0 => Int.le_refl _
  | j + 1 => by
    have h1 := wantF_mono h j
    have h2 := wantF_succ b j
    have h3 := cntK_mono h ((j + 1 : Nat) : Int) 5
    by_cases hc : 3 ≤ cntK a ((j + 1 : Nat) : Int) 5
    · rw [wantF, wantF, if_pos hc, if_pos (by omega)]; exact Int.le_refl _
    · rw [wantF, if_neg hc]; omega
/-- The leader behind some answers. -/
def comN (c : Nat) (a nx : F5) (cm : Int) : Nd := { ledP c with mtch := a, next := nx, commit := cm }
theorem comN_conf (c : Nat) (hc : c ≤ 8) (a nx : F5) (cm : Int) : confF (comN c a nx cm) = (0, 31) := by
  rw [← ledP_conf ⟨c, by omega⟩]; rfl
theorem ledP_term (c : Nat) : ∀ k, k < (ledP c).log.length → ((ledP c).log.getD k default).term = 1 := by
  intro k hk
  have h : ∀ e ∈ (ledP c).log, e.term = 1 := by
    intro e he
    simp only [ledP, List.mem_cons, List.mem_map] at he
    rcases he with rfl | ⟨i, _, rfl⟩ <;> rfl
  rw [List.getD_eq_getElem?_getD, List.getElem?_eq_getElem hk]
  exact h _ (List.getElem_mem _)
theorem ledP_len (c : Nat) : (ledP c).log.length = c + 1 := by simp [ledP]
theorem com_cmt (c : Nat) (a nx : F5) {cm : Int} (h0 : 0 ≤ cm) : ∀ k, k ≤ c + 1 → cmtF (comN c a nx cm) 31 k = max cm (wantF a k)
  | 0, _ => by
    show cm = max cm 0
    omega
  | k + 1, hk => by
    have ih := com_cmt c a nx h0 k (by omega)
    have hw := wantF_le a k
    have ht : ((comN c a nx cm).log.getD k default).term = (comN c a nx cm).term := ledP_term c k (by rw [ledP_len]; omega)
    have e : (comN c a nx cm).base + (k : Int) + 1 = ((k + 1 : Nat) : Int) := by show (0 : Int) + k + 1 = _; omega
    rw [cmtF, ih, wantF, e]
    by_cases hc : 3 ≤ cntK a ((k + 1 : Nat) : Int) 5
    · rw [if_pos ⟨ht, (most_cnt a _).2 hc⟩, if_pos hc]; omega
    · rw [if_neg (fun h => hc ((most_cnt a _).1 h.2)), if_neg hc]
theorem com_commit (c : Nat) (hc : c ≤ 8) (a nx : F5) {cm : Int} (h0 : 0 ≤ cm) : commitF (comN c a nx cm) = comN c a nx (max cm (wantF a (c + 1))) := by
  have h1 := com_cmt c a nx h0 (c + 1) (Nat.le_refl _)
  have hl : (comN c a nx cm).log.length = c + 1 := ledP_len c
  rw [commitF, comN_conf c hc, hl, h1, if_neg (by intro h; exact h.1 (show isF 31 0 = true by decide))]
  rfl
theorem f5_up (a : F5) {f : Int} (h0 : 0 ≤ f) (h5 : f < 5) {v : Int} (hv : a.get f.toNat ≤ v) (i : Nat) : a.get i ≤ (a.set f.toNat v).get i := by
  rcases five h0 h5 with rfl | rfl | rfl | rfl | rfl <;> simp only [F5.get, F5.set, Int.toNat] at hv ⊢ <;> split <;> simp_all
theorem f5_bd (a : F5) {f : Int} (h0 : 0 ≤ f) (h5 : f < 5) {p : Int → Prop} {v : Int} (hv : p v) (h : ∀ i, p (a.get i)) (i : Nat) : p ((a.set f.toNat v).get i) := by
  have ha := h 0
  have hb := h 1
  have hc := h 2
  have hd := h 3
  have he := h 4
  refine f5_all ?_ ?_ ?_ ?_ ?_ i <;> rcases five h0 h5 with rfl | rfl | rfl | rfl | rfl <;> first | exact hv | exact ha | exact hb | exact hc | exact hd | exact he
def okM (f k : Int) : Ms := ⟨4, f, 0, 1, k, 0, 0, 0, true, [], []⟩
/-- One more answer. -/
theorem com_take (c : Nat) (hc : c ≤ 8) (a nx : F5) {f k : Int} (h1 : 1 ≤ f) (h5 : f < 5) : takeF (comN c a nx (wantF a (c + 1))) (okM f k) = (comN c (a.set f.toNat (max (a.get f.toNat) k)) (nx.set f.toNat (max (a.get f.toNat) k + 1)) (wantF (a.set f.toNat (max (a.get f.toNat) k)) (c + 1)), []) := by
  have hb : ¬ badF (comN c a nx (wantF a (c + 1))) (okM f k) := by
    unfold badF okM
    show ¬ ((((f < 0 ∨ 5 ≤ f) ∨ f = 0) ∨ ¬ (0 : Int) = 0) ∨ ((((4 : Int) < 1 ∨ (5 : Int) < 4) ∨ (1 : Int) < 0) ∨ 1073741824 < (1 : Int)))
    omega
  have hu : upN (comN c a nx (wantF a (c + 1))) (okM f k) = comN c a nx (wantF a (c + 1)) := by rw [upN, if_neg (by show ¬ (1 : Int) < 1; omega)]
  have h0 := (wantF_le a (c + 1)).1
  have hm := wantF_mono (f5_up a (f := f) (by omega) h5 (v := max (a.get f.toNat) k) (by omega)) (c + 1)
  rw [takeF, if_neg hb, hu, actF, if_neg (by show ¬ (4 : Int) = 1; decide), if_neg (by show ¬ (4 : Int) = 2; decide), if_neg (by show ¬ (4 : Int) = 3; decide), if_pos (by rfl), heardF,
    if_neg (by show ¬ (¬ (1 : Int) = 1 ∨ ¬ (2 : Int) = 2); decide), if_pos (by rfl)]
  have e : agreeN (comN c a nx (wantF a (c + 1))) (okM f k) = comN c (a.set f.toNat (max (a.get f.toNat) k)) (nx.set f.toNat (max (a.get f.toNat) k + 1)) (wantF a (c + 1)) := rfl
  rw [e, com_commit c hc _ _ h0]
  rw [Int.max_eq_right hm]
theorem f5_atI (a : F5) {f : Int} (h0 : 0 ≤ f) (h5 : f < 5) : (f5C a)[0 + f.toNat * 1]? = some (ei (a.get f.toNat)) := by
  rcases five h0 h5 with rfl | rfl | rfl | rfl | rfl <;> rfl
theorem lay_f5 (a : F5) {f : Int} (h0 : 0 ≤ f) (h5 : f < 5) (v : Int) : lay (f5C a) (0 + f.toNat * 1) (T.v (.int .i64 v)).cells = f5C (a.set f.toNat v) := by
  rcases five h0 h5 with rfl | rfl | rfl | rfl | rfl <;> rfl
theorem node_next (n : Nd) (lg : T) {f : Int} (h0 : 0 ≤ f) (h5 : f < 5) : (nodeC n lg)[0 + 12 + f.toNat * 1]? = some (ei (n.next.get f.toNat)) := by
  rcases five h0 h5 with rfl | rfl | rfl | rfl | rfl <;> rfl
theorem node_mtch (n : Nd) (lg : T) {f : Int} (h0 : 0 ≤ f) (h5 : f < 5) : (nodeC n lg)[0 + 17 + f.toNat * 1]? = some (ei (n.mtch.get f.toNat)) := by
  rcases five h0 h5 with rfl | rfl | rfl | rfl | rfl <;> rfl
theorem wantF_one (x : Int) : ∀ j, wantF ⟨x, 0, 0, 0, 0⟩ j = 0
  | 0 => rfl
  | j + 1 => by
    rw [wantF, if_neg, wantF_one x j]
    have h1 : ¬ ((j + 1 : Nat) : Int) ≤ 0 := by omega
    simp only [cntK, F5.get, if_neg h1]
    split <;> omega
set_option maxHeartbeats 4000000 in
theorem commits_fn (cmds0 : Int) (has : List Int) (_hl : has.length ≤ 9223372036854775807) : FnP Try.prog 5 [ei cmds0, .sl false (has.map ei)] (fun r => r = .v (.bool true)) := by
  have hk := known_fn
  have hw1 := within_fn cmds0 8 (by omega) (by omega)
  have hc : 0 ≤ cmds0 % 8 ∧ cmds0 % 8 < 8 := by omega
  have hle := lead_fn0 (cmds0 % 8) hc.1 (by omega)
  refine fn_enter Try.func5 (by rfl) (by rfl) ?_
  intro S0 w0
  show Sim _ _ [(0, ei cmds0), (1, .sl false (has.map ei))] _ _
  (repeat (first | apply cn | apply cq | apply cb | apply ck | apply cl | apply cx))
  apply cr
  refine s_ p_as ?_
  (repeat (first | apply cn | apply cq | apply cb | apply ck | apply cl | apply cx))
  apply cr
  refine s_ (p_ca (hk)) ?_
  refine s_ p_noB ?_
  refine cn ?_
  (repeat (first | apply cn | apply cq | apply cb | apply ck | apply cl | apply cx))
  refine ci (p := False) (fun h => h.elim) (fun _ => ?_)
  (repeat (first | apply cn | apply cq | apply cb | apply ck | apply cl | apply cx))
  apply cr
  refine s_ p_mv ?_
  refine s_ (p_ca (hw1)) ?_
  refine s_ p_as ?_
  (repeat (first | apply cn | apply cq | apply cb | apply ck | apply cl | apply cx))
  generalize cmds0 % 8 = C0 at hc hle ⊢
  obtain ⟨c, rfl⟩ : ∃ c : Nat, C0 = (c : Int) := ⟨C0.toNat, by omega⟩
  rw [Int.toNat_natCast] at hle
  (repeat (first | apply cn | apply cq | apply cb | apply ck | apply cl | apply cx))
  apply cr
  refine s_ p_mv ?_
  refine s_ (p_ca (hle)) ?_
  refine e_al fun b5 _ => ?_
  refine e_st ?_
  (repeat (first | apply cn | apply cq | apply cb | apply ck | apply cl | apply cx))
  apply cr
  refine e_al fun b6 _ => ?_
  (repeat (first | apply cn | apply cq | apply cb | apply ck | apply cl | apply cx))
  apply cr
  refine s_ p_mv ?_
  refine s_ p_ad ?_
  refine s_ p_ar ?_
  refine e_st ?_
  (repeat (first | apply cn | apply cq | apply cb | apply ck | apply cl | apply cx))
  apply cr
  refine s_ p_as ?_
  (repeat (first | apply cn | apply cq | apply cb | apply ck | apply cl | apply cx))
  apply sim_loopL (σ := (F5 × F5) × Nat) (ok := fun s => s.2 ≤ has.length ∧ (∀ p, 0 ≤ s.1.1.get p ∧ s.1.1.get p ≤ 10) ∧ (∀ p, 0 ≤ s.1.2.get p ∧ s.1.2.get p ≤ 11)) (env := fun s => [(7, ei (s.2 : Nat)), (6, pN b6), (5, pN b5), (0, ei c), (1, .sl false (has.map ei))])
    (heap := fun s => [(b6, ⟨27, f5C s.1.1, 5⟩), (b5, ⟨nB, nodeC (comN c s.1.1 s.1.2 (wantF s.1.1 (c + 1))) (eens (ledP c).log), 22⟩)]) (μ := fun s => has.length - s.2) (s0 := ((⟨c + 1, 0, 0, 0, 0⟩, .all 1), 0))
  · refine ⟨Nat.zero_le _, fun p => ?_, fun p => ?_⟩
    · exact f5_all (p := fun x => 0 ≤ x ∧ x ≤ 10) (by simp only; omega) (by simp) (by simp) (by simp) (by simp) p
    · simp only [F5.get_all]; omega
  · exact eL
  · simp only [wantF_one]
    exact kR
  rintro ⟨⟨a, nx⟩, i⟩ ⟨hi, ha, hnx⟩
  simp only at hi ha hnx
  (repeat (first | apply cn | apply cq | apply cb | apply ck | apply cl | apply cx))
  apply cr
  refine s_ p_mv ?_
  refine s_ p_mv ?_
  (first | refine s_ p_ln ?_ | refine s_ p_lr ?_)
  refine s_ p_lt ?_
  refine s_ p_mv ?_
  refine gT (fun hg => p_mv) ?_
  refine gT (fun hg => p_lt (hx := u_ hg)) ?_
  refine s_ p_an ?_
  (repeat (first | apply cn | apply cq | apply cb | apply ck | apply cl | apply cx))
  refine ci ?_ ?_
  · intro hlt
    have hix : i < has.length := by have := hlt.1; simp only [List.length_map] at this; omega
    have hw4 := within_fn has[i] 4 (by omega) (by omega)
    have hwk := within_fn (IntKind.i64.wrap (has[i].tdiv 4)) (c + 2) (by omega) (by omega)
    have hf : 1 ≤ 1 + has[i] % 4 ∧ 1 + has[i] % 4 < 5 := by omega
    have hkk : 0 ≤ IntKind.i64.wrap (has[i].tdiv 4) % ((c : Int) + 2) ∧ IntKind.i64.wrap (has[i].tdiv 4) % ((c : Int) + 2) < c + 2 := ⟨Int.emod_nonneg _ (by omega), Int.emod_lt_of_pos _ (by omega)⟩
    (repeat (first | apply cn | apply cq | apply cb | apply ck | apply cl | apply cx))
    refine ca [0, 1, 2, 3, 4, 5, 6, 7, 8, 9, 10, 11, 12, 13, 14, 15] [] ?_
    refine a_ (fun _ => p_mv) ?_
    refine a_ (fun _ => p_mv) ?_
    (first | refine a_ (fun _ => p_ix hix) ?_ | refine a_ (fun _ => p_ix hix2) ?_ | refine a_ (fun _ => p_ia) ?_ | refine a_ (fun _ => p_ir) ?_)
    (first | refine a_ (fun _ => p_ld) ?_ | refine a_lo ?_)
    refine a_ (fun _ => p_ca (hw4)) ?_
    refine a_ (fun _ => p_ad) ?_
    refine a_ (fun _ => p_mv) ?_
    refine a_ (fun _ => p_mv) ?_
    (first | refine a_ (fun _ => p_ix hix) ?_ | refine a_ (fun _ => p_ix hix2) ?_ | refine a_ (fun _ => p_ia) ?_ | refine a_ (fun _ => p_ir) ?_)
    (first | refine a_ (fun _ => p_ld) ?_ | refine a_lo ?_)
    (first | refine a_ (fun _ => p_qu) ?_ | refine a_ (fun _ => p_quw) ?_)
    refine a_ (fun _ => p_mv) ?_
    refine a_ (fun _ => p_ad) ?_
    refine a_ (fun _ => p_ca (hwk)) ?_
    refine a_ (fun _ => p_as) ?_
    refine a_ (fun _ => p_as) ?_
    apply an
    (repeat (first | apply cn | apply cq | apply cb | apply ck | apply cl | apply cx))
    generalize 1 + has[i] % 4 = f at hf ⊢
    generalize IntKind.i64.wrap (has[i].tdiv 4) % ((c : Int) + 2) = k at hkk ⊢
    have hbd : Bd (comN c a nx (wantF a (c + 1))) := bd31 rfl rfl (by show (ledP c).log.length ≤ _; rw [ledP_len]; omega) (by rw [comN_conf c (by omega)])
    have hnb : NBd (comN c a nx (wantF a (c + 1))) := ⟨by show (ledP c).log.length < _; rw [ledP_len]; omega, show (0 : Int) ≤ 7 by decide, show (7 : Int) ≤ 31 by decide, fun p => by have := hnx p; show _ ≤ nx.get p; omega, fun p => by have := hnx p; show nx.get p ≤ _; omega, fun p => by have := ha p; show _ ≤ a.get p; omega, fun p => by have := ha p; show a.get p ≤ _; omega⟩
    have htt := take_fn (n := comN c a nx (wantF a (c + 1))) (m := okM f k) hbd hnb (.inr ⟨by simp only [okM]; omega, by simp only [okM]; omega, by show (ledP c).log.length + 0 ≤ _; rw [ledP_len]; omega⟩)
    rw [com_take c (by omega) a nx hf.1 hf.2] at htt
    have haf := ha f.toNat
    have hf5 := f5_atI a (f := f) (by omega) hf.2
    (repeat (first | apply cn | apply cq | apply cb | apply ck | apply cl | apply cx))
    apply cr
    refine s_ p_loa ?_
    refine s_ p_mv ?_
    refine s_ p_mv ?_
    refine s_ (p_bd 11 [_, _, _, _, _, _, _, _, _, _, _]) ?_
    refine s_ (p_cl (htt)) ?_
    refine s_ p_mv ?_
    refine s_ p_ex ?_
    refine s_ p_ex ?_
    refine e_st ?_
    (repeat (first | apply cn | apply cq | apply cb | apply ck | apply cl | apply cx))
    apply cr
    refine s_ p_mv ?_
    refine s_ p_mv ?_
    refine s_ p_ar ?_
    refine s_ (p_lo (hd := by first | rfl | assumption)) ?_
    refine s_ p_mv ?_
    refine s_ p_ma ?_
    refine s_ p_ar ?_
    refine e_ss ?_ ?_
    · show 0 + f.toNat * 1 + 1 ≤ 5; omega
    rw [lay_f5 a (by omega) hf.2]
    have ha' : ∀ p, 0 ≤ (a.set f.toNat (max (a.get f.toNat) k)).get p ∧ (a.set f.toNat (max (a.get f.toNat) k)).get p ≤ 10 := f5_bd a (by omega) hf.2 (p := fun x => 0 ≤ x ∧ x ≤ 10) (by omega) ha
    have hnx' : ∀ p, 0 ≤ (nx.set f.toNat (max (a.get f.toNat) k + 1)).get p ∧ (nx.set f.toNat (max (a.get f.toNat) k + 1)).get p ≤ 11 := f5_bd nx (by omega) hf.2 (p := fun x => 0 ≤ x ∧ x ≤ 11) (by omega) hnx
    have hga : (a.set f.toNat (max (a.get f.toNat) k)).get f.toNat = max (a.get f.toNat) k := get_set _ (by omega) hf.2 _
    have hgn : (nx.set f.toNat (max (a.get f.toNat) k + 1)).get f.toNat = max (a.get f.toNat) k + 1 := get_set _ (by omega) hf.2 _
    generalize a.set f.toNat (max (a.get f.toNat) k) = a' at ha' hga ⊢
    generalize nx.set f.toNat (max (a.get f.toNat) k + 1) = nx' at hnx' hgn ⊢
    clear hf5
    
    (repeat (first | apply cn | apply cq | apply cb | apply ck | apply cl | apply cx))
    apply cr
    refine s_ p_as ?_
    (repeat (first | apply cn | apply cq | apply cb | apply ck | apply cl | apply cx))
    apply cr
    refine s_ p_as ?_
    (repeat (first | apply cn | apply cq | apply cb | apply ck | apply cl | apply cx))
    apply sim_loopL (σ := Nat) (ok := fun j => j ≤ c + 1) (env := fun j => [(11, ei ((j : Nat) + 1)), (10, ei (wantF a' j)), (8, ei f), (7, ei (i : Nat)), (6, pN b6), (5, pN b5), (0, ei c), (1, .sl false (has.map ei))])
      (heap := fun _ => [(b6, ⟨27, f5C a', 5⟩), (b5, ⟨nB, nodeC (comN c a' nx' (wantF a' (c + 1))) (eens (ledP c).log), 22⟩)]) (μ := fun j => c + 1 - j) (s0 := 0)
    · exact Nat.zero_le _
    · exact eL
    · exact kR
    · intro j hj
      (repeat (first | apply cn | apply cq | apply cb | apply ck | apply cl | apply cx))
      apply cr
      refine s_ p_mv ?_
      refine s_ p_mv ?_
      refine s_ p_ad ?_
      refine s_ p_le ?_
      (repeat (first | apply cn | apply cq | apply cb | apply ck | apply cl | apply cx))
      refine ci ?_ ?_
      · intro hjc
        have hjc' : j < c + 1 := by omega
        (repeat (first | apply cn | apply cq | apply cb | apply ck | apply cl | apply cx))
        apply cr
        refine s_ p_as ?_
        (repeat (first | apply cn | apply cq | apply cb | apply ck | apply cl | apply cx))
        apply cr
        refine s_ p_as ?_
        (repeat (first | apply cn | apply cq | apply cb | apply ck | apply cl | apply cx))
        apply sim_loopL (σ := Nat) (ok := fun p => p ≤ 5) (env := fun p => [(13, ei (p : Nat)), (12, ei (cntK a' (j + 1 : Nat) p)), (11, ei ((j : Nat) + 1)), (10, ei (wantF a' j)), (8, ei f), (7, ei (i : Nat)), (6, pN b6), (5, pN b5), (0, ei c), (1, .sl false (has.map ei))])
          (heap := fun _ => [(b6, ⟨27, f5C a', 5⟩), (b5, ⟨nB, nodeC (comN c a' nx' (wantF a' (c + 1))) (eens (ledP c).log), 22⟩)]) (μ := fun p => 5 - p) (s0 := 0)
        · exact Nat.zero_le _
        · exact eL
        · exact kR
        · intro p hp
          have hcb := cntK_bd a' ((j + 1 : Nat) : Int) p
          (repeat (first | apply cn | apply cq | apply cb | apply ck | apply cl | apply cx))
          apply cr
          refine s_ p_mv ?_
          refine s_ p_lt ?_
          (repeat (first | apply cn | apply cq | apply cb | apply ck | apply cl | apply cx))
          refine ci ?_ ?_
          · intro hp5
            have hp5' : p < 5 := by omega
            have hf5 := f5_atI a' (f := (p : Int)) (by omega) hp5
            (repeat (first | apply cn | apply cq | apply cb | apply ck | apply cl | apply cx))
            apply cr
            refine s_ p_mv ?_
            refine s_ p_ar ?_
            refine s_ (p_lo (hd := by first | rfl | assumption)) ?_
            refine s_ p_mv ?_
            refine s_ p_ge ?_
            (repeat (first | apply cn | apply cq | apply cb | apply ck | apply cl | apply cx))
            rw [Int.toNat_natCast]
            refine ci ?_ ?_
            · intro hge
              have hs : cntK a' (j + 1 : Nat) (p + 1) = cntK a' (j + 1 : Nat) p + 1 := by rw [cntK, if_pos (by omega)]
              (repeat (first | apply cn | apply cq | apply cb | apply ck | apply cl | apply cx))
              apply cr
              refine s_ p_mv ?_
              refine s_ p_ad ?_
              refine s_ p_as ?_
              (repeat (first | apply cn | apply cq | apply cb | apply ck | apply cl | apply cx))
              apply cr
              refine s_ p_mv ?_
              refine s_ p_ad ?_
              refine s_ p_as ?_
              (repeat (first | apply cn | apply cq | apply cb | apply ck | apply cl | apply cx))
              exact ⟨p + 1, hp5', by show 5 - (p + 1) < 5 - p; omega, ⟨le_get (by rfl) (Le.refl _), le_get (by ((repeat (apply gS; rfl)); exact gZ)) (Le.of_eq (by rw [hs]; rfl)), eL⟩, kR⟩
            · intro hge
              have hs : cntK a' (j + 1 : Nat) (p + 1) = cntK a' (j + 1 : Nat) p := by rw [cntK, if_neg (by omega)]; omega
              (repeat (first | apply cn | apply cq | apply cb | apply ck | apply cl | apply cx))
              apply cr
              refine s_ p_mv ?_
              refine s_ p_ad ?_
              refine s_ p_as ?_
              (repeat (first | apply cn | apply cq | apply cb | apply ck | apply cl | apply cx))
              exact ⟨p + 1, hp5', by show 5 - (p + 1) < 5 - p; omega, ⟨le_get (by rfl) (Le.refl _), le_get (by ((repeat (apply gS; rfl)); exact gZ)) (Le.of_eq (by rw [hs])), eL⟩, kR⟩
          · intro hp5
            have : p = 5 := by omega
            subst this
            (repeat (first | apply cn | apply cq | apply cb | apply ck | apply cl | apply cx))
            apply cr
            refine s_ p_mv ?_
            refine s_ p_ge ?_
            (repeat (first | apply cn | apply cq | apply cb | apply ck | apply cl | apply cx))
            refine ci ?_ ?_
            · intro h3
              have hs : wantF a' (j + 1) = (j : Int) + 1 := by rw [wantF, if_pos h3]; omega
              (repeat (first | apply cn | apply cq | apply cb | apply ck | apply cl | apply cx))
              apply cr
              refine s_ p_mv ?_
              refine s_ p_as ?_
              (repeat (first | apply cn | apply cq | apply cb | apply ck | apply cl | apply cx))
              apply cr
              refine s_ p_mv ?_
              refine s_ p_ad ?_
              refine s_ p_as ?_
              (repeat (first | apply cn | apply cq | apply cb | apply ck | apply cl | apply cx))
              exact ⟨j + 1, by omega, by show c + 1 - (j + 1) < c + 1 - j; omega, ⟨le_get (by rfl) (Le.refl _), le_get (by ((repeat (apply gS; rfl)); exact gZ)) (Le.of_eq (by rw [hs])), eL⟩, kR⟩
            · intro h3
              have hs : wantF a' (j + 1) = wantF a' j := by rw [wantF, if_neg h3]
              (repeat (first | apply cn | apply cq | apply cb | apply ck | apply cl | apply cx))
              apply cr
              refine s_ p_mv ?_
              refine s_ p_ad ?_
              refine s_ p_as ?_
              (repeat (first | apply cn | apply cq | apply cb | apply ck | apply cl | apply cx))
              exact ⟨j + 1, by omega, by show c + 1 - (j + 1) < c + 1 - j; omega, ⟨le_get (by rfl) (Le.refl _), le_get (by ((repeat (apply gS; rfl)); exact gZ)) (Le.of_eq (by rw [hs])), eL⟩, kR⟩
      · intro hjc
        have : j = c + 1 := by omega
        subst this
        have haf' := ha' f.toNat
        have hf5 := f5_atI a' (f := f) (by omega) hf.2
        have hq1 := node_mtch (comN c a' nx' (wantF a' (c + 1))) (eens (ledP c).log) (f := f) (by omega) hf.2
        have hq2 := node_next (comN c a' nx' (wantF a' (c + 1))) (eens (ledP c).log) (f := f) (by omega) hf.2
        (repeat (first | apply cn | apply cq | apply cb | apply ck | apply cl | apply cx))
        refine ca [0, 1, 2, 3, 4, 5, 6, 7, 8, 9, 10, 11, 12, 13, 14, 15, 16, 17, 18, 19, 20, 21, 22, 23, 24, 25, 26, 27, 28, 29] [] ?_
        refine a_ (fun _ => p_fr) ?_
        refine a_lo ?_
        refine a_ (fun _ => p_mv) ?_
        refine a_ (fun _ => p_ne) ?_
        refine a_ (fun _ => p_mv) ?_
        refine ag_F (fun _ hg => p_mv) ?_
        refine ag_F (fun _ hg => p_fr) ?_
        refine ag_F (fun _ hg => p_ar (hx := u_ hg) (hy := u_ hg)) ?_
        refine ag_loF (hd := by first | rfl | assumption) ?_
        refine ag_F (fun _ hg => p_mv) ?_
        refine ag_F (fun _ hg => p_ar (hy := u_ hg)) ?_
        refine ag_loF (hd := by first | rfl | assumption) ?_
        refine ag_F (fun _ hg => p_ne (hx := u_ hg) (hy := u_ hg)) ?_
        refine a_ (fun _ => p_or) ?_
        refine a_ (fun _ => p_mv) ?_
        refine ag_F (fun _ hg => p_mv) ?_
        refine ag_F (fun _ hg => p_fr) ?_
        refine ag_F (fun _ hg => p_ar (hx := u_ hg) (hy := u_ hg)) ?_
        refine ag_loF (hd := by first | rfl | assumption) ?_
        refine ag_F (fun _ hg => p_mv) ?_
        refine ag_F (fun _ hg => p_ar (hy := u_ hg)) ?_
        refine ag_loF (hd := by first | rfl | assumption) ?_
        refine ag_F (fun _ hg => p_ad (hx := u_ hg)) ?_
        refine ag_F (fun _ hg => p_ne (hx := u_ hg) (hy := u_ hg)) ?_
        refine a_ (fun _ => p_or) ?_
        refine a_ (fun _ => p_mv) ?_
        refine ag_F (fun _ hg => p_fr) ?_
        refine ag_loF ?_
        refine ag_F (fun _ hg => p_ne (hx := u_ hg)) ?_
        refine a_ (fun _ => p_or) ?_
        apply an
        (repeat (first | apply cn | apply cq | apply cb | apply ck | apply cl | apply cx))
        refine ci ?_ ?_
        · intro h
          exfalso
          rcases h with ((h | h) | h) | h
          · exact h rfl
          · exact h rfl
          · exact h (by show nx'.get f.toNat = a'.get f.toNat + 1; rw [hgn, hga])
          · exact h rfl
        intro _
        (repeat (first | apply cn | apply cq | apply cb | apply ck | apply cl | apply cx))
        apply cr
        refine s_ p_mv ?_
        refine s_ p_ad ?_
        refine s_ p_as ?_
        (repeat (first | apply cn | apply cq | apply cb | apply ck | apply cl | apply cx))
        exact ⟨((a', nx'), i + 1), ⟨by simp only; omega, ha', hnx'⟩, by show has.length - (i + 1) < has.length - i; omega, ⟨le_get (by rfl) (Le.refl _), eL⟩, kR⟩
  · intro _
    (repeat (first | apply cn | apply cq | apply cb | apply ck | apply cl | apply cx))
    apply cr
    refine s_ p_fr ?_
    refine s_ p_lo ?_
    refine s_ p_eq ?_
    refine s_ p_as ?_
    (repeat (first | apply cn | apply cq | apply cb | apply ck | apply cl | apply cx))
    (apply sim_ret; (try simp only [blockΨ_ret, thenΨ_ret, loopL_ret, cutΨ_ret, cutE_ret]); first | refine rt ?_ | refine rn ?_)
    exact b_true rfl
end Go.Proofs.Ytppaabahbjgihaa
