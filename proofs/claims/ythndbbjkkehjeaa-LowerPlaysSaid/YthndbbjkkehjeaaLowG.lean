/-
  LowerPlays: whatever is posted, forced, however many blocks come.
-/
import Derived.Test.YthndbbjkkehjeaaLowD
import Derived.Test.YthndbbjkkehjeaaLowF
set_option maxRecDepth 4000
namespace Go.Proofs.Ythndbbjkkehjeaa
open Go.Cap
set_option linter.unusedSimpArgs false
set_option linter.unusedVariables false
attribute [local irreducible] POp SimFrom DrawFrom EOp Sim FnH T.gp
theorem checkGo_snoc (h long : Int) (p : Po) (hp : p.at_ = h + 1) (hb : (p.bytes.length : Int) ≤ long) : ∀ (l : List Po) (last : Int), last ≤ h + 1 → checkGo h long last l = 0 → checkGo h long last (l ++ [p]) = 0
  | [], last, hl, _ => by simp only [List.nil_append, checkGo]; rw [if_neg (by omega), if_neg (by omega)]
  | q :: l, last, hl, h0 => by
    simp only [List.cons_append, checkGo] at h0 ⊢
    split at h0
    · cases h0
    · rename_i h1
      rw [if_neg h1]
      split at h0
      · cases h0
      · rename_i h2
        rw [if_neg h2]
        exact checkGo_snoc h long p hp hb l _ (by omega) h0
theorem checkGo_mono (h h' long : Int) (hh : h ≤ h') : ∀ (l : List Po) (last : Int), checkGo h long last l = 0 → checkGo h' long last l = 0
  | [], _, _ => rfl
  | q :: l, last, h0 => by
    simp only [checkGo] at h0 ⊢
    split at h0
    · cases h0
    · rename_i h1
      rw [if_neg (by omega)]
      split at h0
      · cases h0
      · rename_i h2
        rw [if_neg h2]
        exact checkGo_mono h h' long hh l _ h0
theorem checkGo_each (h long : Int) : ∀ (l : List Po) (last : Int), checkGo h long last l = 0 → ∀ p ∈ l, p.at_ ≤ h + 1 ∧ (p.bytes.length : Int) ≤ long
  | [], _, _, p, hp => by simp at hp
  | q :: l, last, h0, p, hp => by
    simp only [checkGo] at h0
    split at h0
    · cases h0
    · split at h0
      · cases h0
      · rcases List.mem_cons.1 hp with rfl | hp
        · exact ⟨by omega, by omega⟩
        · exact checkGo_each h long l _ h0 p hp
structure Good (l : Lo) : Prop where
  low : 0 ≤ l.height
  high : l.height ≤ 1073741824
  np : l.posts.length ≤ 300
  nf : l.forced.length ≤ 60
  cp : checkGo l.height 4000 1 l.posts = 0
  cf : checkGo l.height 200 1 l.forced = 0
theorem Good.fit {l : Lo} (h : Good l) : FitL l :=
  ⟨⟨by have := h.np; omega, fun p hp => by have := (checkGo_each _ _ _ _ h.cp p hp).2; omega⟩, ⟨by have := h.nf; omega, fun p hp => by have := (checkGo_each _ _ _ _ h.cf p hp).2; omega⟩, by have := h.low; omega, by have := h.high; omega⟩
theorem Good.check {l : Lo} (h : Good l) : checkF l = 0 := by
  have h1 := h.low
  have h2 := h.high
  have h3 := h.np
  have h4 := h.nf
  rw [checkF, if_neg (by omega), if_neg (by omega), if_pos h.cp, h.cf]
theorem good0 : Good lo0 := ⟨by decide, by decide, by decide, by decide, rfl, rfl⟩
theorem Good.post {l : Lo} (h : Good l) (b : List UInt8) : Good (postF l b).1 ∧ l.posts.length ≤ (postF l b).1.posts.length := by
  have h1 := h.low
  have h3 := h.np
  simp only [postF, putF]
  split
  · exact ⟨h, Nat.le_refl _⟩
  · split
    · exact ⟨h, Nat.le_refl _⟩
    · refine ⟨⟨h.low, h.high, by simp; omega, h.nf, checkGo_snoc _ _ _ rfl (by simp only; omega) _ _ (by simp only; omega) h.cp, h.cf⟩, by simp⟩
theorem Good.force {l : Lo} (h : Good l) (b : List UInt8) : Good (forceF l b).1 ∧ l.posts.length ≤ (forceF l b).1.posts.length := by
  have h1 := h.low
  have h3 := h.nf
  simp only [forceF, putF]
  split
  · exact ⟨h, Nat.le_refl _⟩
  · split
    · exact ⟨h, Nat.le_refl _⟩
    · refine ⟨⟨h.low, h.high, h.np, by simp; omega, h.cp, checkGo_snoc _ _ _ rfl (by simp only; omega) _ _ (by simp only; omega) h.cf⟩, by simp⟩
theorem Good.next {l : Lo} (h : Good l) (n : Int) : Good (nextF l n).1 ∧ l.posts.length ≤ (nextF l n).1.posts.length := by
  have h1 := h.low
  simp only [nextF]
  split
  · exact ⟨h, Nat.le_refl _⟩
  · split
    · exact ⟨h, Nat.le_refl _⟩
    · exact ⟨⟨by simp only; omega, by simp only; omega, h.np, h.nf, checkGo_mono _ _ _ (by simp only; omega) _ _ h.cp, checkGo_mono _ _ _ (by simp only; omega) _ _ h.cf⟩, Nat.le_refl _⟩
def ei (n : Int) : T := .v (.int .i64 n)
set_option maxHeartbeats 2000000 in
theorem plays_fn (kinds ns : List Int) (rows : List (List UInt8)) (hk : kinds.length ≤ 9223372036854775807) (hn : ns.length ≤ 9223372036854775807) :
    FnP Try.prog 5 [.sl false (kinds.map ei), .sl false (ns.map ei), .sl false (rows.map ebs)] (fun r => r = .v (.bool true)) := by
  refine fn_enter Try.func5 (by rfl) (by rfl) ?_
  intro S0 w0
  show Sim _ _ [(0, _), (1, _), (2, _)] _ _
  (repeat (first | apply cn | apply cq | apply cb | apply ck | apply cl | apply cx))
  apply cr
  refine s_ p_as ?_
  (repeat (first | apply cn | apply cq | apply cb | apply ck | apply cl | apply cx))
  apply cr
  refine s_ (p_ca (known_fn)) ?_
  refine s_ p_no ?_
  (repeat (first | apply cn | apply cq | apply cb | apply ck | apply cl | apply cx))
  refine ci ?_ ?_
  · intro h; exact absurd trivial h
  intro _
  (repeat (first | apply cn | apply cq | apply cb | apply ck | apply cl | apply cx))
  apply cr
  refine s_ (p_bd 3 [_, _, _]) ?_
  refine s_ (p_bd 3 [_, _, _]) ?_
  refine e_al fun b7 _ => ?_
  refine e_al fun b8 _ => ?_
  refine e_st ?_
  refine e_st ?_
  (repeat (first | apply cn | apply cq | apply cb | apply ck | apply cl | apply cx))
  apply cr
  refine s_ p_as ?_
  (repeat (first | apply cn | apply cq | apply cb | apply ck | apply cl | apply cx))
  apply sim_loopL (σ := Nat × Lo) (ok := fun s => s.1 ≤ 120 ∧ Good s.2)
    (env := fun s => [(9, .v (.int .i64 s.1)), (8, .v (.pointer (some ⟨b8, 0, none⟩))), (7, .v (.pointer (some ⟨b7, 0, none⟩))), (0, .sl false (kinds.map ei)), (1, .sl false (ns.map ei)), (2, .sl false (rows.map ebs))])
    (heap := fun s => [(b8, ⟨25, elc s.2, 3⟩), (b7, ⟨25, elc s.2, 3⟩)]) (μ := fun s => 121 - s.1) (s0 := (0, lo0))
  · exact ⟨by simp, good0⟩
  · exact eL
  · exact kK (kK kN)
  rintro ⟨i, a⟩ ⟨hi, ha⟩
  simp only at hi ha
  (repeat (first | apply cn | apply cq | apply cb | apply ck | apply cl | apply cx))
  apply cr
  refine s_ p_mv ?_
  refine s_ p_mv ?_
  (first | refine s_ p_ln ?_ | refine s_ p_lr ?_)
  refine s_ p_lt ?_
  refine s_ p_mv ?_
  refine gT (fun hg => p_mv) ?_
  refine gT (fun hg => p_mv) ?_
  (first | refine gT (fun hg => p_ln (hx := u_ hg)) ?_ | refine gT (fun hg => p_lr (hx := u_ hg)) ?_)
  refine gT (fun hg => p_lt (hx := u_ hg) (hy := u_ hg)) ?_
  refine s_ p_an ?_
  refine s_ p_mv ?_
  refine gT (fun hg => p_mv) ?_
  refine gT (fun hg => p_lt (hx := u_ hg)) ?_
  refine s_ p_an ?_
  (repeat (first | apply cn | apply cq | apply cb | apply ck | apply cl | apply cx))
  refine ci ?_ ?_
  · rintro ⟨⟨h1, h2⟩, h3⟩
    simp only [List.length_map] at h1 h2 h3
    have hix : i < kinds.length := by omega
    have hix2 : i < ns.length := by omega
    (repeat (first | apply cn | apply cq | apply cb | apply ck | apply cl | apply cx))
    apply cr
    refine s_ p_as ?_
    (repeat (first | apply cn | apply cq | apply cb | apply ck | apply cl | apply cx))
    apply cr
    refine s_ p_mv ?_
    refine s_ p_mv ?_
    (first | refine s_ p_ln ?_ | refine s_ p_lr ?_)
    refine s_ p_lt ?_
    refine s_ p_mv ?_
    refine gT (fun hg => p_mv) ?_
    refine gT (fun hg => p_mv) ?_
    (first | refine gT (fun hg => p_ix hix (hx := u_ hg) (hy := u_ hg)) ?_ | refine gT (fun hg => p_ix hix2 (hx := u_ hg) (hy := u_ hg)) ?_ | refine gT (fun hg => p_ia (hx := u_ hg) (hy := u_ hg)) ?_ | refine gT (fun hg => p_ir (hx := u_ hg) (hy := u_ hg)) ?_)
    refine gT (fun hg => p_ld (hx := u_ hg)) ?_
    (first | refine gT (fun hg => p_ln (hx := u_ hg)) ?_ | refine gT (fun hg => p_lr (hx := u_ hg)) ?_)
    refine gT (fun hg => p_le (hx := u_ hg)) ?_
    refine s_ p_an ?_
    (repeat (first | apply cn | apply cq | apply cb | apply ck | apply cl | apply cx))
    apply sim_cutE (σ := List UInt8) (ok := fun x => x.length ≤ 300) (env := fun x => [(10, ebs x), (9, .v (.int .i64 i)), (8, .v (.pointer (some ⟨b8, 0, none⟩))), (7, .v (.pointer (some ⟨b7, 0, none⟩))), (0, .sl false (kinds.map ei)), (1, .sl false (ns.map ei)), (2, .sl false (rows.map ebs))]) (heap := fun x => [(b8, ⟨25, elc a, 3⟩), (b7, ⟨25, elc a, 3⟩)])
    · refine ci ?_ ?_
      · rintro ⟨hr, hr2⟩
        simp only [List.length_map] at hr hr2
        have hix : i < rows.length := by omega
        (repeat (first | apply cn | apply cq | apply cb | apply ck | apply cl | apply cx))
        apply cr
        refine s_ p_mv ?_
        refine s_ p_mv ?_
        (first | refine s_ (p_ix hix) ?_ | refine s_ (p_ix hix2) ?_ | refine s_ p_ia ?_ | refine s_ p_ir ?_)
        refine s_ p_ld ?_
        refine s_ p_as ?_
        (repeat (first | apply cn | apply cq | apply cb | apply ck | apply cl | apply cx))
        refine ⟨rows[i], by have e : rows.getD i default = rows[i] := by simp [hix]
                            rw [e] at hr2; simp only; omega, ?_, kK (kK kN)⟩
        exact eL
      · intro _
        (repeat (first | apply cn | apply cq | apply cb | apply ck | apply cl | apply cx))
        refine ⟨[], by simp, ?_, kK (kK kN)⟩
        exact eL
    intro x hx
    (repeat (first | apply cn | apply cq | apply cb | apply ck | apply cl | apply cx))
    apply cr
    refine s_ p_mv ?_
    refine s_ p_mv ?_
    (first | refine s_ (p_ix hix) ?_ | refine s_ (p_ix hix2) ?_ | refine s_ p_ia ?_ | refine s_ p_ir ?_)
    refine s_ p_ld ?_
    refine s_ p_re ?_
    refine s_ p_eq ?_
    (repeat (first | apply cn | apply cq | apply cb | apply ck | apply cl | apply cx))
    apply sim_cutE (σ := List UInt8) (ok := fun x => x.length ≤ 4003) (env := fun x => [(10, ebs x), (9, .v (.int .i64 i)), (8, .v (.pointer (some ⟨b8, 0, none⟩))), (7, .v (.pointer (some ⟨b7, 0, none⟩))), (0, .sl false (kinds.map ei)), (1, .sl false (ns.map ei)), (2, .sl false (rows.map ebs))]) (heap := fun x => [(b8, ⟨25, elc a, 3⟩), (b7, ⟨25, elc a, 3⟩)])
    · refine ci ?_ ?_
      · intro hr
        have hnine := fun a => within_fn a 9 (by omega) (by omega)
        (repeat (first | apply cn | apply cq | apply cb | apply ck | apply cl | apply cx))
        apply cr
        refine s_ p_mv ?_
        refine s_ p_mv ?_
        (first | refine s_ (p_ix hix) ?_ | refine s_ (p_ix hix2) ?_ | refine s_ p_ia ?_ | refine s_ p_ir ?_)
        refine s_ p_ld ?_
        (first | refine s_ p_qu ?_ | refine s_ p_quw ?_)
        refine s_ (p_ca (hnine _)) ?_
        refine s_ p_ad ?_
        apply from_e; apply eop_make; ((repeat (apply eS; rfl)); exact eZ); ((repeat (apply eS; rfl)); exact eZ)
        · omega
        · omega
        · omega
        · omega
        · rfl
        intro b64 _
        generalize hN : (3995 + IntKind.i64.wrap ((ns[i]).tdiv 17) % 9).toNat = N
        apply from_freezeO (j := 64) (kk := 1) (f := true) (xs := (List.replicate N (0 : UInt8)).map eb); ((repeat (apply eS; rfl)); exact eZ); (repeat (first | exact dZ | apply dS))
        · simp
        · (repeat (first | exact lenOk_nil | (apply lenOk_map; intro _; rfl) | apply lenOk_append | apply lenOk_take | apply lenOk_drop | (apply lenOk_cons; rfl)))
        · rw [flat_map1 eb (fun _ => rfl), List.map_replicate, Nat.mul_one]
          show List.take N (List.replicate N [T.v (.int .u8 0)]).flatten = List.replicate N (T.v (.int .u8 0))
          rw [List.flatten_replicate_singleton, List.take_of_length_le (by simp)]
        · intro x hx; obtain ⟨y, _, rfl⟩ := List.mem_map.1 hx; exact .inl rfl
        · intro _; rfl
        · exact Nat.le_refl _
        refine s_ p_as ?_
        (repeat (first | apply cn | apply cq | apply cb | apply ck | apply cl | apply cx))
        refine ⟨List.replicate N 0, by simp; omega, ?_, kK (kK kN)⟩
        exact eL
      · intro _
        (repeat (first | apply cn | apply cq | apply cb | apply ck | apply cl | apply cx))
        refine ⟨x, by simp only; omega, ?_, kK (kK kN)⟩
        exact eL
    clear hx x
    intro x hx
    have hxl : x.length ≤ 1000000 := Nat.le_trans hx (by omega)
    have k1 := post_fn a x ha.fit hxl
    have k2 := rpost_fn a x ha.fit hxl
    have k3 := force_fn a x ha.fit hxl
    have k4 := rforce_fn a x ha.fit hxl
    have k5 := next_fn a ns[i] ha.fit
    have k6 := rnext_fn a ns[i] ha.fit
    (repeat (first | apply cn | apply cq | apply cb | apply ck | apply cl | apply cx))
    apply cr
    refine e_al fun b11 _ => ?_
    refine e_al fun b12 _ => ?_
    (repeat (first | apply cn | apply cq | apply cb | apply ck | apply cl | apply cx))
    apply cr
    refine s_ p_as ?_
    (repeat (first | apply cn | apply cq | apply cb | apply ck | apply cl | apply cx))
    apply cr
    refine s_ p_as ?_
    (repeat (first | apply cn | apply cq | apply cb | apply ck | apply cl | apply cx))
    apply cr
    refine s_ p_mv ?_
    refine s_ p_mv ?_
    (first | refine s_ (p_ix hix) ?_ | refine s_ (p_ix hix2) ?_ | refine s_ p_ia ?_ | refine s_ p_ir ?_)
    refine s_ p_ld ?_
    refine s_ (p_ca (within_fn _ 4 (by omega) (by omega))) ?_
    apply cn
    apply sim_cutE (σ := Lo × Int) (ok := fun s => Good s.1 ∧ a.posts.length ≤ s.1.posts.length) (env := fun s => [(11, .v (.pointer (some ⟨b11, 0, none⟩))), (12, .v (.pointer (some ⟨b12, 0, none⟩))), (13, .v (.int .i64 s.2)), (14, .v (.int .i64 s.2)), (9, .v (.int .i64 i)), (8, .v (.pointer (some ⟨b8, 0, none⟩))), (7, .v (.pointer (some ⟨b7, 0, none⟩))), (0, .sl false (kinds.map ei)), (1, .sl false (ns.map ei)), (2, .sl false (rows.map ebs))])
      (heap := fun s => [(b12, ⟨25, elc s.1, 3⟩), (b11, ⟨25, elc s.1, 3⟩), (b8, ⟨25, elc a, 3⟩), (b7, ⟨25, elc a, 3⟩)])
    · (repeat (first | apply cn | apply cq | apply cb | apply ck | apply cl | apply cx))
      (repeat (first | apply cn | apply cq | apply cb | apply ck | apply cl | apply cx))
      apply cr
      refine s_ p_eq ?_
      refine s_ p_as ?_
      (repeat (first | apply cn | apply cq | apply cb | apply ck | apply cl | apply cx))
      apply sim_cut [(69, .v (.int .i64 (kinds[i] % 4))), (70, .v (.bool (decide (kinds[i] % 4 = 0 ∨ kinds[i] % 4 = 1)))), (10, ebs x), (11, .v (.pointer (some ⟨b11, 0, none⟩))), (12, .v (.pointer (some ⟨b12, 0, none⟩))), (13, .v (.int .i64 0)), (14, .v (.int .i64 0)), (9, .v (.int .i64 i)), (8, .v (.pointer (some ⟨b8, 0, none⟩))), (7, .v (.pointer (some ⟨b7, 0, none⟩))), (0, .sl false (kinds.map ei)), (1, .sl false (ns.map ei)), (2, .sl false (rows.map ebs))]
        [(b12, ⟨25, elc lo0, 3⟩), (b11, ⟨25, elc lo0, 3⟩), (b8, ⟨25, elc a, 3⟩), (b7, ⟨25, elc a, 3⟩)]
      · refine ci ?_ ?_
        · intro h
          (repeat (first | apply cn | apply cq | apply cb | apply ck | apply cl | apply cx))
          refine ⟨?_, kK (kK (kK (kK kN)))⟩
          exact eL
        · intro h
          (repeat (first | apply cn | apply cq | apply cb | apply ck | apply cl | apply cx))
          apply cr
          refine s_ p_eq ?_
          refine s_ p_as ?_
          (repeat (first | apply cn | apply cq | apply cb | apply ck | apply cl | apply cx))
          refine ⟨?_, kK (kK (kK (kK kN)))⟩
          exact eL
      refine ci ?_ ?_
      · intro h
        (repeat (first | apply cn | apply cq | apply cb | apply ck | apply cl | apply cx))
        (repeat (first | apply cn | apply cq | apply cb | apply ck | apply cl | apply cx))
        refine ca [0, 1, 2, 3, 4, 5, 6, 7, 8, 9] [8] ?_
        refine a_loa ?_
        refine a_ (fun _ => p_bs) ?_
        refine a_ (fun _ => p_mv) ?_
        refine a_ (fun _ => p_ap) ?_
        refine a_ (fun _ => p_ca (k1)) ?_
        refine a_ (fun _ => p_mv) ?_
        refine a_ (fun _ => p_ex) ?_
        refine a_ (fun _ => p_ex) ?_
        refine a_st ?_
        refine a_ (fun _ => p_as) ?_
        apply an
        (repeat (first | apply cn | apply cq | apply cb | apply ck | apply cl | apply cx))
        apply cr
        refine s_ p_loa ?_
        refine s_ p_mv ?_
        refine s_ (p_ca (k2)) ?_
        refine s_ p_mv ?_
        refine s_ p_ex ?_
        refine s_ p_ex ?_
        refine e_st ?_
        refine s_ p_as ?_
        (repeat (first | apply cn | apply cq | apply cb | apply ck | apply cl | apply cx))
        refine ⟨postF a x, ha.post x, ?_, kK (kK (kK (kK kN)))⟩
        exact eL
      intro h
      (repeat (first | apply cn | apply cq | apply cb | apply ck | apply cl | apply cx))
      apply cr
      refine s_ p_eq ?_
      refine s_ p_as ?_
      (repeat (first | apply cn | apply cq | apply cb | apply ck | apply cl | apply cx))
      refine ci ?_ ?_
      · intro h'
        (repeat (first | apply cn | apply cq | apply cb | apply ck | apply cl | apply cx))
        (repeat (first | apply cn | apply cq | apply cb | apply ck | apply cl | apply cx))
        refine ca [0, 1, 2, 3, 4, 5, 6, 7, 8, 9] [8] ?_
        refine a_loa ?_
        refine a_ (fun _ => p_bs) ?_
        refine a_ (fun _ => p_mv) ?_
        refine a_ (fun _ => p_ap) ?_
        refine a_ (fun _ => p_ca (k3)) ?_
        refine a_ (fun _ => p_mv) ?_
        refine a_ (fun _ => p_ex) ?_
        refine a_ (fun _ => p_ex) ?_
        refine a_st ?_
        refine a_ (fun _ => p_as) ?_
        apply an
        (repeat (first | apply cn | apply cq | apply cb | apply ck | apply cl | apply cx))
        apply cr
        refine s_ p_loa ?_
        refine s_ p_mv ?_
        refine s_ (p_ca (k4)) ?_
        refine s_ p_mv ?_
        refine s_ p_ex ?_
        refine s_ p_ex ?_
        refine e_st ?_
        refine s_ p_as ?_
        (repeat (first | apply cn | apply cq | apply cb | apply ck | apply cl | apply cx))
        refine ⟨forceF a x, ha.force x, ?_, kK (kK (kK (kK kN)))⟩
        exact eL
      intro h'
      (repeat (first | apply cn | apply cq | apply cb | apply ck | apply cl | apply cx))
      apply cr
      refine s_ p_eq ?_
      refine s_ p_as ?_
      (repeat (first | apply cn | apply cq | apply cb | apply ck | apply cl | apply cx))
      refine ci ?_ ?_
      · intro h''
        (repeat (first | apply cn | apply cq | apply cb | apply ck | apply cl | apply cx))
        (repeat (first | apply cn | apply cq | apply cb | apply ck | apply cl | apply cx))
        refine ca [0, 1, 2, 3, 4, 5, 6, 7, 8, 9, 10] [9] ?_
        refine a_loa ?_
        refine a_ (fun _ => p_mv) ?_
        refine a_ (fun _ => p_mv) ?_
        (first | refine a_ (fun _ => p_ix hix) ?_ | refine a_ (fun _ => p_ix hix2) ?_ | refine a_ (fun _ => p_ia) ?_ | refine a_ (fun _ => p_ir) ?_)
        refine a_ (fun _ => p_ld) ?_
        refine a_ (fun _ => p_ca (k5)) ?_
        refine a_ (fun _ => p_mv) ?_
        refine a_ (fun _ => p_ex) ?_
        refine a_ (fun _ => p_ex) ?_
        refine a_st ?_
        refine a_ (fun _ => p_as) ?_
        apply an
        (repeat (first | apply cn | apply cq | apply cb | apply ck | apply cl | apply cx))
        refine ca [0, 1, 2, 3, 4, 5, 6, 7, 8, 9, 10] [9] ?_
        refine a_loa ?_
        refine a_ (fun _ => p_mv) ?_
        refine a_ (fun _ => p_mv) ?_
        (first | refine a_ (fun _ => p_ix hix) ?_ | refine a_ (fun _ => p_ix hix2) ?_ | refine a_ (fun _ => p_ia) ?_ | refine a_ (fun _ => p_ir) ?_)
        refine a_ (fun _ => p_ld) ?_
        refine a_ (fun _ => p_ca (k6)) ?_
        refine a_ (fun _ => p_mv) ?_
        refine a_ (fun _ => p_ex) ?_
        refine a_ (fun _ => p_ex) ?_
        refine a_st ?_
        refine a_ (fun _ => p_as) ?_
        apply an
        (repeat (first | apply cn | apply cq | apply cb | apply ck | apply cl | apply cx))
        refine ⟨nextF a ns[i], ha.next ns[i], ?_, kK (kK (kK (kK kN)))⟩
        exact eL
      intro h''
      exfalso; omega
    rintro ⟨p, e⟩ ⟨hp, hpl⟩
    simp only at hp hpl
    have hf := hp.fit
    have hpp := hp.np
    have hap := ha.np
    have cs := same_fn p p hf.posts hf.forced hf.posts hf.forced
    have cc := check_fn p (by have := hp.np; omega) (by have := hp.nf; omega) (fun q hq => by have := (checkGo_each _ _ _ _ hp.cp q hq).1; have := hp.high; omega) (fun q hq => by have := (checkGo_each _ _ _ _ hp.cf q hq).1; have := hp.high; omega)
    (repeat (first | apply cn | apply cq | apply cb | apply ck | apply cl | apply cx))
    apply cr
    refine s_ p_mv ?_
    refine s_ p_mv ?_
    refine s_ p_ne ?_
    refine s_ p_mv ?_
    refine gF (fun hg => p_loa) ?_
    refine gF (fun hg => p_loa) ?_
    refine gF (fun hg => p_ca (cs) (ha' := by refine evl_cons (u_ hg) ?_; refine evl_cons (u_ hg) ?_; exact evl_nil)) ?_
    refine gF (fun hg => p_no (hx := u_ hg)) ?_
    refine s_ p_or ?_
    refine s_ p_mv ?_
    refine gF (fun hg => p_loa) ?_
    refine gF (fun hg => p_ca (cc) (ha' := by refine evl_cons (u_ hg) ?_; exact evl_nil)) ?_
    refine gF (fun hg => p_ne (hx := u_ hg)) ?_
    refine s_ p_or ?_
    refine s_ p_mv ?_
    refine gF (fun hg => p_fr) ?_
    refine gF (fun hg => p_lo (hx := u_ hg)) ?_
    (first | refine gF (fun hg => p_ln (hx := u_ hg)) ?_ | refine gF (fun hg => p_lr (hx := u_ hg)) ?_)
    refine gF (fun hg => p_fr) ?_
    refine gF (fun hg => p_lo (hx := u_ hg)) ?_
    (first | refine gF (fun hg => p_ln (hx := u_ hg)) ?_ | refine gF (fun hg => p_lr (hx := u_ hg)) ?_)
    refine gF (fun hg => p_lt (hx := u_ hg) (hy := u_ hg)) ?_
    refine s_ p_or ?_
    (repeat (first | apply cn | apply cq | apply cb | apply ck | apply cl | apply cx))
    refine ci ?_ ?_
    · intro h
      exfalso
      simp only [hp.check, List.length_map] at h
      simp at h
      omega
    intro _
    (repeat (first | apply cn | apply cq | apply cb | apply ck | apply cl | apply cx))
    (repeat (first | apply cn | apply cq | apply cb | apply ck | apply cl | apply cx))
    refine ca [0, 1, 2, 3] [2, 3] ?_
    refine a_loa ?_
    refine a_loa ?_
    refine a_st ?_
    refine a_st ?_
    apply an
    (repeat (first | apply cn | apply cq | apply cb | apply ck | apply cl | apply cx))
    apply cr
    refine s_ p_mv ?_
    refine s_ p_ad ?_
    refine s_ p_as ?_
    (repeat (first | apply cn | apply cq | apply cb | apply ck | apply cl | apply cx))
    refine ⟨(i + 1, p), ⟨by simp only; omega, hp⟩, (by simp only []; omega), ?_, kS (kS (kK (kK kN)))⟩
    exact eL
  · intro _
    (repeat (first | apply cn | apply cq | apply cb | apply ck | apply cl | apply cx))
    apply cr
    refine s_ p_as ?_
    (repeat (first | apply cn | apply cq | apply cb | apply ck | apply cl | apply cx))
    (apply sim_ret; (try simp only [blockΨ_ret, thenΨ_ret, loopL_ret, cutΨ_ret, cutE_ret]); first | refine rt ?_ | refine rn ?_)
    exact Le.refl _
end Go.Proofs.Ythndbbjkkehjeaa
