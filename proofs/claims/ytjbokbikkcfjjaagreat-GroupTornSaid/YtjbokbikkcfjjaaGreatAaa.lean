/-
  What stands often, named once: a name's default says how it is shown.
-/
set_option maxRecDepth 16000
set_option maxHeartbeats 8000000
set_option linter.all false
namespace Go.Cap
theorem zM {P : Prop} (h : P := by ((repeat (apply LeL.cons; (first | exact Le.refl _ | exact Le.nil _ | exact Le.full _ _ | exact Le.any _ | (apply Le.agg; (repeat (apply LeL.cons; (first | exact Le.refl _ | exact Le.nil _ | exact Le.full _ _ | exact Le.any _))); exact LeL.nil) | (apply Le.tup; (repeat (apply LeL.cons; (first | exact Le.refl _ | exact Le.nil _ | exact Le.full _ _ | exact Le.any _ | (apply Le.agg; (repeat (apply LeL.cons; (first | exact Le.refl _ | exact Le.nil _ | exact Le.full _ _ | exact Le.any _))); exact LeL.nil)))); exact LeL.nil)))); exact LeL.nil)) : P := h
theorem zL {P : Prop} (h : P := by (first | exact Le.refl _ | exact Le.nil _ | exact Le.full _ _ | exact Le.any _ | (apply Le.agg; (repeat (apply LeL.cons; (first | exact Le.refl _ | exact Le.nil _ | exact Le.full _ _ | exact Le.any _))); exact LeL.nil) | (apply Le.tup; (repeat (apply LeL.cons; (first | exact Le.refl _ | exact Le.nil _ | exact Le.full _ _ | exact Le.any _ | (apply Le.agg; (repeat (apply LeL.cons; (first | exact Le.refl _ | exact Le.nil _ | exact Le.full _ _ | exact Le.any _))); exact LeL.nil)))); exact LeL.nil))) : P := h
theorem zrs {P : Prop} (h : P := by (repeat (first | exact R3 | (apply R2; (focus ((repeat (apply gS; rfl)); exact gZ))) | (apply Ec; (focus ((repeat (apply gS; rfl)); exact gZ)); (focus (repeat (first | exact hZ | apply hS | apply hA))); (focus ((repeat (apply Xs.skip)); (repeat (apply Xs.cons)); exact Xs.nil _))) | (apply MU; (focus ((repeat (apply gS; rfl)); exact gZ)); (focus (repeat (first | exact hZ | apply hS | apply hA))); (focus rfl))))) : P := h
theorem zo {P : Prop} (h : P := by (first | omega | (simp only [List.length_map, List.length_replicate, List.length_append, List.length_cons, List.length_nil, List.length_take, List.length_drop, Int.toNat_natCast]; omega) | (simp only [List.length_map, List.length_replicate, List.length_append, List.length_cons, List.length_nil, List.length_take, List.length_drop, Int.toNat_natCast] at *; omega))) : P := h
theorem zpv {P : Prop} (h : P := by (repeat (apply I1; focus (first | ((repeat (apply eS; rfl)); exact eZ) | exact Ue | exact VB | exact Ws | exact Wr | exact Mt | exact Mv | exact Mu | exact Vz | exact Vy | exact VA))); exact BF) : P := h
theorem zq {P : Prop} (h : P := by (repeat (apply I0; focus (first | ((repeat (apply eS; rfl)); exact eZ) | exact Ue | exact VB | exact Ws | exact Wr | exact Mt | exact Mv | exact Mu | exact Vz | exact Vy | exact VA))); exact BE) : P := h
theorem ze {P : Prop} (h : P := by (repeat (apply QK; focus (first | ((repeat (apply eS; rfl)); exact eZ) | exact Ue | exact VB | exact Ws | exact Wr | exact Mt | exact Mv | exact Mu | exact Vz | exact Vy | exact VA))); exact XE) : P := h
theorem zl {P : Prop} (h : P := by first | ((repeat (apply eS; rfl)); exact eZ) | exact Ue | exact VB | exact Ws | exact Wr | exact Mt | exact Mv | exact Mu | exact Vz | exact Vy | exact VA) : P := h
theorem zd {P : Prop} (h : P := by (repeat (first | exact trivial | (apply And.intro; focus (intro hb; first | exact trivial | exact noB hb rfl | (repeat (first | exact hZ | apply hS | apply hA))))))) : P := h
theorem zf {P : Prop} (h : P := by (repeat (first | exact Es | (apply Et; intro _; rfl) | apply WW | apply De | apply Df | (apply Dg; rfl)))) : P := h
theorem zk {P : Prop} (h : P := by (repeat (first | exact OK | (apply OL; intro _; rfl) | apply Ml | apply Em | apply Eo | (apply Ep; rfl)))) : P := h
theorem zt {P : Prop} (h : P := by ((repeat (apply Xs.skip)); (repeat (apply Xs.cons)); exact Xs.nil _)) : P := h
theorem zy {P : Prop} (h : P := by ((repeat (apply ZB.skip)); (repeat (apply ZB.cons)); exact ZB.nil _)) : P := h
theorem zU {P : Prop} (h : P := by intro hg; first | ((repeat (apply eS; rfl)); exact eZ) | exact u_ hg) : P := h
theorem zm {P : Prop} (h : P := by (repeat (first | exact hZ | apply hS | apply hA))) : P := h
theorem zr {P : Prop} (h : P := by (repeat (first | exact rZ | apply rS | apply rA))) : P := h
theorem zG {P : Prop} (h : P := by (repeat (apply gS; rfl)); exact gZ) : P := h
theorem zC {Q P : Prop} (q : Q) (h : Q → P := by intro q; (repeat (first | apply cn | apply cq | apply cb | apply ck | apply cl | apply cx)); exact q) : P := h q
theorem zR {Q P : Prop} (q : Q) (h : Q → P := by intro q; (apply Yt; (try simp only [YL, Zc, JS, DJ, DK])); exact q) : P := h q
theorem zE {Q P : Prop} (q : Q) (h : Q → P := by intro q; (apply Yt; (try simp only [YL, Zc, JS, DJ, DK]); first | refine rt ?_ | refine rn ?_); exact q) : P := h q
theorem zD {Q P : Prop} (q : Q) (h : Q → P := by intro q; (apply Exists.intro; apply And.intro; (focus (repeat (first | exact XI.nil | apply XI.dropL rfl | apply XI.keep)))); exact q) : P := h q
end Go.Cap
