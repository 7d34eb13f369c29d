/-
  What stands often, named once: a name's default says how it is shown.
-/
set_option maxRecDepth 16000
set_option maxHeartbeats 8000000
set_option linter.all false
namespace Go.Cap
theorem zM {P : Prop} (h : P := by ((repeat (apply LeL.cons; (first | exact Le.refl _ | exact Le.nil _ | exact Le.full _ _ | exact Le.any _ | (apply Le.agg; (repeat (apply LeL.cons; (first | exact Le.refl _ | exact Le.nil _ | exact Le.full _ _ | exact Le.any _))); exact LeL.nil) | (apply Le.tup; (repeat (apply LeL.cons; (first | exact Le.refl _ | exact Le.nil _ | exact Le.full _ _ | exact Le.any _ | (apply Le.agg; (repeat (apply LeL.cons; (first | exact Le.refl _ | exact Le.nil _ | exact Le.full _ _ | exact Le.any _))); exact LeL.nil)))); exact LeL.nil)))); exact LeL.nil)) : P := h
theorem zL {P : Prop} (h : P := by (first | exact Le.refl _ | exact Le.nil _ | exact Le.full _ _ | exact Le.any _ | (apply Le.agg; (repeat (apply LeL.cons; (first | exact Le.refl _ | exact Le.nil _ | exact Le.full _ _ | exact Le.any _))); exact LeL.nil) | (apply Le.tup; (repeat (apply LeL.cons; (first | exact Le.refl _ | exact Le.nil _ | exact Le.full _ _ | exact Le.any _ | (apply Le.agg; (repeat (apply LeL.cons; (first | exact Le.refl _ | exact Le.nil _ | exact Le.full _ _ | exact Le.any _))); exact LeL.nil)))); exact LeL.nil))) : P := h
theorem zrs {P : Prop} (h : P := by (repeat (first | exact Ch | (apply Cg; (focus ((repeat (apply gS; rfl)); exact gZ))) | (apply Gg; (focus ((repeat (apply gS; rfl)); exact gZ)); (focus (repeat (first | exact hZ | apply hS | apply hA))); (focus ((repeat (apply Xv.skip)); (repeat (apply Xv.cons)); exact Xv.nil _))) | (apply DN; (focus ((repeat (apply gS; rfl)); exact gZ)); (focus (repeat (first | exact hZ | apply hS | apply hA))); (focus rfl))))) : P := h
theorem zo {P : Prop} (h : P := by (first | omega | (simp only [List.length_map, List.length_replicate, List.length_append, List.length_cons, List.length_nil, List.length_take, List.length_drop, Int.toNat_natCast]; omega) | (simp only [List.length_map, List.length_replicate, List.length_append, List.length_cons, List.length_nil, List.length_take, List.length_drop, Int.toNat_natCast] at *; omega))) : P := h
theorem zpv {P : Prop} (h : P := by (repeat (apply Bo; focus (first | ((repeat (apply eS; rfl)); exact eZ) | exact W5 | exact Wj | exact W4 | exact Dp | exact Dq | exact Ds | exact Dr | exact Wh | exact Wg | exact Wi))); exact Tb) : P := h
theorem zq {P : Prop} (h : P := by (repeat (apply Bn; focus (first | ((repeat (apply eS; rfl)); exact eZ) | exact W5 | exact Wj | exact W4 | exact Dp | exact Dq | exact Ds | exact Dr | exact Wh | exact Wg | exact Wi))); exact Ta) : P := h
theorem ze {P : Prop} (h : P := by (repeat (apply Q1; focus (first | ((repeat (apply eS; rfl)); exact eZ) | exact W5 | exact Wj | exact W4 | exact Dp | exact Dq | exact Ds | exact Dr | exact Wh | exact Wg | exact Wi))); exact XZ) : P := h
theorem zl {P : Prop} (h : P := by first | ((repeat (apply eS; rfl)); exact eZ) | exact W5 | exact Wj | exact W4 | exact Dp | exact Dq | exact Ds | exact Dr | exact Wh | exact Wg | exact Wi) : P := h
theorem zd {P : Prop} (h : P := by (repeat (first | exact trivial | (apply And.intro; focus (intro hb; first | exact trivial | exact noB hb rfl | (repeat (first | exact hZ | apply hS | apply hA))))))) : P := h
theorem zf {P : Prop} (h : P := by (repeat (first | exact Gx | (apply Gy; intro _; rfl) | apply LF | apply Ec | apply Ed | (apply Ee; rfl)))) : P := h
theorem zk {P : Prop} (h : P := by (repeat (first | exact RY | (apply RZ; intro _; rfl) | apply De | apply Gt | apply Gu | (apply Gv; rfl)))) : P := h
theorem zt {P : Prop} (h : P := by ((repeat (apply Xv.skip)); (repeat (apply Xv.cons)); exact Xv.nil _)) : P := h
theorem zy {P : Prop} (h : P := by ((repeat (apply Zc.skip)); (repeat (apply Zc.cons)); exact Zc.nil _)) : P := h
theorem zU {P : Prop} (h : P := by intro hg; first | ((repeat (apply eS; rfl)); exact eZ) | exact u_ hg) : P := h
theorem zm {P : Prop} (h : P := by (repeat (first | exact hZ | apply hS | apply hA))) : P := h
theorem zr {P : Prop} (h : P := by (repeat (first | exact rZ | apply rS | apply rA))) : P := h
theorem zG {P : Prop} (h : P := by (repeat (apply gS; rfl)); exact gZ) : P := h
theorem zC {Q P : Prop} (q : Q) (h : Q → P := by intro q; (repeat (first | apply cn | apply cq | apply cb | apply ck | apply cl | apply cx)); exact q) : P := h q
theorem zR {Q P : Prop} (q : Q) (h : Q → P := by intro q; (apply Yf; (try simp only [Yc, YC, Zt, Vs, Vt])); exact q) : P := h q
theorem zE {Q P : Prop} (q : Q) (h : Q → P := by intro q; (apply Yf; (try simp only [Yc, YC, Zt, Vs, Vt]); first | refine rt ?_ | refine rn ?_); exact q) : P := h q
theorem zD {Q P : Prop} (q : Q) (h : Q → P := by intro q; (apply Exists.intro; apply And.intro; (focus (repeat (first | exact XV.nil | apply XV.dropL rfl | apply XV.keep)))); exact q) : P := h q
end Go.Cap
