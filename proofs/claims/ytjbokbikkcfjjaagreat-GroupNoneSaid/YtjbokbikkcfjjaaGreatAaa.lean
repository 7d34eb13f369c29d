/-
  What stands often, named once: a name's default says how it is shown.
-/
set_option maxRecDepth 16000
set_option maxHeartbeats 8000000
set_option linter.all false
namespace Go.Cap
theorem zM {P : Prop} (h : P := by ((repeat (apply LeL.cons; (first | exact Le.refl _ | exact Le.nil _ | exact Le.full _ _ | exact Le.any _ | (apply Le.agg; (repeat (apply LeL.cons; (first | exact Le.refl _ | exact Le.nil _ | exact Le.full _ _ | exact Le.any _))); exact LeL.nil) | (apply Le.tup; (repeat (apply LeL.cons; (first | exact Le.refl _ | exact Le.nil _ | exact Le.full _ _ | exact Le.any _ | (apply Le.agg; (repeat (apply LeL.cons; (first | exact Le.refl _ | exact Le.nil _ | exact Le.full _ _ | exact Le.any _))); exact LeL.nil)))); exact LeL.nil)))); exact LeL.nil)) : P := h
theorem zL {P : Prop} (h : P := by (first | exact Le.refl _ | exact Le.nil _ | exact Le.full _ _ | exact Le.any _ | (apply Le.agg; (repeat (apply LeL.cons; (first | exact Le.refl _ | exact Le.nil _ | exact Le.full _ _ | exact Le.any _))); exact LeL.nil) | (apply Le.tup; (repeat (apply LeL.cons; (first | exact Le.refl _ | exact Le.nil _ | exact Le.full _ _ | exact Le.any _ | (apply Le.agg; (repeat (apply LeL.cons; (first | exact Le.refl _ | exact Le.nil _ | exact Le.full _ _ | exact Le.any _))); exact LeL.nil)))); exact LeL.nil))) : P := h
theorem zrs {P : Prop} (h : P := by (repeat (first | exact GZ | (apply GY; (focus ((repeat (apply gS; rfl)); exact gZ))) | (apply MQ; (focus ((repeat (apply gS; rfl)); exact gZ)); (focus (repeat (first | exact hZ | apply hS | apply hA))); (focus ((repeat (apply Xk.skip)); (repeat (apply Xk.cons)); exact Xk.nil _))) | (apply LG; (focus ((repeat (apply gS; rfl)); exact gZ)); (focus (repeat (first | exact hZ | apply hS | apply hA))); (focus rfl))))) : P := h
theorem zo {P : Prop} (h : P := by (first | omega | (simp only [List.length_map, List.length_replicate, List.length_append, List.length_cons, List.length_nil, List.length_take, List.length_drop, Int.toNat_natCast]; omega) | (simp only [List.length_map, List.length_replicate, List.length_append, List.length_cons, List.length_nil, List.length_take, List.length_drop, Int.toNat_natCast] at *; omega))) : P := h
theorem zpv {P : Prop} (h : P := by (repeat (apply OZ; focus (first | ((repeat (apply eS; rfl)); exact eZ) | exact Jk | exact Uh | exact VA | exact Vz | exact Li | exact Lk | exact Lj | exact UX | exact UW | exact UY))); exact Ip) : P := h
theorem zq {P : Prop} (h : P := by (repeat (apply OY; focus (first | ((repeat (apply eS; rfl)); exact eZ) | exact Jk | exact Uh | exact VA | exact Vz | exact Li | exact Lk | exact Lj | exact UX | exact UW | exact UY))); exact Io) : P := h
theorem ze {P : Prop} (h : P := by (repeat (apply Qp; focus (first | ((repeat (apply eS; rfl)); exact eZ) | exact Jk | exact Uh | exact VA | exact Vz | exact Li | exact Lk | exact Lj | exact UX | exact UW | exact UY))); exact Xj) : P := h
theorem zl {P : Prop} (h : P := by first | ((repeat (apply eS; rfl)); exact eZ) | exact Jk | exact Uh | exact VA | exact Vz | exact Li | exact Lk | exact Lj | exact UX | exact UW | exact UY) : P := h
theorem zd {P : Prop} (h : P := by (repeat (first | exact trivial | (apply And.intro; focus (intro hb; first | exact trivial | exact noB hb rfl | (repeat (first | exact hZ | apply hS | apply hA))))))) : P := h
theorem zf {P : Prop} (h : P := by (repeat (first | exact M1 | (apply M2; intro _; rfl) | apply VY | apply L1 | apply L2 | (apply L3; rfl)))) : P := h
theorem zk {P : Prop} (h : P := by (repeat (first | exact ER | (apply ES; intro _; rfl) | apply W9 | apply MX | apply MY | (apply MZ; rfl)))) : P := h
theorem zt {P : Prop} (h : P := by ((repeat (apply Xk.skip)); (repeat (apply Xk.cons)); exact Xk.nil _)) : P := h
theorem zy {P : Prop} (h : P := by ((repeat (apply Zn.skip)); (repeat (apply Zn.cons)); exact Zn.nil _)) : P := h
theorem zU {P : Prop} (h : P := by intro hg; first | ((repeat (apply eS; rfl)); exact eZ) | exact u_ hg) : P := h
theorem zm {P : Prop} (h : P := by (repeat (first | exact hZ | apply hS | apply hA))) : P := h
theorem zr {P : Prop} (h : P := by (repeat (first | exact rZ | apply rS | apply rA))) : P := h
theorem zG {P : Prop} (h : P := by (repeat (apply gS; rfl)); exact gZ) : P := h
theorem zC {Q P : Prop} (q : Q) (h : Q → P := by intro q; (repeat (first | apply cn | apply cq | apply cb | apply ck | apply cl | apply cx)); exact q) : P := h q
theorem zR {Q P : Prop} (q : Q) (h : Q → P := by intro q; (apply X1; (try simp only [Yi, YI, Jp, Mt, Mu])); exact q) : P := h q
theorem zE {Q P : Prop} (q : Q) (h : Q → P := by intro q; (apply X1; (try simp only [Yi, YI, Jp, Mt, Mu]); first | refine rt ?_ | refine rn ?_); exact q) : P := h q
theorem zD {Q P : Prop} (q : Q) (h : Q → P := by intro q; (apply Exists.intro; apply And.intro; (focus (repeat (first | exact Xx.nil | apply Xx.dropL rfl | apply Xx.keep)))); exact q) : P := h q
end Go.Cap
