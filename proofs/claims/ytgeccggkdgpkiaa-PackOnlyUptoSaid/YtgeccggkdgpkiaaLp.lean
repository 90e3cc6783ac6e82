/- The lifted walk: tests that split it, calls to which memory is lent; pointers that are looked at; arrays out of slices. -/
import Derived.Test.YtgeccggkdgpkiaaLn
namespace Go.Proofs.Ytgeccggkdgpkiaa
open Go.RowKit Rg
namespace Lf
/-- What a call meets is as it must be. -/
def TPre (mi : Mem) : Mem → Mem → Prop
  | [], _ => True
  | (i, _) :: r, mem => aget mem i = aget mi i ∧ TPre mi r mem
theorem tpre_callT {mi mo mem : Mem} (h : TPre mi mo mem) : tpre (callT mi mo) mem := by
  intro i m m' hi
  induction mo with
  | nil => cases hi
  | cons x r ih =>
    obtain ⟨j, n⟩ := x
    simp only [callT, List.map_cons, List.mem_cons] at hi
    rcases hi with hi | hi
    · cases hi; exact h.1
    · exact ih h.2 hi
section
variable {P : Program} {F : Fr0} {N : Nat} {Q : LQ} {env : Env} {mem : Mem} {ops : Array Oper} {o : Oper} {rs : List Oper} {v : V} {d : Nat}
/-- A test that is not decided parts the walk. -/
theorem LS.ppD {p : Prop} {dp : Decidable p} (hg : gd ops env o = some true) (hds : o.dst = some d) (h : Does P o env (.k (.bool (decide p))) []) (hd : Nat.blt d N = true) (h1 : p → LS P F N ops rs Q ((d, .k (.bool true)) :: env) mem) (h2 : ¬ p → LS P F N ops rs Q ((d, .k (.bool false)) :: env) mem) : LS P F N ops (o :: rs) Q env mem := by
  by_cases hp : p
  · rw [decide_eq_true hp] at h; exact LS.pp hg hds h hd (h1 hp)
  · rw [decide_eq_false hp] at h; exact LS.pp hg hds h hd (h2 hp)
theorem LS.ppB {b : Bool} (hg : gd ops env o = some true) (hds : o.dst = some d) (h : Does P o env (.k (.bool b)) []) (hd : Nat.blt d N = true) (h1 : b = true → LS P F N ops rs Q ((d, .k (.bool true)) :: env) mem) (h2 : b = false → LS P F N ops rs Q ((d, .k (.bool false)) :: env) mem) : LS P F N ops (o :: rs) Q env mem := by
  cases b
  · exact LS.pp hg hds h hd (h2 rfl)
  · exact LS.pp hg hds h hd (h1 rfl)
/-- A value that is told otherwise. -/
theorem LS.ppV {u : V} (hg : gd ops env o = some true) (hds : o.dst = some d) (h : Does P o env u []) (hv : u = v) (hd : Nat.blt d N = true) (hK : LS P F N ops rs Q ((d, v) :: env) mem) : LS P F N ops (o :: rs) Q env mem := by subst hv; exact LS.pp hg hds h hd hK
/-- A call to which memory is lent. -/
theorem LS.cm {mi mo : Mem} (hg : gd ops env o = some true) (hds : o.dst = some d) (h : Does P o env v (callT mi mo)) (ht : TPre mi mo mem) (hd : Nat.blt d N = true) (hK : LS P F N ops rs Q ((d, v) :: env) (mo ++ mem)) : LS P F N ops (o :: rs) Q env mem :=
  LS.step hg h (tpre_callT ht) (by rw [hds]; exact hd) (by rw [hds, tset_call]; exact hK)
theorem LS.cz {mi mo : Mem} (hg : gd ops env o = some true) (hds : o.dst = none) (h : Does P o env v (callT mi mo)) (ht : TPre mi mo mem) (hK : LS P F N ops rs Q env (mo ++ mem)) : LS P F N ops (o :: rs) Q env mem :=
  LS.step hg h (tpre_callT ht) (by rw [hds]; rfl) (by rw [hds, tset_call]; exact hK)
theorem LS.pa {t : Tch} (hg : gd ops env o = some true) (h : Pans P o env v t) (ht : tpre t mem) (hQ : Q (.pan v) env (tset t mem)) : LS P F N ops (o :: rs) Q env mem := LS.pan hg h ht hQ
theorem LS.pc {mi mo : Mem} (hg : gd ops env o = some true) (h : Pans P o env v (callT mi mo)) (ht : TPre mi mo mem) (hQ : Q (.pan v) env (mo ++ mem)) : LS P F N ops (o :: rs) Q env mem := LS.pan hg h (tpre_callT ht) (by rw [tset_call]; exact hQ)
end
section
variable {P : Program} {N : Nat} {ops : Array Oper} {chk : List (Nat × Tch) → Bool} {K : Env → Mem → Prop} {acc : List (Nat × Tch)} {env : Env} {mem : Mem} {i d : Nat} {o : Oper} {rs : List (Nat × Oper)} {v : V}
theorem DR.ppD {p : Prop} {dp : Decidable p} (hg : gd ops env o = some true) (hds : o.dst = some d) (h : Does P o env (.k (.bool (decide p))) []) (hd : Nat.blt d N = true) (h1 : p → DR P N ops chk K rs ((i, []) :: acc) ((d, .k (.bool true)) :: env) mem) (h2 : ¬ p → DR P N ops chk K rs ((i, []) :: acc) ((d, .k (.bool false)) :: env) mem) : DR P N ops chk K ((i, o) :: rs) acc env mem := by
  by_cases hp : p
  · rw [decide_eq_true hp] at h; exact DR.pp hg hds h hd (h1 hp)
  · rw [decide_eq_false hp] at h; exact DR.pp hg hds h hd (h2 hp)
theorem DR.ppB {b : Bool} (hg : gd ops env o = some true) (hds : o.dst = some d) (h : Does P o env (.k (.bool b)) []) (hd : Nat.blt d N = true) (h1 : b = true → DR P N ops chk K rs ((i, []) :: acc) ((d, .k (.bool true)) :: env) mem) (h2 : b = false → DR P N ops chk K rs ((i, []) :: acc) ((d, .k (.bool false)) :: env) mem) : DR P N ops chk K ((i, o) :: rs) acc env mem := by
  cases b
  · exact DR.pp hg hds h hd (h2 rfl)
  · exact DR.pp hg hds h hd (h1 rfl)
theorem DR.ppV {u : V} (hg : gd ops env o = some true) (hds : o.dst = some d) (h : Does P o env u []) (hv : u = v) (hd : Nat.blt d N = true) (hK : DR P N ops chk K rs ((i, []) :: acc) ((d, v) :: env) mem) : DR P N ops chk K ((i, o) :: rs) acc env mem := by subst hv; exact DR.pp hg hds h hd hK
theorem DR.cm {mi mo : Mem} (hg : gd ops env o = some true) (hds : o.dst = some d) (h : Does P o env v (callT mi mo)) (ht : TPre mi mo mem) (hd : Nat.blt d N = true) (hK : DR P N ops chk K rs ((i, callT mi mo) :: acc) ((d, v) :: env) (mo ++ mem)) : DR P N ops chk K ((i, o) :: rs) acc env mem :=
  .run (by rw [hds]; exact hd) hg h (tpre_callT ht) (by rw [hds, tset_call]; exact hK)
theorem DR.cz {mi mo : Mem} (hg : gd ops env o = some true) (hds : o.dst = none) (h : Does P o env v (callT mi mo)) (ht : TPre mi mo mem) (hK : DR P N ops chk K rs ((i, callT mi mo) :: acc) env (mo ++ mem)) : DR P N ops chk K ((i, o) :: rs) acc env mem :=
  .run (by rw [hds]; rfl) hg h (tpre_callT ht) (by rw [hds, tset_call]; exact hK)
end
section
variable {P : Program} {o : Oper} {env : Env} {v : V}
/-- It is a pointer or a function that there is. -/
def V.some' : V → Bool
  | .p .. | .q _ | .pw .. | .f (.func _) _ _ | .i .. => true
  | _ => false
theorem Does.nilCheck {i off : Nat} {x : Operand} (ho : o.op = .nilCheck x) (hx : evo env x = some (.p i off)) : Does P o env (.p i off) [] :=
  .pure fun F g a w mem hr _ => by
    have h := hr x (by simp [ho, Op.operands]) _ hx
    refine ⟨a.eval x, ?_, h⟩
    generalize hy : a.eval x = y at h
    cases h
    simp [execOp, ho, hy]
theorem Does.nilCheckQ {x : Operand} {cs : List V} (ho : o.op = .nilCheck x) (hx : evo env x = some (.q cs)) : Does P o env (.q cs) [] :=
  .pure fun F g a w mem hr _ => by
    have h := hr x (by simp [ho, Op.operands]) _ hx
    refine ⟨a.eval x, ?_, h⟩
    generalize hy : a.eval x = y at h
    cases h
    simp [execOp, ho, hy]
theorem Does.nilCheckF {x : Operand} {fx : Nat} {fi ca : List V} (ho : o.op = .nilCheck x) (hx : evo env x = some (.f (.func fx) fi ca)) : Does P o env (.f (.func fx) fi ca) [] :=
  .pure fun F g a w mem hr _ => by
    have h := hr x (by simp [ho, Op.operands]) _ hx
    refine ⟨a.eval x, ?_, h⟩
    generalize hy : a.eval x = y at h
    cases h
    simp [execOp, ho, hy]
/-- A slice taken for an array. -/
theorem Does.arrAt {T n e : Nat} {x : Operand} {t : Option Nat} {es : List V} (X : TOk P) {ti : TI} (ho : o.op = .sliceToArrayPointer T x) (hx : evo env x = some (.s t es)) (hT : aget X.tab T = some ti) (hd : ti.d = .arr n e) (hn : n ≤ es.length) (h0 : Nat.blt 0 n = true) : Does P o env (.q (es.flatMap V.cells)) [] :=
  .pure fun F g a w mem hr _ => by
    have h := hr x (by simp [ho, Op.operands]) _ hx
    have h0' : 0 < n := Nat.le_of_ble_eq_true h0
    generalize hy : a.eval x = y at h
    cases h with
    | s0 => simp at hn; omega
    | se => simp at hn; omega
    | @s _ _ _ b off cap size xs h1 hm hp hs hx' hc ht =>
      have hnl : ¬ es.length < n := by omega
      refine ⟨.pointer (some ⟨b, off, none⟩), ?_, .q xs (fun u hu => ?_) hx' hc⟩
      · simp [execOp, ho, hy, Instr.arrayAt, run_underlying ((X.get hT).arr hd), hnl]
      · obtain ⟨e, he, hu⟩ := List.mem_flatMap.1 hu
        exact (hs e he).2 u hu
theorem Does.arrAtSb {T n e b off m cap : Nat} {x : Operand} (X : TOk P) {ti : TI} (ho : o.op = .sliceToArrayPointer T x) (hx : evo env x = some (.sb b off m cap)) (hT : aget X.tab T = some ti) (hd : ti.d = .arr n e) (hn : n ≤ m) : Does P o env (.p b off) [] :=
  .pure fun F g a w mem hr _ => by
    have h := hr x (by simp [ho, Op.operands]) _ hx
    generalize hy : a.eval x = y at h
    cases h with
    | @sb _ _ _ _ _ b' bo hp =>
      have hnl : ¬ m < n := by omega
      refine ⟨.pointer (some ⟨b', bo + off, none⟩), ?_, .p hp⟩
      simp [execOp, ho, hy, Instr.arrayAt, run_underlying ((X.get hT).arr hd), hnl]
end
end Lf
end Go.Proofs.Ytgeccggkdgpkiaa
