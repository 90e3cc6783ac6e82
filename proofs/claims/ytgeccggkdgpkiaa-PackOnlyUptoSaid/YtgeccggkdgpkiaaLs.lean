/- The lifted walk's steps; sums that do not wrap. -/
import Derived.Test.YtgeccggkdgpkiaaLop4
import Derived.LoopN
namespace Go.Proofs.Ytgeccggkdgpkiaa
open Go.RowKit Rg
namespace Lf
section
variable {P : Program} {F : Fr0} {N : Nat} {Q : LQ} {env : Env} {mem : Mem} {ops : Array Oper} {o : Oper} {rs : List Oper} {v : V} {d i : Nat} {m : Option M} {m' mm : M}
theorem LS.pp (hg : gd ops env o = some true) (hds : o.dst = some d) (h : Does P o env v []) (hd : Nat.blt d N = true) (hK : LS P F N ops rs Q ((d, v) :: env) mem) : LS P F N ops (o :: rs) Q env mem :=
  LS.step hg h tpre_nil (by rw [hds]; exact hd) (by rw [hds]; exact hK)
theorem LS.rr (hg : gd ops env o = some true) (hds : o.dst = some d) (h : Does P o env v [(i, some mm, none)]) (ht : aget mem i = some mm) (hd : Nat.blt d N = true) (hK : LS P F N ops rs Q ((d, v) :: env) mem) : LS P F N ops (o :: rs) Q env mem :=
  LS.step hg h (tpre_one ht) (by rw [hds]; exact hd) (by rw [hds]; exact hK)
theorem LS.ww (hg : gd ops env o = some true) (hds : o.dst = some d) (h : Does P o env v [(i, m, some m')]) (ht : aget mem i = m) (hd : Nat.blt d N = true) (hK : LS P F N ops rs Q ((d, v) :: env) ((i, m') :: mem)) : LS P F N ops (o :: rs) Q env mem :=
  LS.step hg h (tpre_one ht) (by rw [hds]; exact hd) (by rw [hds]; exact hK)
/-- A new box or row, by its slot's number. -/
theorem LS.nn (hg : gd ops env o = some true) (hds : o.dst = some d) (h : Does P o env v [(d, none, some m')]) (ht : aget mem d = none) (hd : Nat.blt d N = true) (hK : LS P F N ops rs Q ((d, v) :: env) ((d, m') :: mem)) : LS P F N ops (o :: rs) Q env mem :=
  LS.step hg h (tpre_one ht) (by rw [hds]; exact hd) (by rw [hds]; exact hK)
theorem LS.ss (hg : gd ops env o = some true) (hds : o.dst = none) (h : Does P o env v [(i, m, some m')]) (ht : aget mem i = m) (hK : LS P F N ops rs Q env ((i, m') :: mem)) : LS P F N ops (o :: rs) Q env mem :=
  LS.step hg h (tpre_one ht) (by rw [hds]; rfl) (by rw [hds]; exact hK)
theorem LS.pz (hg : gd ops env o = some true) (hds : o.dst = none) (h : Does P o env v []) (hK : LS P F N ops rs Q env mem) : LS P F N ops (o :: rs) Q env mem :=
  LS.step hg h tpre_nil (by rw [hds]; rfl) (by rw [hds]; exact hK)
theorem LS.skip (hg : gd ops env o = some false) (hds : o.dst = some d) (hd : Nat.blt d N = true) (hK : LS P F N ops rs Q ((d, .k undef) :: env) mem) : LS P F N ops (o :: rs) Q env mem :=
  LS.pass hg (by rw [hds]; exact hd) (by rw [hds]; exact hK)
theorem LS.ld {T off : Nat} {x : Operand} {cs : List V} (X : TOk P) {ti : TI} (hg : gd ops env o = some true) (hds : o.dst = some d) (ho : o.op = .load T x) (hx : evo env x = some (.p i off)) (hm : aget mem i = some (.b cs)) (hT : aget X.tab T = some ti) (hv : ti.part cs off = some v) (hd : Nat.blt d N = true) (hK : LS P F N ops rs Q ((d, v) :: env) mem) : LS P F N ops (o :: rs) Q env mem :=
  LS.rr hg hds (Does.load X ho hx hm hT hv) hm hd hK
theorem LS.st {T off : Nat} {x y : Operand} {cs cs' : List V} {u : V} (X : TOk P) {ti : TI} (hg : gd ops env o = some true) (hds : o.dst = none) (ho : o.op = .store T x y) (hx : evo env x = some (.p i off)) (hy : evo env y = some u) (hm : aget mem i = some (.b cs)) (hT : aget X.tab T = some ti) (hu : u.ok = true) (hs : Nat.beq u.cells.length ti.size = true) (hle : Nat.ble (off + u.cells.length) cs.length = true) (hcs : splice cs off u.cells = cs')
    (hK : LS P F N ops rs Q env ((i, .b cs') :: mem)) : LS P F N ops (o :: rs) Q env mem :=
  LS.ss hg hds (Does.store X ho hx hy hm hT hu hs hle hcs) hm hK
theorem LS.ap {T Tx E Ex sz : Nat} {x y : Operand} {t : Option Nat} {es ys : List V} (X : TOk P) {ti xi ei : TI} (hg : gd ops env o = some true) (hds : o.dst = some d) (ho : o.op = .call { callee := .builtin .append, args := #[x, y], argTypes := #[T, Tx] }) (hx : evo env x = some (.s (some i) es)) (hy : evo env y = some (.s t ys))
    {n0 : Nat} (hm : aget mem i = some (.r E sz n0)) (hn0 : es.length = n0) (hT : aget X.tab T = some ti) (hdt : ti.d = .sl E) (hE : aget X.tab E = some ei) (hsz : ei.size = sz) (hX : aget X.tab Tx = some xi) (hdx : xi.d = .sl Ex)
    (hes : ∀ e ∈ es, e.cells.length = sz) (hys : ∀ e ∈ ys, e.cells.length = sz) {n : Nat} (hn : es.length + ys.length = n) (hmax : n ≤ 140737488355328) (hb : n * ei.bytes ≤ 140737488355328) (hd : Nat.blt d N = true) (hK : LS P F N ops rs Q ((d, .s (some i) (es ++ ys)) :: env) ((i, .r E sz n) :: mem)) : LS P F N ops (o :: rs) Q env mem :=
  LS.ww hg hds (Does.app X ho hx hy (by rw [hn0]; exact hm) hT hdt hE hsz hX hdx hes hys hn hmax hb) (by rw [hn0]; exact hm) hd hK
/-! Gates: which kind of operation it is, before its rules are tried. -/
theorem Does.gB {t : Tch} {b : BinOp} {T Y : Nat} {x y : Operand} (ho : o.op = .binOp b T x y Y) (h : Does P o env v t) : Does P o env v t := (fun _ => h) ho
theorem Does.gC {t : Tch} {c : Call} (ho : o.op = .call c) (h : Does P o env v t) : Does P o env v t := (fun _ => h) ho
theorem Does.gI {t : Tch} {T : Nat} {x y : Operand} (ho : o.op = .indexAddr T x y) (h : Does P o env v t) : Does P o env v t := (fun _ => h) ho
theorem Does.gF {t : Tch} {T f : Nat} {x : Operand} (ho : o.op = .fieldAddr T x f) (h : Does P o env v t) : Does P o env v t := (fun _ => h) ho
theorem Does.gU {t : Tch} {T : Nat} {u : UnOp} {x : Operand} (ho : o.op = .unOp u T x) (h : Does P o env v t) : Does P o env v t := (fun _ => h) ho
theorem LC.ite {c : Operand} {x y : Code} {b : Bool} (hc : evo env c = some (.k (.bool b))) (h : (b = true → LC P F N x Q env mem) ∧ (b = false → LC P F N y Q env mem)) : LC P F N (.cond c x y) Q env mem := .cond hc h.1 h.2
end
/-- A loop of at most n rounds. -/
def LRd (P : Program) (F : Fr0) (N : Nat) (c : Code) (Q : LQ) : Nat → Env → Mem → Prop
  | 0, _, _ => False
  | n + 1, env, mem => LC P F N c (LThen (LRd P F N c Q n) Q) env mem
theorem LC.rounds {P : Program} {F : Fr0} {N : Nat} {Q : LQ} {c : Code} (n : Nat) {env : Env} {mem : Mem} (h : LRd P F N c Q n env mem) : LC P F N (.loop c) Q env mem := by
  refine ⟨fun g a w hr => wp_loop_rounds n ?_⟩
  induction n generalizing env mem g a w with
  | zero => exact h.elim
  | succ n ih =>
    rw [rounds_succ]
    refine wp_mono (LC.go h g a w hr) fun e a' w' ⟨en, me, g', le, h1, h3, h2⟩ => ?_
    cases le with
    | normal => cases h3; exact ih h2 g' a' w' h1
    | pan v => obtain ⟨x, rfl, hx⟩ := h3; exact ⟨en, me, g', .pan v, h1, ⟨x, rfl, hx⟩, h2⟩
    | exit id => cases h3; exact ⟨en, me, g', .exit id, h1, rfl, h2⟩
    | goto id => cases h3; exact ⟨en, me, g', .goto id, h1, rfl, h2⟩
    | ret => cases h3; exact ⟨en, me, g', .ret, h1, rfl, h2⟩
theorem wrap_i64 {z : Int} (h : -9223372036854775808 ≤ z ∧ z ≤ 9223372036854775807) : IntKind.i64.wrap z = z := by
  simp only [IntKind.wrap, IntKind.bits, IntKind.signed]
  have e1 : (2 : Int) ^ 64 = 18446744073709551616 := by decide
  have e2 : (2 : Int) ^ (64 - 1) = 9223372036854775808 := by decide
  simp only [e1, e2, Bool.true_and, decide_eq_true_eq]
  split <;> omega
theorem wrap_u64 {z : Int} (h : 0 ≤ z ∧ z ≤ 18446744073709551615) : IntKind.u64.wrap z = z := by
  simp only [IntKind.wrap, IntKind.bits, IntKind.signed]
  have e1 : (2 : Int) ^ 64 = 18446744073709551616 := by decide
  simp only [e1, Bool.false_and, Bool.false_eq_true, if_false]
  omega
theorem wrap_u8 {z : Int} (h : 0 ≤ z ∧ z ≤ 255) : IntKind.u8.wrap z = z := by
  simp only [IntKind.wrap, IntKind.bits, IntKind.signed]
  have e1 : (2 : Int) ^ 8 = 256 := by decide
  simp only [e1, Bool.false_and, Bool.false_eq_true, if_false]
  omega
theorem add_i64 {a b : Nat} (h : a + b ≤ 9223372036854775807) : IntKind.i64.wrap ((a : Int) + (b : Int)) = ((a + b : Nat) : Int) := by rw [wrap_i64 (by omega)]; omega
theorem sub_i64 {a b : Nat} (h : b ≤ a) (h2 : a ≤ 9223372036854775807) : IntKind.i64.wrap ((a : Int) - (b : Int)) = ((a - b : Nat) : Int) := by rw [wrap_i64 (by omega)]; omega
theorem mul_i64 {a b : Nat} (h : a * b ≤ 9223372036854775807) : IntKind.i64.wrap ((a : Int) * (b : Int)) = ((a * b : Nat) : Int) := by
  have : ((a : Int) * (b : Int)) = ((a * b : Nat) : Int) := by simp
  rw [this, wrap_i64 (by omega)]
theorem add_u64 {a b : Nat} (h : a + b ≤ 18446744073709551615) : IntKind.u64.wrap ((a : Int) + (b : Int)) = ((a + b : Nat) : Int) := by rw [wrap_u64 (by omega)]; omega
theorem sub_u64 {a b : Nat} (h : b ≤ a) (h2 : a ≤ 18446744073709551615) : IntKind.u64.wrap ((a : Int) - (b : Int)) = ((a - b : Nat) : Int) := by rw [wrap_u64 (by omega)]; omega
/-! The same with a literal. -/
theorem add_i64r {a b : Nat} (h : a + OfNat.ofNat b ≤ 9223372036854775807) : IntKind.i64.wrap ((a : Int) + OfNat.ofNat b) = ((a + OfNat.ofNat b : Nat) : Int) := add_i64 (b := b) h
theorem sub_i64r {a b : Nat} (h : OfNat.ofNat b ≤ a) (h2 : a ≤ 9223372036854775807) : IntKind.i64.wrap ((a : Int) - OfNat.ofNat b) = ((a - OfNat.ofNat b : Nat) : Int) := sub_i64 (b := b) h h2
theorem sub_i64l {a b : Nat} (h : b ≤ OfNat.ofNat a) (h2 : OfNat.ofNat a ≤ 9223372036854775807) : IntKind.i64.wrap ((OfNat.ofNat a : Int) - (b : Int)) = ((OfNat.ofNat a - b : Nat) : Int) := sub_i64 (a := a) h h2
theorem mul_i64r {a b : Nat} (h : a * OfNat.ofNat b ≤ 9223372036854775807) : IntKind.i64.wrap ((a : Int) * OfNat.ofNat b) = ((a * OfNat.ofNat b : Nat) : Int) := mul_i64 (b := b) h
theorem mul_i64l {a b : Nat} (h : OfNat.ofNat a * b ≤ 9223372036854775807) : IntKind.i64.wrap ((OfNat.ofNat a : Int) * (b : Int)) = ((OfNat.ofNat a * b : Nat) : Int) := mul_i64 (a := a) h
theorem mul_u64 {a b : Nat} (h : a * b ≤ 18446744073709551615) : IntKind.u64.wrap ((a : Int) * (b : Int)) = ((a * b : Nat) : Int) := by
  have : ((a : Int) * (b : Int)) = ((a * b : Nat) : Int) := by simp
  rw [this, wrap_u64 (by omega)]
theorem add_u64r {a b : Nat} (h : a + OfNat.ofNat b ≤ 18446744073709551615) : IntKind.u64.wrap ((a : Int) + OfNat.ofNat b) = ((a + OfNat.ofNat b : Nat) : Int) := add_u64 (b := b) h
theorem sub_u64r {a b : Nat} (h : OfNat.ofNat b ≤ a) (h2 : a ≤ 18446744073709551615) : IntKind.u64.wrap ((a : Int) - OfNat.ofNat b) = ((a - OfNat.ofNat b : Nat) : Int) := sub_u64 (b := b) h h2
theorem sub_u64l {a b : Nat} (h : b ≤ OfNat.ofNat a) (h2 : OfNat.ofNat a ≤ 18446744073709551615) : IntKind.u64.wrap ((OfNat.ofNat a : Int) - (b : Int)) = ((OfNat.ofNat a - b : Nat) : Int) := sub_u64 (a := a) h h2
theorem mul_u64r {a b : Nat} (h : a * OfNat.ofNat b ≤ 18446744073709551615) : IntKind.u64.wrap ((a : Int) * OfNat.ofNat b) = ((a * OfNat.ofNat b : Nat) : Int) := mul_u64 (b := b) h
theorem mul_u64l {a b : Nat} (h : OfNat.ofNat a * b ≤ 18446744073709551615) : IntKind.u64.wrap ((OfNat.ofNat a : Int) * (b : Int)) = ((OfNat.ofNat a * b : Nat) : Int) := mul_u64 (a := a) h
end Lf
end Go.Proofs.Ytgeccggkdgpkiaa
