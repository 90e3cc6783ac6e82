/- Lifted operations: what one operation does to the lifted state; the table of types; operations that compute. -/
import Derived.Test.YtgeccggkdgpkiaaLv
import Derived.Deep.MidRow
import Derived.ChangeKeysEq
namespace Go.Proofs.Ytgeccggkdgpkiaa
open Go.RowKit
namespace Lf

/-! ### The table of types -/
/-- A zero cell. -/
inductive Z where
  | int (k : IntKind) | bool | str | sl | ptr | map | fn | ifc
  deriving DecidableEq
def Z.v : Z → V
  | .int k => .k (.int k 0) | .bool => .k (.bool false) | .str => .k (.string .empty) | .sl => .nil | .ptr => .k (.pointer none) | .map => .k (.map none) | .fn => .k .nilFunc | .ifc => .k .nilIface
def Z.is : Z → Value → Bool
  | .int k, .int k' n => k == k' && n == 0
  | .bool, .bool b => !b
  | .str, .string s => s.data.toList.isEmpty
  | .sl, .slice none 0 0 => true
  | .ptr, .pointer none => true
  | .map, .map none => true
  | .fn, .nilFunc => true
  | .ifc, .nilIface => true
  | _, _ => false
theorem Z.rep {w : World} {g : Gh} {z : Z} {x : Value} (h : z.is x = true) : Rep w g z.v x := by
  cases z <;> cases x <;> simp [Z.is] at h
  case int.int => obtain ⟨rfl, rfl⟩ := h; exact .k _
  case bool.bool => subst h; exact .k _
  case str.string s =>
    obtain ⟨d⟩ := s
    have : d = #[] := by simpa using h
    subst this
    exact .k _
  case sl.slice a n c =>
    cases a <;> cases n <;> cases c <;> simp at h
    exact .nil
  case ptr.pointer a =>
    cases a with
    | none => exact .k _
    | some _ => cases h
  case map.map a =>
    cases a with
    | none => exact .k _
    | some _ => cases h
  case fn.nilFunc => exact .k _
  case ifc.nilIface => exact .k _
theorem Z.one (z : Z) : z.v.one = true := by cases z <;> rfl

inductive TD where
  | int (k : IntKind) | bool | str | sl (e : Nat) | arr (n e : Nat) | st (fs : List (Nat × Nat)) | ptr (e : Nat) | map (k e : Nat) | fn | ifc | oth
def TD.agg : TD → Bool
  | .arr .. | .st .. => true
  | _ => false
/-- A type: what it is, its cells, its bytes, its zero. -/
structure TI where
  d : TD
  size : Nat
  bytes : Nat
  zero : List Z
abbrev Tab := List (Nat × TI)
def TD.chk : TD → TypeDesc → Bool
  | .int k, .int k' => k == k'
  | .bool, .bool => true
  | .str, .string => true
  | .sl e, .slice e' => e == e'
  | .arr n e, .array n' e' => n == n' && e == e'
  | .st fs, .struct gs => (gs.toList.map fun f => (f.offset, f.type)) == fs
  | .ptr e, .pointer e' => e == e'
  | .map k e, .map k' e' => k == k' && e == e'
  | .fn, .func .. => true
  | .ifc, .interface _ => true
  | _, _ => false
def zchk : List Z → List Value → Bool
  | [], [] => true
  | z :: r, x :: s => z.is x && zchk r s
  | _, _ => false
def TI.chk (P : Program) (T : Nat) (ti : TI) : Bool :=
  (match P.info? T with
   | some i => i.size == ti.size && i.bytes == ti.bytes && ti.zero.length == ti.size && (match i.zero with
     | some z => zchk ti.zero z.cells.toList && (match z with | .agg _ => ti.d.agg | _ => !ti.d.agg)
     | none => false)
   | none => false) &&
  (match P.underlying T with | some d => ti.d.chk d | none => false)
/-- The table of a program's types. -/
structure TOk (P : Program) where
  tab : Tab
  ok : (tab.all fun x => x.2.chk P x.1) = true

theorem zchk_spec : ∀ {zs : List Z} {xs : List Value}, zchk zs xs = true → zs.length = xs.length ∧ ∀ (j : Nat) z, zs[j]? = some z → ∃ x, xs[j]? = some x ∧ z.is x = true
  | [], [], _ => ⟨rfl, by simp⟩
  | z :: r, x :: s, h => by
    simp only [zchk, Bool.and_eq_true] at h
    obtain ⟨h1, h2⟩ := zchk_spec h.2
    refine ⟨by simp [h1], fun j z' hj => ?_⟩
    cases j with
    | zero => simp at hj; subst hj; exact ⟨x, by simp, h.1⟩
    | succ j => simp at hj; simpa using h2 j z' hj
  | [], _ :: _, h => by simp [zchk] at h
  | _ :: _, [], h => by simp [zchk] at h

/-- What the table says of a type. -/
structure TIok (P : Program) (T : Nat) (ti : TI) : Prop where
  info : ∃ i, P.info? T = some i ∧ i.size = ti.size ∧ i.bytes = ti.bytes ∧ ∃ z, i.zero = some z ∧ ti.zero.length = z.cells.size ∧ z.cells.size = ti.size ∧ (∀ (j : Nat) zz, ti.zero[j]? = some zz → ∃ x, z.cells.toList[j]? = some x ∧ zz.is x = true) ∧
    (ti.d.agg = true → ∃ cs, z = .agg cs) ∧ (ti.d.agg = false → ∀ cs, z ≠ .agg cs)
  und : ∃ d, P.underlying T = some d ∧ ti.d.chk d = true

theorem aget_mem {α : Type} {l : List (Nat × α)} {t : Nat} {v : α} (h : aget l t = some v) : (t, v) ∈ l := by
  induction l with
  | nil => cases h
  | cons x r ih =>
    obtain ⟨n, u⟩ := x
    rw [aget_cons] at h
    split at h
    · rename_i he; subst he; cases h; simp
    · exact List.mem_cons_of_mem _ (ih h)

theorem TOk.get {P : Program} (X : TOk P) {T : Nat} {ti : TI} (h : aget X.tab T = some ti) : TIok P T ti := by
  have h1 := X.ok
  rw [List.all_eq_true] at h1
  have h2 := h1 _ (aget_mem h)
  simp only [TI.chk, Bool.and_eq_true] at h2
  obtain ⟨h3, h4⟩ := h2
  constructor
  · cases hi : P.info? T with
    | none => simp [hi] at h3
    | some i =>
      simp only [hi, Bool.and_eq_true, beq_iff_eq] at h3
      obtain ⟨⟨⟨e1, e2⟩, e3⟩, h3⟩ := h3
      cases hz : i.zero with
      | none => simp [hz] at h3
      | some z =>
        simp only [hz, Bool.and_eq_true] at h3
        obtain ⟨hz1, hz2⟩ := h3
        obtain ⟨l1, l2⟩ := zchk_spec hz1
        refine ⟨i, rfl, e1, e2, z, hz, by simpa using l1, by rw [← e3]; simpa using l1.symm, l2, fun ha => ?_, fun ha cs hc => ?_⟩
        · cases z <;> simp_all
        · subst hc; simp [ha] at hz2
  · cases hu : P.underlying T with
    | none => simp [hu] at h4
    | some d => exact ⟨d, rfl, by simpa [hu] using h4⟩

section
variable {P : Program} {T : Nat} {ti : TI}
theorem TIok.size (h : TIok P T ti) : (P.info? T).map (·.size) = some ti.size := by
  obtain ⟨i, hi, hs, _⟩ := h.info
  rw [hi, ← hs]; rfl
theorem TIok.run_size (h : TIok P T ti) (w : World) : (sizeOf T).run P w = .ok ti.size w := by
  obtain ⟨i, hi, hs, _⟩ := h.info
  simp [sizeOf, typeInfo, hi, hs]
theorem TIok.run_agg (h : TIok P T ti) (w : World) : (isAgg T).run P w = .ok ti.d.agg w := by
  obtain ⟨d, hu, hc⟩ := h.und
  unfold isAgg
  rw [Sem.run_bind, run_underlying hu w]
  cases d <;> cases hd : ti.d <;> simp_all [TD.chk, TD.agg]
theorem TIok.sl {e : Nat} (h : TIok P T ti) (hd : ti.d = .sl e) : P.underlying T = some (.slice e) := by
  obtain ⟨d, hu, hc⟩ := h.und
  rw [hd] at hc
  cases d <;> simp [TD.chk] at hc
  subst hc; exact hu
theorem TIok.arr {n e : Nat} (h : TIok P T ti) (hd : ti.d = .arr n e) : P.underlying T = some (.array n e) := by
  obtain ⟨d, hu, hc⟩ := h.und
  rw [hd] at hc
  cases d <;> simp [TD.chk] at hc
  obtain ⟨rfl, rfl⟩ := hc; exact hu
theorem TIok.st {fs : List (Nat × Nat)} (h : TIok P T ti) (hd : ti.d = .st fs) : ∃ gs, P.underlying T = some (.struct gs) ∧ (gs.toList.map fun f => (f.offset, f.type)) = fs := by
  obtain ⟨d, hu, hc⟩ := h.und
  rw [hd] at hc
  cases d <;> simp [TD.chk] at hc
  exact ⟨_, hu, by simpa using hc⟩
theorem TIok.int {k : IntKind} (h : TIok P T ti) (hd : ti.d = .int k) : P.underlying T = some (.int k) := by
  obtain ⟨d, hu, hc⟩ := h.und
  rw [hd] at hc
  cases d <;> simp [TD.chk] at hc
  subst hc; exact hu
theorem TIok.bool (h : TIok P T ti) (hd : ti.d = .bool) : P.underlying T = some .bool := by
  obtain ⟨d, hu, hc⟩ := h.und
  rw [hd] at hc
  cases d <;> simp [TD.chk] at hc
  exact hu
theorem TIok.str (h : TIok P T ti) (hd : ti.d = .str) : P.underlying T = some .string := by
  obtain ⟨d, hu, hc⟩ := h.und
  rw [hd] at hc
  cases d <;> simp [TD.chk] at hc
  exact hu
end

/-! ### Operands -/
def ofC1 : Value → V
  | .slice none 0 0 => .nil
  | v => .k v
def ofC : Value → V
  | .agg cs => cond (cs.toList.all Value.oneCell') (.a (cs.toList.map ofC1)) (.k (.agg cs))
  | v => ofC1 v
theorem rep_ofC1 (w : World) (g : Gh) (v : Value) : Rep w g (ofC1 v) v := by
  unfold ofC1
  split
  · exact .nil
  · exact .k _
theorem one_ofC1 {v : Value} (h : v.oneCell' = true) : (ofC1 v).one = true := by
  unfold ofC1
  split
  · rfl
  · exact h
theorem rep_ofC (w : World) (g : Gh) (v : Value) : Rep w g (ofC v) v := by
  unfold ofC
  split
  · rename_i cs
    cases h : cs.toList.all Value.oneCell'
    · exact .k _
    · refine .a (by simp) (fun u hu => ?_) (fun j u x hj hx => ?_)
      · obtain ⟨v, hv, rfl⟩ := List.mem_map.1 hu
        exact one_ofC1 (List.all_eq_true.1 h v hv)
      · rw [List.getElem?_map] at hj
        have : cs.toList[j]? = some x := by simpa using hx
        rw [this] at hj
        simp at hj
        subst hj
        exact rep_ofC1 _ _ _
  · exact rep_ofC1 _ _ _
def evo (env : Env) : Operand → Option V
  | .tmp t => aget env t
  | .const v => some (ofC v)
  | .func f => some (.f (.func f) [] [])
  | .global g => some (.k (.pointer (some ⟨g, 0, none⟩)))
theorem Rel.evo {F : Fr0} {N : Nat} {g : Gh} {env : Env} {mem : Mem} {a : Act} {w : World} (h : Rel F N g env mem a w) {x : Operand} {v : V} (hx : evo env x = some v) : Rep w g v (a.eval x) := by
  cases x with
  | tmp t =>
    obtain ⟨u, hu, hr⟩ := h.env t v hx
    simpa [Act.eval, hu] using hr
  | const c => cases hx; exact rep_ofC _ _ _
  | global g => cases hx; exact .k _
  | func f => cases hx; exact .f rfl rfl (fun j u x h => by simp at h) (fun j u x h => by simp at h)

/-- What an operation meets in the call's memory: the number of a box or a row, what is there before, what is there behind (none: it only reads). -/
abbrev Tch := List (Nat × Option M × Option M)
def tpre (t : Tch) (mem : Mem) : Prop := ∀ i m m', (i, m, m') ∈ t → aget mem i = m
def tset : Tch → Mem → Mem
  | [], mem => mem
  | (i, _, some m') :: r, mem => (i, m') :: tset r mem
  | (_, _, none) :: r, mem => tset r mem
theorem mem_one {α : Type} {x : α} : x ∈ [x] := List.mem_singleton.2 rfl

/-- The operation yields v and meets t, whatever else there is. -/
structure Does (P : Program) (o : Oper) (env : Env) (v : V) (t : Tch) : Prop where
  ex : ∀ (F : Fr0) (g : Gh) (a : Act) (w : World) (mem : Mem), (∀ x ∈ o.op.operands.toList, ∀ u, evo env x = some u → Rep w g u (a.eval x)) → RelM F g mem w → Kept F g w → tpre t mem → a.defers = F.D →
    ∀ (K : Act → World → Prop) (Q : Exit → Act → World → Prop), (∀ x g' w', Ev g w g' w' → RelM F g' (tset t mem) w' → Kept F g' w' → Rep w' g' v x → K (a.put o.dst x) w') → o.wp P a w K Q

section
variable {P : Program} {o : Oper} {env : Env} {v : V}
theorem Does.pure (h : ∀ (F : Fr0) (g : Gh) (a : Act) (w : World) (mem : Mem), (∀ x ∈ o.op.operands.toList, ∀ u, evo env x = some u → Rep w g u (a.eval x)) → RelM F g mem w →
    ∃ x, (execOp a.eval o).run P w = .ok (.value x) w ∧ Rep w g v x) : Does P o env v [] := by
  refine ⟨fun F g a w mem h1 h2 h3 _ _ K Q hK => ?_⟩
  obtain ⟨x, hx, hr⟩ := h F g a w mem h1 h2
  unfold Oper.wp
  rw [hx]
  exact hK x g w (Ev.refl g w) h2 h3 hr
theorem Does.read {i : Nat} {m : M} (h : ∀ (F : Fr0) (g : Gh) (a : Act) (w : World) (mem : Mem), (∀ x ∈ o.op.operands.toList, ∀ u, evo env x = some u → Rep w g u (a.eval x)) → RelM F g mem w → aget mem i = some m →
    ∃ x, (execOp a.eval o).run P w = .ok (.value x) w ∧ Rep w g v x) : Does P o env v [(i, some m, none)] := by
  refine ⟨fun F g a w mem h1 h2 h3 h4 _ K Q hK => ?_⟩
  obtain ⟨x, hx, hr⟩ := h F g a w mem h1 h2 (h4 _ _ _ mem_one)
  unfold Oper.wp
  rw [hx]
  exact hK x g w (Ev.refl g w) h2 h3 hr

theorem Does.move {x : Operand} (ho : o.op = .move x) (hx : evo env x = some v) : Does P o env v [] :=
  .pure fun F g a w mem hr _ => ⟨a.eval x, by simp [execOp, ho], hr x (by simp [ho, Op.operands]) v hx⟩
theorem Does.assign {x : Operand} (ho : o.op = .assign x) (hx : evo env x = some v) : Does P o env v [] :=
  .pure fun F g a w mem hr _ => ⟨a.eval x, by simp [execOp, ho], hr x (by simp [ho, Op.operands]) v hx⟩
theorem rep_k {w : World} {g : Gh} {u x : Value} (h : Rep w g (.k u) x) : x = u := by cases h; rfl
/-- A binary operation on plain values. -/
theorem Does.bin {b : BinOp} {T Y : Nat} {x y : Operand} {p q r : Value} (ho : o.op = .binOp b T x y Y) (hx : evo env x = some (.k p)) (hy : evo env y = some (.k q))
    (hr : ∀ w, (do eqGuard b T x y p q; binOp b T p q : Sem Value).run P w = .ok r w) : Does P o env (.k r) [] :=
  .pure fun F g a w mem hr' _ => by
    have e1 := rep_k (hr' x (by simp [ho, Op.operands]) _ hx)
    have e2 := rep_k (hr' y (by simp [ho, Op.operands]) _ hy)
    refine ⟨r, ?_, .k r⟩
    have := hr w
    simp only [execOp, ho, e1, e2, Sem.run_bind, this]
    rfl
theorem eqGuard_int (b : BinOp) (T : Nat) (x y : Operand) (k k' : IntKind) (m n : Int) (w : World) : (eqGuard b T x y (.int k m) (.int k' n)).run P w = .ok () w := by
  unfold eqGuard
  cases b <;> rfl
/-- What a binary operation makes of two integers of a kind. -/
def arith (b : BinOp) (k : IntKind) (m n : Int) : Option Value :=
  match b with
  | .add => some (.int k (k.wrap (m + n)))
  | .sub => some (.int k (k.wrap (m - n)))
  | .mul => some (.int k (k.wrap (m * n)))
  | .eql => some (.bool (m == n))
  | .neq => some (.bool (m != n))
  | .lss => some (.bool (m < n))
  | .leq => some (.bool (m ≤ n))
  | .gtr => some (.bool (m > n))
  | .geq => some (.bool (m ≥ n))
  | .and => some (.int k (k.wrap (BitVec.ofInt k.bits m &&& BitVec.ofInt k.bits n).toNat))
  | .or => some (.int k (k.wrap (BitVec.ofInt k.bits m ||| BitVec.ofInt k.bits n).toNat))
  | .xor => some (.int k (k.wrap (BitVec.ofInt k.bits m ^^^ BitVec.ofInt k.bits n).toNat))
  | .andNot => some (.int k (k.wrap (BitVec.ofInt k.bits m &&& ~~~ BitVec.ofInt k.bits n).toNat))
  | _ => none
theorem Does.arith {b : BinOp} {T Y : Nat} {x y : Operand} {k : IntKind} {m n : Int} {r : Value} (ho : o.op = .binOp b T x y Y) (hx : evo env x = some (.k (.int k m))) (hy : evo env y = some (.k (.int k n)))
    (hr : arith b k m n = some r) : Does P o env (.k r) [] :=
  .bin ho hx hy fun w => by
    rw [Sem.run_bind, eqGuard_int]
    cases b <;> simp only [Lf.arith] at hr <;> cases hr <;> simp [binOp, Op.intArith, Op.intBits, Op.intCmp]
theorem Does.eql {T Y : Nat} {x y : Operand} {k : IntKind} {m n : Int} {r : Bool} (ho : o.op = .binOp .eql T x y Y) (hx : evo env x = some (.k (.int k m))) (hy : evo env y = some (.k (.int k n))) (hr : decide (m = n) = r) : Does P o env (.k (.bool r)) [] :=
  .arith ho hx hy (by rw [← hr]; simp [Lf.arith, BEq.beq])
theorem Does.neq {T Y : Nat} {x y : Operand} {k : IntKind} {m n : Int} {r : Bool} (ho : o.op = .binOp .neq T x y Y) (hx : evo env x = some (.k (.int k m))) (hy : evo env y = some (.k (.int k n))) (hr : decide (¬ m = n) = r) : Does P o env (.k (.bool r)) [] :=
  .arith ho hx hy (by rw [← hr]; simp [Lf.arith, bne, BEq.beq])
theorem Does.lss {T Y : Nat} {x y : Operand} {k : IntKind} {m n : Int} {r : Bool} (ho : o.op = .binOp .lss T x y Y) (hx : evo env x = some (.k (.int k m))) (hy : evo env y = some (.k (.int k n))) (hr : decide (m < n) = r) : Does P o env (.k (.bool r)) [] :=
  .arith ho hx hy (by rw [← hr]; simp [Lf.arith])
theorem Does.leq {T Y : Nat} {x y : Operand} {k : IntKind} {m n : Int} {r : Bool} (ho : o.op = .binOp .leq T x y Y) (hx : evo env x = some (.k (.int k m))) (hy : evo env y = some (.k (.int k n))) (hr : decide (m ≤ n) = r) : Does P o env (.k (.bool r)) [] :=
  .arith ho hx hy (by rw [← hr]; simp [Lf.arith])
theorem Does.gtr {T Y : Nat} {x y : Operand} {k : IntKind} {m n : Int} {r : Bool} (ho : o.op = .binOp .gtr T x y Y) (hx : evo env x = some (.k (.int k m))) (hy : evo env y = some (.k (.int k n))) (hr : decide (n < m) = r) : Does P o env (.k (.bool r)) [] :=
  .arith ho hx hy (by rw [← hr]; simp [Lf.arith])
theorem Does.geq {T Y : Nat} {x y : Operand} {k : IntKind} {m n : Int} {r : Bool} (ho : o.op = .binOp .geq T x y Y) (hx : evo env x = some (.k (.int k m))) (hy : evo env y = some (.k (.int k n))) (hr : decide (n ≤ m) = r) : Does P o env (.k (.bool r)) [] :=
  .arith ho hx hy (by rw [← hr]; simp [Lf.arith])
theorem Does.add {T Y : Nat} {x y : Operand} {k : IntKind} {m n r : Int} (ho : o.op = .binOp .add T x y Y) (hx : evo env x = some (.k (.int k m))) (hy : evo env y = some (.k (.int k n))) (hr : k.wrap (m + n) = r) : Does P o env (.k (.int k r)) [] :=
  .arith ho hx hy (by rw [← hr]; rfl)
theorem Does.sub {T Y : Nat} {x y : Operand} {k : IntKind} {m n r : Int} (ho : o.op = .binOp .sub T x y Y) (hx : evo env x = some (.k (.int k m))) (hy : evo env y = some (.k (.int k n))) (hr : k.wrap (m - n) = r) : Does P o env (.k (.int k r)) [] :=
  .arith ho hx hy (by rw [← hr]; rfl)
theorem Does.mul {T Y : Nat} {x y : Operand} {k : IntKind} {m n r : Int} (ho : o.op = .binOp .mul T x y Y) (hx : evo env x = some (.k (.int k m))) (hy : evo env y = some (.k (.int k n))) (hr : k.wrap (m * n) = r) : Does P o env (.k (.int k r)) [] :=
  .arith ho hx hy (by rw [← hr]; rfl)
theorem Does.quo {T Y : Nat} {x y : Operand} {k : IntKind} {m n r : Int} (ho : o.op = .binOp .quo T x y Y) (hx : evo env x = some (.k (.int k m))) (hy : evo env y = some (.k (.int k n))) (h0 : n ≠ 0) (hr : k.wrap (m.tdiv n) = r) : Does P o env (.k (.int k r)) [] :=
  .bin ho hx hy fun w => by
    rw [Sem.run_bind, eqGuard_int]
    simp [binOp, Op.intDiv, h0, hr]
theorem Does.rem {T Y : Nat} {x y : Operand} {k : IntKind} {m n r : Int} (ho : o.op = .binOp .rem T x y Y) (hx : evo env x = some (.k (.int k m))) (hy : evo env y = some (.k (.int k n))) (h0 : n ≠ 0) (hr : m.tmod n = r) : Does P o env (.k (.int k r)) [] :=
  .bin ho hx hy fun w => by
    rw [Sem.run_bind, eqGuard_int]
    simp [binOp, Op.intDiv, h0, hr]
theorem Does.shl {T Y : Nat} {x y : Operand} {k k' : IntKind} {m n r : Int} (ho : o.op = .binOp .shl T x y Y) (hx : evo env x = some (.k (.int k m))) (hy : evo env y = some (.k (.int k' n))) (h0 : 0 ≤ n) (hr : k.wrap (m * 2 ^ (min n.toNat k.bits)) = r) : Does P o env (.k (.int k r)) [] :=
  .bin ho hx hy fun w => by
    rw [Sem.run_bind, eqGuard_int]
    have : ¬ n < 0 := by omega
    simp [binOp, Op.shift, this, hr]
theorem Does.shr {T Y : Nat} {x y : Operand} {k k' : IntKind} {m n r : Int} (ho : o.op = .binOp .shr T x y Y) (hx : evo env x = some (.k (.int k m))) (hy : evo env y = some (.k (.int k' n))) (h0 : 0 ≤ n) (hr : m.fdiv (2 ^ (min n.toNat k.bits)) = r) : Does P o env (.k (.int k r)) [] :=
  .bin ho hx hy fun w => by
    rw [Sem.run_bind, eqGuard_int]
    have : ¬ n < 0 := by omega
    simp [binOp, Op.shift, this, hr]
/-- What a binary operation makes of two texts. -/
def arithS (b : BinOp) (m n : ByteArray) : Option Value :=
  match b with
  | .eql => some (.bool (m.toList == n.toList))
  | .neq => some (.bool !(m.toList == n.toList))
  | .lss => some (.bool (Op.bytesLess m.toList n.toList))
  | .leq => some (.bool (Op.bytesLess m.toList n.toList || m.toList == n.toList))
  | .gtr => some (.bool !(Op.bytesLess m.toList n.toList || m.toList == n.toList))
  | .geq => some (.bool !(Op.bytesLess m.toList n.toList))
  | _ => none
theorem Does.arithS {b : BinOp} {T Y : Nat} {x y : Operand} {m n : ByteArray} {r : Value} (ho : o.op = .binOp b T x y Y) (hx : evo env x = some (.k (.string m))) (hy : evo env y = some (.k (.string n)))
    (hr : arithS b m n = some r) : Does P o env (.k r) [] :=
  .bin ho hx hy fun w => by
    have : (eqGuard b T x y (.string m) (.string n)).run P w = .ok () w := by unfold eqGuard; cases b <;> rfl
    rw [Sem.run_bind, this]
    cases b <;> simp only [Lf.arithS] at hr <;> cases hr <;> simp [binOp, Op.stringOp]
theorem Does.cat {T Y : Nat} {x y : Operand} {m n : ByteArray} (ho : o.op = .binOp .add T x y Y) (hx : evo env x = some (.k (.string m))) (hy : evo env y = some (.k (.string n)))
    (hr : m.size + n.size ≤ 9223372036854775807) : Does P o env (.k (.string (m ++ n))) [] :=
  .bin ho hx hy fun w => by
    have : (eqGuard .add T x y (.string m) (.string n)).run P w = .ok () w := by unfold eqGuard; rfl
    rw [Sem.run_bind, this]
    have e : IntKind.i64.max = 9223372036854775807 := rfl
    have h2 : ¬ ((m.size + n.size : Nat) : Int) > IntKind.i64.max := by rw [e]; omega
    simp only [binOp, Op.stringOp, Result.andThen_ok]
    rw [if_neg h2]
    rfl
theorem run_eqB {T : Nat} (hu : P.underlying T = some .bool) (m n : Bool) (w : World) : (Op.equal T (.bool m) (.bool n)).run P w = .ok (m == n) w := by
  have e : Op.equal T (.bool m) (.bool n) = Op.equalIn (9999 + 1) T (.bool m) (.bool n) := rfl
  rw [e, Op.equalIn, Sem.run_bind, run_underlying hu w]
  rfl
/-- Two truth values held against each other. -/
theorem Does.eqB {T Y : Nat} {x y : Operand} {m n : Bool} (X : TOk P) {ti : TI} (ho : o.op = .binOp .eql T x y Y) (hx : evo env x = some (.k (.bool m))) (hy : evo env y = some (.k (.bool n)))
    (hT : aget X.tab T = some ti) (hd : ti.d = .bool) : Does P o env (.k (.bool (m == n))) [] :=
  .bin ho hx hy fun w => by
    have : (eqGuard .eql T x y (.bool m) (.bool n)).run P w = .ok () w := by unfold eqGuard; rfl
    rw [Sem.run_bind, this]
    simp only [Result.andThen_ok, binOp, Sem.run_bind, run_eqB ((X.get hT).bool hd)]
    rfl
theorem Does.neB {T Y : Nat} {x y : Operand} {m n : Bool} (X : TOk P) {ti : TI} (ho : o.op = .binOp .neq T x y Y) (hx : evo env x = some (.k (.bool m))) (hy : evo env y = some (.k (.bool n)))
    (hT : aget X.tab T = some ti) (hd : ti.d = .bool) : Does P o env (.k (.bool (m != n))) [] :=
  .bin ho hx hy fun w => by
    have : (eqGuard .neq T x y (.bool m) (.bool n)).run P w = .ok () w := by unfold eqGuard; rfl
    rw [Sem.run_bind, this]
    simp only [Result.andThen_ok, binOp, Sem.run_bind, run_eqB ((X.get hT).bool hd)]
    rfl
theorem Does.not {T : Nat} {x : Operand} {b : Bool} (ho : o.op = .unOp .not T x) (hx : evo env x = some (.k (.bool b))) : Does P o env (.k (.bool (!b))) [] :=
  .pure fun F g a w mem hr _ => by
    have e1 := rep_k (hr x (by simp [ho, Op.operands]) _ hx)
    exact ⟨_, by simp [execOp, ho, e1, Op.unary], .k _⟩
theorem Does.neg {T : Nat} {x : Operand} {k : IntKind} {m r : Int} (ho : o.op = .unOp .neg T x) (hx : evo env x = some (.k (.int k m))) (hr : k.wrap (0 - m) = r) : Does P o env (.k (.int k r)) [] :=
  .pure fun F g a w mem hr' _ => by
    have e1 := rep_k (hr' x (by simp [ho, Op.operands]) _ hx)
    exact ⟨.int k r, by simp only [execOp, ho, e1, Op.unary, Op.intArith, hr]; rfl, .k _⟩
theorem Does.inv {T : Nat} {x : Operand} {k : IntKind} {m r : Int} (ho : o.op = .unOp .xor T x) (hx : evo env x = some (.k (.int k m))) (hr : k.wrap (BitVec.ofInt k.bits (if k.signed then -1 else k.max) ^^^ BitVec.ofInt k.bits m).toNat = r) : Does P o env (.k (.int k r)) [] :=
  .pure fun F g a w mem hr' _ => by
    have e1 := rep_k (hr' x (by simp [ho, Op.operands]) _ hx)
    exact ⟨.int k r, by simp only [execOp, ho, e1, Op.unary, Op.intBits, hr]; rfl, .k _⟩
theorem Does.conv {S T : Nat} {x : Operand} {k k' : IntKind} {m r : Int} (X : TOk P) {si ti : TI} (ho : o.op = .convert S T x) (hx : evo env x = some (.k (.int k m))) (hS : aget X.tab S = some si) (hT : aget X.tab T = some ti) (hd : ti.d = .int k') (hr : k'.wrap m = r) : Does P o env (.k (.int k' r)) [] :=
  .pure fun F g a w mem hr' _ => by
    have e1 := rep_k (hr' x (by simp [ho, Op.operands]) _ hx)
    obtain ⟨d, hu, _⟩ := (X.get hS).und
    refine ⟨.int k' r, ?_, .k _⟩
    simp [execOp, ho, e1, convert, run_underlying hu, run_underlying ((X.get hT).int hd), Conv.intToInt, hr]
theorem Does.pick {c x y : Operand} {b : Bool} (ho : o.op = .pick c x y) (hc : evo env c = some (.k (.bool b))) (hx : (cond b (evo env x) (evo env y)) = some v) : Does P o env v [] :=
  .pure fun F g a w mem hr _ => by
    have e1 := rep_k (hr c (by simp [ho, Op.operands]) _ hc)
    cases b
    · exact ⟨a.eval y, by simp [execOp, ho, e1, asBool], hr y (by simp [ho, Op.operands]) v hx⟩
    · exact ⟨a.eval x, by simp [execOp, ho, e1, asBool], hr x (by simp [ho, Op.operands]) v hx⟩
theorem Does.extract {x : Operand} {ix : Nat} {vs : List V} (ho : o.op = .extract x ix) (hx : evo env x = some (.t vs)) (hv : vs[ix]? = some v) : Does P o env v [] :=
  .pure fun F g a w mem hr _ => by
    have h := hr x (by simp [ho, Op.operands]) _ hx
    generalize hy : a.eval x = y at h
    cases h with
    | t hl hc =>
      rename_i us
      have hlt : ix < us.size := by have := (List.getElem?_eq_some_iff.1 hv).1; omega
      exact ⟨us[ix], by simp [execOp, ho, hy, Instr.extract, hlt], hc ix v _ hv (by simp [hlt])⟩
theorem Does.mkIface {T : Nat} {x : Operand} (X : TOk P) {ti : TI} (ho : o.op = .makeInterface T x) (hx : evo env x = some v) (hT : aget X.tab T = some ti) (hd : (match ti.d with | .ifc => false | .oth => false | _ => true) = true) : Does P o env (.i T v) [] :=
  .pure fun F g a w mem hr _ => by
    obtain ⟨d, hu, hc⟩ := (X.get hT).und
    refine ⟨.iface T (a.eval x), ?_, .i (hr x (by simp [ho, Op.operands]) v hx)⟩
    simp only [execOp, ho, Instr.makeInterface, Sem.run_bind, run_underlying hu]
    cases d <;> cases hq : ti.d <;> simp_all [TD.chk]
end
end Lf
end Go.Proofs.Ytgeccggkdgpkiaa
