/- What the one walker of the seat leans on: plain regions walked like drawn ones; tests that stay open; parts of joined cells; cuts of lists that are told as images. -/
import Derived.Test.YtgeccggkdgpkiaaLk
namespace Go.Proofs.Ytgeccggkdgpkiaa
open Go.RowKit Rg
namespace Lf
section
variable {P : Program} {F : Fr0} {N : Nat} {Q : LQ} {env : Env} {mem : Mem}
theorem DR.plain {ops : Array Oper} {chk : List (Nat × Tch) → Bool} {l : List (Nat × Oper)} {acc : List (Nat × Tch)} (h : DR P N ops chk (fun env mem => Q .normal env mem) l acc env mem) : ∀ {k : Nat} {os : List Oper}, l = enumI k os → LS P F N ops os Q env mem := by
  induction h with
  | nl _ h =>
    intro k os hl
    cases os with
    | nil => exact LS.nil h
    | cons o r => cases hl
  | run hd hg h ht _ ih =>
    intro k os hl
    cases os with
    | nil => cases hl
    | cons o' r => cases hl; exact LS.step hg h ht hd (ih rfl)
  | pass hd hg _ ih =>
    intro k os hl
    cases os with
    | nil => cases hl
    | cons o' r => cases hl; exact LS.pass hg hd (ih rfl)
theorem LC.regionD {id : Nat} {l : List Oper} (h : DR P N l.toArray (fun _ => true) (fun env mem => Q .normal env mem) (enumI 0 l) [] env mem) : LC P F N (.region id l.toArray false) Q env mem := LC.region (h.plain rfl)
theorem LC.iteD {c : Operand} {x y : Code} {p : Prop} {dp : Decidable p} (hc : evo env c = some (.k (.bool (decide p)))) (h : (p → LC P F N x Q env mem) ∧ (¬ p → LC P F N y Q env mem)) : LC P F N (.cond c x y) Q env mem :=
  .cond hc (fun e => h.1 (of_decide_eq_true e)) fun e => h.2 (of_decide_eq_false e)
theorem LC.iteN {c : Operand} {x y : Code} {b : Bool} (hc : evo env c = some (.k (.bool (!b)))) (h : (b = false → LC P F N x Q env mem) ∧ (b = true → LC P F N y Q env mem)) : LC P F N (.cond c x y) Q env mem :=
  .cond hc (fun e => h.1 (by simpa using e)) fun e => h.2 (by simpa using e)
theorem LC.iteB {c : Operand} {x y : Code} {b : Bool} (hc : evo env c = some (.k (.bool b))) (h : (b = true → LC P F N x Q env mem) ∧ (b = false → LC P F N y Q env mem)) : LC P F N (.cond c x y) Q env mem := .cond hc h.1 h.2
theorem LC.iteT {c : Operand} {x y : Code} {b : Bool} (hc : evo env c = some (.k (.bool b))) (hb : b = true) (h : LC P F N x Q env mem) : LC P F N (.cond c x y) Q env mem := .cond hc (fun _ => h) fun e => by rw [hb] at e; cases e
theorem LC.iteF {c : Operand} {x y : Code} {b : Bool} (hc : evo env c = some (.k (.bool b))) (hb : b = false) (h : LC P F N y Q env mem) : LC P F N (.cond c x y) Q env mem := .cond hc (fun e => by rw [hb] at e; cases e) fun _ => h
end
/-- At the end: what comes out, told as the contract tells it. -/
def LFU (R : Out → Mem → Prop) (mem : Mem) (u : V) : Prop := ∃ v' mo, Tells mem u v' mo ∧ R (.ret v') mo
theorem LFin.by_ {P : Program} {X : TOk P} {rs : List ResultVar} {R : Out → Mem → Prop} {env : Env} {mem : Mem} {u : V} (h : resV X.tab env mem rs = some u) (k : LFU R mem u) : LFin X rs R env mem :=
  let ⟨v', mo, a, b⟩ := k
  ⟨u, v', mo, h, a, b⟩
theorem LRet.ret_ {P : Program} {X : TOk P} {rs : List ResultVar} {R : Out → Mem → Prop} {env : Env} {mem : Mem} {u : V} (h : resV X.tab env mem rs = some u) (k : LFU R mem u) : LRet X rs R .ret env mem := LFin.by_ h k
theorem LRet.nrm {P : Program} {X : TOk P} {rs : List ResultVar} {R : Out → Mem → Prop} {env : Env} {mem : Mem} {u : V} (h : resV X.tab env mem rs = some u) (k : LFU R mem u) : LRet X rs R .normal env mem := LFin.by_ h k
theorem LFU.eqV {mem : Mem} {u v : V} (hr : u.refs [] = true) (hv : u = v) : LFU (fun o m => o = .ret v ∧ m = []) mem u := by
  subst hv; exact ⟨u, [], ⟨⟨_, _, cv_same u⟩, trivial, by rw [hr]; rfl⟩, rfl, rfl⟩
theorem LFU.cvV {mem : Mem} {u v : V} (nn : Bool) (hr : (u.cv (fun _ => false) nn).refs [] = true) (hv : u.cv (fun _ => false) nn = v) : LFU (fun o m => o = .ret v ∧ m = []) mem u := by
  subst hv; exact ⟨_, [], ⟨⟨_, nn, rfl⟩, trivial, by rw [hr]; rfl⟩, rfl, rfl⟩
theorem LFU.memV {mem mo : Mem} {u v : V} (hm : SubM mem mo) (hr : (u.refs mo && refsM mo mo) = true) (hv : u = v) : LFU (fun o m => o = .ret v ∧ m = mo) mem u := by
  subst hv; exact ⟨u, mo, ⟨⟨_, _, cv_same u⟩, hm, hr⟩, rfl, rfl⟩
theorem LFU.memC {mem mo : Mem} {u v : V} (keep : Nat → Bool) (nn : Bool) (hm : SubM mem mo) (hr : ((u.cv keep nn).refs mo && refsM mo mo) = true) (hv : u.cv keep nn = v) : LFU (fun o m => o = .ret v ∧ m = mo) mem u := by
  subst hv; exact ⟨_, mo, ⟨⟨keep, nn, rfl⟩, hm, hr⟩, rfl, rfl⟩
theorem thR {next : Env → Mem → Prop} {Q : LQ} {env : Env} {mem : Mem} (h : Q .ret env mem) : LThen next Q .ret env mem := h
theorem thE {next : Env → Mem → Prop} {Q : LQ} {i : Nat} {env : Env} {mem : Mem} (h : Q (.exit i) env mem) : LThen next Q (.exit i) env mem := h
theorem blkR {i : Nat} {Q : LQ} {env : Env} {mem : Mem} (h : Q .ret env mem) : LBlk i Q .ret env mem := h
theorem blkN {i : Nat} {Q : LQ} {env : Env} {mem : Mem} (h : Q .normal env mem) : LBlk i Q .normal env mem := h
theorem blkE {i : Nat} {Q : LQ} {env : Env} {mem : Mem} (h : Q .normal env mem) : LBlk i Q (.exit i) env mem := by simp only [LBlk, Nat.beq_refl, cond_true]; exact h
theorem ngR {Q : LQ} {env : Env} {mem : Mem} (h : Q .ret env mem) : LNoGoto Q .ret env mem := h
/-- Is the slot some operation's guard? -/
def usedG (ops : Array Oper) (d : Nat) : Bool := ops.toList.any fun o => match o.guard with
  | some (j, _) => (match ops[j]? with | some o' => (match o'.dst with | some e => Nat.beq e d | none => false) | none => false)
  | none => false
theorem litN (n : Nat) : (OfNat.ofNat n : Int) = ((OfNat.ofNat n : Nat) : Int) := rfl
/-- Numbers that are told as they are. -/
theorem natZ {z : Int} (h : 0 ≤ z) : z = ((z.toNat : Nat) : Int) := (Int.toNat_of_nonneg h).symm
theorem evo_ki {env : Env} {k : IntKind} {z : Int} : evo env (.const (.int k z)) = some (.k (.int k z)) := rfl
theorem evo_kb {env : Env} {b : Bool} : evo env (.const (.bool b)) = some (.k (.bool b)) := rfl
/-! ### Parts of joined cells -/
theorem part_mk {ti : TI} {cs : List V} {off : Nat} (hd : ti.d.agg = true) (h : off + ti.size ≤ cs.length) : ti.part cs off = some (.a ((cs.drop off).take ti.size)) := by
  unfold TI.part
  rw [hd]
  simp only [cond_true]
  cases h1 : (off.beq 0 && cs.length.beq ti.size) with
  | true =>
    simp only [Bool.and_eq_true] at h1
    have e1 := Nat.eq_of_beq_eq_true h1.1
    have e2 := Nat.eq_of_beq_eq_true h1.2
    subst e1
    rw [List.drop_zero, List.take_of_length_le (by omega)]
    rfl
  | false =>
    rw [Nat.ble_eq_true_of_le h]
    rfl
theorem part_l {ti : TI} {a b : List V} {off : Nat} {v : V} (h : ti.part a off = some v) : ti.part (a ++ b) off = some v := by
  cases hd : ti.d.agg with
  | true =>
    obtain ⟨h1, rfl⟩ := part_agg hd h
    rw [part_mk hd (by simp only [List.length_append]; omega), List.drop_append_of_le_length (by omega), List.take_append_of_le_length (by rw [List.length_drop]; omega)]
  | false =>
    have h1 := part_one hd h
    unfold TI.part
    rw [hd]
    simp only [cond_false]
    rw [List.getElem?_append_left (List.getElem?_eq_some_iff.1 h1).1]
    exact h1
theorem part_r {ti : TI} {a b : List V} {off n k : Nat} {v : V} (hl : a.length = n) (hk : off = n + k) (h : ti.part b k = some v) : ti.part (a ++ b) off = some v := by
  subst hl; subst hk
  cases hd : ti.d.agg with
  | true =>
    obtain ⟨h1, rfl⟩ := part_agg hd h
    rw [part_mk hd (by simp only [List.length_append]; omega), List.drop_append, List.drop_of_length_le (by omega), List.nil_append, Nat.add_sub_cancel_left]
  | false =>
    have h1 := part_one hd h
    unfold TI.part
    rw [hd]
    simp only [cond_false]
    rw [List.getElem?_append_right (by omega), Nat.add_sub_cancel_left]
    exact h1
theorem splice_l {a b us cs : List V} {off : Nat} (h : splice a off us = cs) (hl : off + us.length ≤ a.length) : splice (a ++ b) off us = cs ++ b := by
  subst h
  unfold splice
  rw [List.take_append_of_le_length (by omega), List.drop_append_of_le_length hl]
  simp
theorem splice_r {a b us cs : List V} {off n k : Nat} (hl : a.length = n) (hk : off = n + k) (h : splice b k us = cs) : splice (a ++ b) off us = a ++ cs := by
  subst hl; subst hk; subst h
  unfold splice
  rw [List.take_append, List.drop_append, List.take_of_length_le (by omega), Nat.add_sub_cancel_left, List.drop_of_length_le (by omega), Nat.add_assoc, Nat.add_sub_cancel_left]
  simp
theorem splice_one {a b : V} {off : Nat} (ho : off = 0) : splice [a] off [b] = [b] := by subst ho; rfl
theorem off_r {off n : Nat} (h : n ≤ off) : off = n + (off - n) := by omega
theorem off_s {n k : Nat} : n + k = n + k := rfl
theorem ble_r {a b : List V} {n k m : Nat} (hl : a.length = n) (h : k + m ≤ b.length) : Nat.ble (n + k + m) (a ++ b).length = true := Nat.ble_eq_true_of_le (by rw [List.length_append]; omega)
/-! ### Cuts -/
theorem cut_map {α : Type} {f : α → V} {l0 : List α} {l h : Nat} : ((l0.map f).drop l).take (h - l) = ((l0.drop l).take (h - l)).map f := by rw [List.map_take, List.map_drop]
theorem cut_lo {α : Type} {f : α → V} {l0 : List α} {l : Nat} : ((l0.map f).drop l).take ((l0.map f).length - l) = (l0.drop l).map f := by
  rw [List.take_of_length_le (by simp), List.map_drop]
theorem cut_hi {α : Type} {f : α → V} {l0 : List α} {h : Nat} : ((l0.map f).drop 0).take (h - 0) = (l0.take h).map f := by rw [List.drop_zero, Nat.sub_zero, List.map_take]
theorem cut_all {α : Type} {f : α → V} {l0 : List α} : ((l0.map f).drop 0).take ((l0.map f).length - 0) = l0.map f := by rw [List.drop_zero, Nat.sub_zero, List.take_length]
/-- Images of joined lists. -/
theorem app_map {α : Type} {f : α → V} {a b : List α} : a.map f ++ b.map f = (a ++ b).map f := List.map_append.symm
theorem app_nilmap {α : Type} {f : α → V} {b : List α} : [] ++ b.map f = b.map f := rfl
theorem app_one1 {α : Type} {f : α → V} {a : List α} {x : α} : a.map f ++ [f x] = (a ++ [x]).map f := by rw [List.map_append]; rfl
theorem app_bl {a : List UInt8} {n : Nat} (h : (UInt8.ofNat n).toNat = n) : a.map bK ++ [.k (.int .u8 (n : Int))] = (a ++ [UInt8.ofNat n]).map bK := by
  rw [List.map_append]
  simp only [List.map_cons, List.map_nil, bK, h]
theorem sizes_map {α : Type} {f : α → V} {n : Nat} (hf : ∀ a, (f a).cells.length = n) (l : List α) : ∀ e ∈ l.map f, e.cells.length = n := fun e he => by
  obtain ⟨a, _, rfl⟩ := List.mem_map.1 he; exact hf a
theorem sizes_app {a b : List V} {n : Nat} (ha : ∀ e ∈ a, e.cells.length = n) (hb : ∀ e ∈ b, e.cells.length = n) : ∀ e ∈ a ++ b, e.cells.length = n := fun e he => (List.mem_append.1 he).elim (ha e) (hb e)
theorem sizes_nil {n : Nat} : ∀ e ∈ ([] : List V), e.cells.length = n := fun e he => by cases he
theorem sizes_cons {a : V} {b : List V} {n : Nat} (ha : a.cells.length = n) (hb : ∀ e ∈ b, e.cells.length = n) : ∀ e ∈ a :: b, e.cells.length = n := fun e he => (List.mem_cons.1 he).elim (fun h => h ▸ ha) (hb e)
theorem sizes_drop {a : List V} {n k : Nat} (ha : ∀ e ∈ a, e.cells.length = n) : ∀ e ∈ a.drop k, e.cells.length = n := fun e he => ha e (List.mem_of_mem_drop he)
theorem sizes_take {a : List V} {n k : Nat} (ha : ∀ e ∈ a, e.cells.length = n) : ∀ e ∈ a.take k, e.cells.length = n := fun e he => ha e (List.mem_of_mem_take he)
section
variable {P : Program} {N : Nat} {ops : Array Oper} {chk : List (Nat × Tch) → Bool} {K : Env → Mem → Prop} {acc : List (Nat × Tch)} {env : Env} {mem : Mem} {i d : Nat} {o : Oper} {rs : List (Nat × Oper)} {v : V}
/-- A guard by a fact; a guard of which nothing is known parts the walk. -/
theorem gd_y {j e : Nat} {want b : Bool} (h1 : o.guard = some (j, want)) (h2 : (ops[j]?).bind (·.dst) = some e) (h3 : aget env e = some (.k (.bool b))) (hb : b = want) : gd ops env o = some true := by
  unfold gd; rw [h1]; simp only [h2, h3, hb, BEq.rfl]
theorem gd_n {j e : Nat} {want b : Bool} (h1 : o.guard = some (j, want)) (h2 : (ops[j]?).bind (·.dst) = some e) (h3 : aget env e = some (.k (.bool b))) (hb : b = !want) : gd ops env o = some false := by
  unfold gd; rw [h1]; simp only [h2, h3, hb]; cases want <;> rfl
def Fresh (_ : Bool) : Prop := True
theorem fr1 {b : Bool} (_ : b = true) : Fresh b := trivial
theorem fr2 {b : Bool} (_ : b = false) : Fresh b := trivial
theorem DR.gs {j e : Nat} {want b : Bool} (h1 : o.guard = some (j, want)) (h2 : (ops[j]?).bind (·.dst) = some e) (h3 : aget env e = some (.k (.bool b))) (_hn : Fresh b) (ht : b = true → DR P N ops chk K ((i, o) :: rs) acc env mem) (hf : b = false → DR P N ops chk K ((i, o) :: rs) acc env mem) : DR P N ops chk K ((i, o) :: rs) acc env mem := by
  cases hb : b
  · exact hf hb
  · exact ht hb
/-- append, the result told otherwise. -/
theorem DR.aq {T Tx E Ex sz j : Nat} {x y : Operand} {s : Option Nat} {es ys zs : List V} (X : TOk P) {ti xi ei : TI} (ho : o.op = .call { callee := .builtin .append, args := #[x, y], argTypes := #[T, Tx] }) (hg : gd ops env o = some true) (hds : o.dst = some d) (hx : evo env x = some (.s (some j) es)) (hy : evo env y = some (.s s ys))
    {n0 : Nat} (hm : aget mem j = some (.r E sz n0)) (hn0 : es.length = n0) (hT : aget X.tab T = some ti) (hdt : ti.d = .sl E) (hE : aget X.tab E = some ei) (hsz : ei.size = sz) (hX : aget X.tab Tx = some xi) (hdx : xi.d = .sl Ex)
    (hes : ∀ e ∈ es, e.cells.length = sz) (hys : ∀ e ∈ ys, e.cells.length = sz) (hz : es ++ ys = zs) {n : Nat} (hn : zs.length = n) (hmax : n ≤ 140737488355328) (hb : n * ei.bytes ≤ 140737488355328) (hd : Nat.blt d N = true)
    (hK : DR P N ops chk K rs ((i, [(j, some (.r E sz es.length), some (.r E sz n))]) :: acc) ((d, .s (some j) zs) :: env) ((j, .r E sz n) :: mem)) : DR P N ops chk K ((i, o) :: rs) acc env mem := by
  subst hz
  exact DR.ap X hg hds ho hx hy hm hn0 hT hdt hE hsz hX hdx hes hys (by rw [← List.length_append]; exact hn) hmax hb hd hK
/-- A test that guards others parts the walk. -/
theorem DR.gD {p : Prop} {dp : Decidable p} (hg : gd ops env o = some true) (hds : o.dst = some d) (hu : usedG ops d = true) (h : Does P o env (.k (.bool (decide p))) []) (hd : Nat.blt d N = true) (h1 : p → DR P N ops chk K rs ((i, []) :: acc) ((d, .k (.bool true)) :: env) mem) (h2 : ¬ p → DR P N ops chk K rs ((i, []) :: acc) ((d, .k (.bool false)) :: env) mem) : DR P N ops chk K ((i, o) :: rs) acc env mem := DR.ppD hg hds h hd h1 h2
theorem DR.gB {b : Bool} (hg : gd ops env o = some true) (hds : o.dst = some d) (hu : usedG ops d = true) (h : Does P o env (.k (.bool b)) []) (hd : Nat.blt d N = true) (h1 : b = true → DR P N ops chk K rs ((i, []) :: acc) ((d, .k (.bool true)) :: env) mem) (h2 : b = false → DR P N ops chk K rs ((i, []) :: acc) ((d, .k (.bool false)) :: env) mem) : DR P N ops chk K ((i, o) :: rs) acc env mem := DR.ppB hg hds h hd h1 h2
end
/-! ### Bytes, numbers of 64 bits -/
theorem to_u8b {a : Nat} : IntKind.u8.wrap ((a : Nat) : Int) = ((UInt8.ofNat a).toNat : Int) := by rw [to_u8, UInt8.toNat_ofNat']
theorem quo_u8r {a b : Nat} (h : a ≤ 255) : IntKind.u8.wrap (((a : Nat) : Int).tdiv (OfNat.ofNat b)) = ((a / OfNat.ofNat b : Nat) : Int) := by
  have := Nat.div_le_self a (OfNat.ofNat b)
  show IntKind.u8.wrap (((a / OfNat.ofNat b : Nat) : Nat) : Int) = _
  generalize a / OfNat.ofNat b = c at this ⊢
  exact wrap_u8 (by omega)
theorem shl_u8l {a n : Nat} (h : n ≤ 8) : IntKind.u8.wrap ((OfNat.ofNat a : Int) * 2 ^ (min ((n : Nat) : Int).toNat IntKind.u8.bits)) = ((UInt8.ofNat (OfNat.ofNat a * 2 ^ n)).toNat : Int) := by
  rw [Int.toNat_natCast, show IntKind.u8.bits = 8 from rfl, Nat.min_eq_left h, UInt8.toNat_ofNat']
  have : (OfNat.ofNat a : Int) * 2 ^ n = ((OfNat.ofNat a * 2 ^ n : Nat) : Int) := by rw [Int.natCast_mul, Int.natCast_pow]; rfl
  rw [this]
  exact wrap_unsN (k := .u8) rfl _
theorem uor {a b : UInt64} : IntKind.u64.wrap (((BitVec.ofInt IntKind.u64.bits (a.toNat : Int) ||| BitVec.ofInt IntKind.u64.bits (b.toNat : Int)).toNat : Nat) : Int) = ((a ||| b).toNat : Int) := by
  rw [or_u64 a.toNat_lt b.toNat_lt, UInt64.toNat_or]
theorem uorn {a : UInt64} {n : Nat} : IntKind.u64.wrap (((BitVec.ofInt IntKind.u64.bits (a.toNat : Int) ||| BitVec.ofInt IntKind.u64.bits (n : Int)).toNat : Nat) : Int) = ((a ||| UInt64.ofNat n).toNat : Int) := by
  rw [BitVec.toNat_or, ofInt_nat, ofInt_nat, UInt64.toNat_or, UInt64.toNat_ofNat']
  have e : (2 : Nat) ^ IntKind.u64.bits = 2 ^ 64 := rfl
  rw [e, Nat.mod_eq_of_lt a.toNat_lt]
  exact wrap_fit (k := .u64) rfl (Nat.or_lt_two_pow a.toNat_lt (Nat.mod_lt _ (Nat.two_pow_pos 64)))
theorem bor {a b : UInt8} : IntKind.u8.wrap (((BitVec.ofInt IntKind.u8.bits (a.toNat : Int) ||| BitVec.ofInt IntKind.u8.bits (b.toNat : Int)).toNat : Nat) : Int) = ((a ||| b).toNat : Int) := by
  rw [or_nat (k := .u8) rfl a.toNat_lt b.toNat_lt, UInt8.toNat_or]
/-! ### A slice of a box, looked at -/
theorem sub_map {α : Type} {f : α → V} {l : List α} {m n : Nat} : ((l.map f).drop m).take n = ((l.drop m).take n).map f := by rw [List.map_take, List.map_drop]
theorem sub_l {a b r : List V} {m n : Nat} (hs : (a.drop m).take n = r) (h : m + n ≤ a.length) : ((a ++ b).drop m).take n = r := by
  rw [List.drop_append_of_le_length (by omega), List.take_append_of_le_length (by rw [List.length_drop]; omega), hs]
theorem sub_r {a b r : List V} {off k m n : Nat} (hl : a.length = k) (hk : off = k + m) (hs : (b.drop m).take n = r) : ((a ++ b).drop off).take n = r := by
  subst hl; subst hk
  rw [List.drop_append, List.drop_of_length_le (by omega), List.nil_append, Nat.add_sub_cancel_left, hs]
section
variable {P : Program} {o : Oper} {env : Env} {v : V}
theorem Does.pickT {c x y : Operand} {b : Bool} (ho : o.op = .pick c x y) (hc : evo env c = some (.k (.bool b))) (hb : b = true) (hx : evo env x = some v) : Does P o env v [] := Does.pick ho hc (by rw [hb]; exact hx)
theorem Does.pickF {c x y : Operand} {b : Bool} (ho : o.op = .pick c x y) (hc : evo env c = some (.k (.bool b))) (hb : b = false) (hx : evo env y = some v) : Does P o env v [] := Does.pick ho hc (by rw [hb]; exact hx)
theorem Does.pickB {c x y : Operand} {b p q : Bool} (ho : o.op = .pick c x y) (hc : evo env c = some (.k (.bool b))) (hx : evo env x = some (.k (.bool p))) (hy : evo env y = some (.k (.bool q))) : Does P o env (.k (.bool (cond b p q))) [] := Does.pick ho hc (by cases b; exact hy; exact hx)
theorem Does.index1 {T e n k : Nat} {x ix : Operand} {kd : IntKind} {z : Int} {cs : List V} (X : TOk P) {ti ei : TI} (ho : o.op = .index T x ix) (hx : evo env x = some (.a cs)) (hi : evo env ix = some (.k (.int kd z))) (hz : z = ((k : Nat) : Int)) (hT : aget X.tab T = some ti) (hd : ti.d = .arr n e) (hE : aget X.tab e = some ei) (hs : Nat.beq ei.size 1 = true) (hk : k < n) (hv : ei.part cs k = some v) : Does P o env v [] :=
  Does.index X ho hx hi hz hT hd hE hk (by rw [Nat.eq_of_beq_eq_true hs, Nat.mul_one]; exact hv)
/-- A constant text's bytes: the row is marked beyond its end. -/
theorem Does.markS {T i E sz e : Nat} {x : Operand} {es : List V} (X : TOk P) {ti ei : TI} (ho : o.op = .convert T T x) (hx : evo env x = some (.s (some i) es)) (hT : aget X.tab T = some ti) (hd : ti.d = .sl e) (hE : aget X.tab e = some ei) (hdE : ei.d = .int .u8) (hne : Nat.blt 0 es.length = true) (hs : ∀ e ∈ es, e.cells.length = sz) :
    Does P o env (.s (some i) es) [(i, some (.r E sz es.length), some (.r E sz es.length))] := by
  refine ⟨fun F g a w mem h1 h2 h3 h4 _ K Q hK => ?_⟩
  have hi := h4 _ _ _ mem_one
  have hpos : 0 < es.length := Nat.le_of_ble_eq_true hne
  have hrx := h1 x (by simp [ho, Op.operands]) _ hx
  rcases rep_tip h2 hrx hi hs with ⟨ao, c, zs, e1, e2, hown, hp, hone, hrep⟩ | ⟨rfl, _⟩
  case inr => simp at hpos
  cases ao with
  | none =>
    rcases hown.2 with ⟨_, h0⟩ | ⟨q, cp, cur, fz, hv, _⟩
    · omega
    · simp at hv
  | some b =>
    rcases hown.2 with ⟨hv, _⟩ | ⟨q, cp, cur, fz, hv, hb0, hq, hnc, hcm, hcs, htk, hfz⟩
    · simp at hv
    · simp only [Option.map_some, Value.slice.injEq, Option.some.injEq, Addr.mk.injEq, and_true, true_and] at hv
      obtain ⟨rfl, rfl⟩ := hv
      obtain ⟨fz', hq', hfz'⟩ : ∃ fz' : Nat × Nat, (w.freeze ⟨b, cur.size, none⟩ 1).heap[b]? = some (.cells cur E fz') ∧ cur.size ≤ fz'.1 := by
        obtain ⟨lo, hi'⟩ := fz
        simp only at hfz
        by_cases hlh : lo = hi'
        · exact ⟨(cur.size, cur.size + 1), by simp [World.freeze, Array.getElem?_modify, hq, hlh], Nat.le_refl _⟩
        · have : cur.size ≤ lo := hfz.resolve_left fun e => hlh e.symm
          exact ⟨(Min.min lo cur.size, Max.max hi' (cur.size + 1)), by simp [World.freeze, Array.getElem?_modify, hq, hlh], by simp; omega⟩
      have hoth : ∀ k, k ≠ b → (w.freeze ⟨b, cur.size, none⟩ 1).heap[k]? = w.heap[k]? := fun k hk => by
        simp [World.freeze, Array.getElem?_modify, Ne.symm hk]
      have hsz : (w.freeze ⟨b, cur.size, none⟩ 1).heap.size = w.heap.size := by simp [World.freeze]
      have hcell : ∀ b0 o0, (w.freeze ⟨b, cur.size, none⟩ 1).cell? ⟨b0, o0, none⟩ = w.cell? ⟨b0, o0, none⟩ := fun b0 o0 => by
        by_cases h : b0 = b
        · subst h; simp [World.cell?, hq, hq']
        · exact World.cell?_of_block (hoth b0 h)
      have he : Ev g w g (w.freeze ⟨b, cur.size, none⟩ 1) := ⟨by omega, fun b0 o0 _ hs => ⟨hs, hcell b0 o0⟩, fun _ _ hz => hz, fun r a l c h => ⟨a, l, c, h, Nat.le_refl _, fun _ => ⟨rfl, rfl⟩⟩⟩
      obtain ⟨a0, c0, f1, hR⟩ := h2.row hi
      rw [e1] at f1; cases f1
      have hat : ∀ o0, at0 g mem i b o0 := fun o0 => ⟨_, hi, _, _, e1⟩
      have hown' : (w.freeze ⟨b, cur.size, none⟩ 1).oRow 0 E sz (.slice (Option.map (fun b => (⟨b, 0, none⟩ : Addr)) (some b)) es.length c) es.length zs := ⟨hown.1, .inr ⟨b, c, cur, fz', rfl, hb0, hq', hnc, hcm, hcs, htk, .inr hfz'⟩⟩
      obtain ⟨k1, k2⟩ := h2.step h3 (i := i) (m' := .r E sz es.length) he rfl rfl rfl (fun b0 o0 _ hn => ⟨hcell b0 o0, World.frozen?_of_block (hoth b0 fun e => hn (e ▸ hat o0)), fun hs => hs⟩) (fun b0 _ hn => hoth b0 fun e => hn 0 (e ▸ hat 0)) (fun _ _ => rfl) (fun _ _ => rfl) (.r e1 ⟨hp, ⟨zs, hown'⟩, hR.free⟩) (fun b0 o0 hp => .inl ⟨_, hi, hp⟩) fun b0 o0 hb => h2.fut b0 o0 (by omega)
      unfold Oper.wp
      have hrun : (execOp a.eval o).run P w = .ok (.value (a.eval x)) (w.freeze ⟨b, cur.size, none⟩ 1) := by
        simp [execOp, ho, e2, convert, run_underlying ((X.get hT).sl hd), run_underlying ((X.get hE).int hdE), markStringish, World.shape?, hq]
      rw [hrun]
      exact hK _ g _ he k1 k2 (hrx.mono he)
theorem Does.cutA0 {T e l h i n : Nat} {x : Operand} {lo hi : Option Operand} (X : TOk P) {ti ei : TI} (ho : o.op = .slice T x lo hi none) (hx : evo env x = some (.p i 0)) (hT : aget X.tab T = some ti) (hd : ti.d = .arr n e) (hE : aget X.tab e = some ei) (hs : Nat.beq ei.size 1 = true) (hlo : Bd env 0 lo l) (hhi : Bd env n hi h)
    (h1 : l ≤ h) (h2 : h ≤ n) (h3 : l < n) : Does P o env (.sb i l (h - l) (n - l)) [] := by
  have := Does.cutA1 X ho hx hT hd hE hs hlo hhi h1 h2 h3
  rwa [Nat.zero_add] at this
theorem Does.callSb {α : Type} {f : α → V} {fx i off n cap : Nat} {xs : List Operand} {ts : Array Nat} {cs : List V} {l : List α} {mem : Mem} (hc : LM P fx [.s none (l.map f)] [] fun o m => o = .ret v ∧ m = []) (ho : o.op = .call { callee := .value (.func fx), args := xs.toArray, argTypes := ts }) (hx : evs env xs = some [.sb i off n cap]) (_hm : aget mem i = some (.b cs))
    (hcs : (cs.drop off).take n = l.map f) (hf : ∀ a, (f a).cells = [f a]) (hl : l.length = n) (hr : V.refs.go [] cs = true) (hn : n ≤ cap) (hmx : cap ≤ maxLen) (hp : v.pure = true) : Does P o env v [(i, some (.b cs), none)] :=
  Does.callV [(i, .b cs)] hc ho hx (.cons (.sb (size := 1) (aget_self ..) hr (by
    rw [Nat.mul_one, hcs, List.flatMap_map]
    clear hc hcs hl
    induction l with
    | nil => rfl
    | cons a l ih => rw [List.flatMap_cons, hf, List.map_cons, ← ih]; rfl) (by rw [List.length_map]; exact hl) (fun e he => by obtain ⟨a, _, rfl⟩ := List.mem_map.1 he; rw [hf]; rfl) (by decide) hn hmx) .nil) hp
end
section
variable {P : Program} {N : Nat} {ops : Array Oper} {chk : List (Nat × Tch) → Bool} {K : Env → Mem → Prop} {acc : List (Nat × Tch)} {env : Env} {mem : Mem} {i d j : Nat} {o : Oper} {rs : List (Nat × Oper)} {v : V} {m : M}
theorem DR.mk {T E sz e j : Nat} {x : Operand} {es : List V} (X : TOk P) {ti ei : TI} (ho : o.op = .convert T T x) (hg : gd ops env o = some true) (hds : o.dst = some d) (hx : evo env x = some (.s (some j) es)) {n : Nat} (hm : aget mem j = some (.r E sz n)) (hn : es.length = n) (hT : aget X.tab T = some ti) (hdt : ti.d = .sl e) (hE : aget X.tab e = some ei) (hdE : ei.d = .int .u8) (hne : Nat.blt 0 es.length = true) (hs : ∀ e ∈ es, e.cells.length = sz) (hd : Nat.blt d N = true)
    (hK : DR P N ops chk K rs ((i, [(j, some (.r E sz es.length), some (.r E sz es.length))]) :: acc) ((d, .s (some j) es) :: env) ((j, .r E sz es.length) :: mem)) : DR P N ops chk K ((i, o) :: rs) acc env mem :=
  DR.ww hg hds (Does.markS X ho hx hT hdt hE hdE hne hs) (by rw [hn]; exact hm) hd hK
theorem DR.sb {α : Type} {f : α → V} {fx off n cap : Nat} {xs : List Operand} {ts : Array Nat} {cs : List V} {l : List α} (hg : gd ops env o = some true) (hds : o.dst = some d) (ho : o.op = .call { callee := .value (.func fx), args := xs.toArray, argTypes := ts }) (hx : evs env xs = some [.sb j off n cap]) (hm : aget mem j = some (.b cs))
    (hcs : (cs.drop off).take n = l.map f) (hc : LM P fx [.s none (l.map f)] [] fun o m => o = .ret v ∧ m = []) (hf : ∀ a, (f a).cells = [f a]) (hl : l.length = n) (hr : V.refs.go [] cs = true) (hn : n ≤ cap) (hmx : cap ≤ maxLen) (hp : v.pure = true) (hd : Nat.blt d N = true)
    (hK : DR P N ops chk K rs ((i, [(j, some (.b cs), none)]) :: acc) ((d, v) :: env) mem) : DR P N ops chk K ((i, o) :: rs) acc env mem := DR.rr hg hds (Does.callSb hc ho hx hm hcs hf hl hr hn hmx hp) hm hd hK
end
/-! ### One box that is lent -/
theorem ren_refs {ρ : Nat → Nat} (v : V) : v.refs [] = true → v.ren ρ = v := by
  induction v using V.rec (motive_2 := fun l => V.refs.go [] l = true → V.ren.go ρ l = l) with
  | k v => intro _; rfl
  | a cs ih => intro h; simp only [V.ren, ih (by simpa [V.refs] using h)]
  | t cs ih => intro h; simp only [V.ren, ih (by simpa [V.refs] using h)]
  | s o es => cases o with
    | none => intro _; rfl
    | some r => intro h; simp [V.refs, aget] at h
  | nil => intro _; rfl
  | p b off => intro h; simp [V.refs, aget] at h
  | sb b off n cap => intro h; simp [V.refs, aget] at h
  | q cs => intro _; rfl
  | f fn fi ca h1 h2 => intro h; simp only [V.refs, Bool.and_eq_true] at h; simp only [V.ren, h1 h.1, h2 h.2]
  | i T v ih => intro h; simp only [V.ren, ih (by simpa [V.refs] using h)]
  | w b gen sz off n => intro h; simp [V.refs, aget] at h
  | pw b gen off => intro h; simp [V.refs, aget] at h
  | mp b => intro h; simp [V.refs, aget] at h
  | y b => intro h; simp [V.refs, aget] at h
  | cons v l h1 h2 =>
    rename_i h
    simp only [V.refs.go, Bool.and_eq_true] at h
    simp only [V.ren.go, h1 h.1, h2 h.2]
  | _ => intro _; rfl
theorem ren_cells {ρ : Nat → Nat} {cs : List V} (h : V.refs.go [] cs = true) : cs.map (V.ren ρ) = cs := (List.map_congr_left fun u hu => ren_refs u (refs_go h u hu)).trans (List.map_id cs)
theorem LM.box1 {P : Program} {f : Nat} (A : Nat → List V) {cs cs' : List V} {v : V} (hA : ∀ (ρ : Nat → Nat) k, (A k).map (V.ren ρ) = A (ρ k)) (h1 : V.refs.go [] cs = true) (h2 : V.refs.go [] cs' = true) (hv : v.refs [] = true)
    (h : LM P f (A 1000) [(1000, .b cs)] fun o m => o = .ret v ∧ m = [(1000, .b cs')]) (i : Nat) : LM P f (A i) [(i, .b cs)] fun o m => o = .ret v ∧ m = [(i, .b cs')] :=
  LM.gen [1000] [i] (by simp) (by simp) rfl h fun ρ hρ => by
    simp at hρ
    refine ⟨by rw [hA, hρ], ?_, ?_, ?_⟩
    · simp [Mem.ren, M.ren, hρ, ren_cells h1]
    · simp [Out.ren, ren_refs v hv]
    · simp [Mem.ren, M.ren, hρ, ren_cells h2]
theorem cv_mapb (keep : Nat → Bool) (nn : Bool) (l : List UInt8) : V.cv.go keep nn (l.map bK) = l.map bK := by
  induction l with
  | nil => rfl
  | cons a l ih => simp only [List.map_cons, V.cv.go, ih]; rfl
theorem cv_mapu (keep : Nat → Bool) (nn : Bool) (l : List Nat) : V.cv.go keep nn (l.map uK) = l.map uK := by
  induction l with
  | nil => rfl
  | cons a l ih => simp only [List.map_cons, V.cv.go, ih]; rfl
theorem cv_mapq (keep : Nat → Bool) (nn : Bool) (l : List UInt64) : V.cv.go keep nn (l.map qK) = l.map qK := by
  induction l with
  | nil => rfl
  | cons a l ih => simp only [List.map_cons, V.cv.go, ih]; rfl
theorem ft1 {us args : List V} (h : V.cv.go (fun _ => false) false us = args) : Fits us args := Fits.cv _ _ h
theorem ft2 {us args : List V} (h : V.cv.go (fun _ => false) true us = args) : Fits us args := Fits.cv _ _ h
/-- Small facts that a walk asks for. -/
theorem lz {p : Prop} (h : p := by first | assumption | with_reducible rfl | omega | decide | (simp only [maxLen]; omega) | (simp only [V.cells, bK, qK, List.length_map, List.length_set, List.length_append, List.length_take, List.length_drop, List.length_cons, List.length_nil, List.length_replicate, List.length_reverse] <;> first | assumption | omega)) : p := h
theorem evp0 {env : Env} : evp env [] = some [] := rfl
theorem evp1 {env : Env} {i : Nat} {x : Operand} {v : V} (h : evo env x = some v) : evp env [(i, x)] = some [(i, v)] := by simp [evp, h]
theorem evp2 {env : Env} {i j : Nat} {x y : Operand} {v u : V} (h : evo env x = some v) (k : evo env y = some u) : evp env [(i, x), (j, y)] = some [(i, v), (j, u)] := by simp [evp, h, k]
theorem evp3 {env : Env} {i j k : Nat} {x y z : Operand} {v u t : V} (h : evo env x = some v) (h2 : evo env y = some u) (h3 : evo env z = some t) : evp env [(i, x), (j, y), (k, z)] = some [(i, v), (j, u), (k, t)] := by simp [evp, h, h2, h3]
theorem dense0 {n : Nat} : dense n [] = some [] := rfl
theorem dense1 {v v' : V} (h : v.bare = some v') : dense 0 [(0, v)] = some [v'] := by simp [dense, h]
theorem dense2 {v v' u u' : V} (h : v.bare = some v') (k : u.bare = some u') : dense 0 [(0, v), (1, u)] = some [v', u'] := by simp [dense, h, k]
theorem dense3 {v v' u u' t t' : V} (h : v.bare = some v') (k : u.bare = some u') (l : t.bare = some t') : dense 0 [(0, v), (1, u), (2, t)] = some [v', u', t'] := by simp [dense, h, k, l]
theorem bare_k {x : Value} : (V.k x).bare = some (.k x) := rfl
theorem bare_s {o : Option Nat} {es : List V} : (V.s o es).bare = some (.s none es) := rfl
theorem bare_map {α : Type} {f : α → V} (hf : ∀ a, (f a).bare = some (f a)) (l : List α) : V.bare.go (l.map f) = some (l.map f) := by
  induction l with
  | nil => rfl
  | cons a l ih => simp only [List.map_cons, V.bare.go, hf, ih]
theorem bare_am {α : Type} {f : α → V} {l : List α} (hf : ∀ a, (f a).bare = some (f a)) : (V.a (l.map f)).bare = some (.a (l.map f)) := by simp only [V.bare, bare_map hf, Option.map_some]
theorem all_sizes {n : Nat} {es : List V} (h : (es.all fun e => Nat.beq e.cells.length n) = true) : ∀ e ∈ es, e.cells.length = n := fun e he => Nat.eq_of_beq_eq_true (List.all_eq_true.1 h e he)
/-- Sizes of elements. -/
theorem sz' {n : Nat} {es : List V} (h : ∀ e ∈ es, e.cells.length = n := by repeat' (first | with_reducible assumption | with_reducible exact Eq.refl _ | with_reducible exact sizes_nil | with_reducible refine sizes_cons ?_ ?_ | with_reducible refine sizes_app ?_ ?_ | with_reducible refine sizes_drop ?_ | with_reducible refine sizes_take ?_ | ((with_reducible refine sizes_map ?_ _); intro _; rfl) | exact lz | assumption | exact Eq.refl _)) : ∀ e ∈ es, e.cells.length = n := h
theorem dT {p : Prop} {i : Decidable p} (h : p) : @decide p i = true := @decide_eq_true p i h
theorem dF {p : Prop} {i : Decidable p} (h : ¬ p) : @decide p i = false := @decide_eq_false p i h
theorem bz {p q : Bool} (h : p = q := by first | assumption | rfl | (simp_all; done)) : V.k (.bool p) = V.k (.bool q) := by rw [h]
theorem trueW : True := trivial
end Lf
end Go.Proofs.Ytgeccggkdgpkiaa
