/- A part of the proof: texts joined. -/
import Derived.Test.YtpaafpmofhajfaaGreatDoorQ2b047e4
set_option linter.unusedVariables false
set_option linter.unusedSimpArgs false
namespace Go.Proofs.YtpaafpmofhajfaaGreatDoor
open Go.RowKit Rg
namespace Lf
section
variable {P : Program} {F : Fr0} {N : Nat} {Q : LQ} {env : Env} {mem : Mem}
theorem DR.plain {ops : Array Oper} {chk : List (Nat × Tch) → Bool} {l : List (Nat × Oper)} {acc : List (Nat × Tch)} (h : DR P F N ops chk (fun env mem => Q .normal env mem) l acc env mem) : ∀ {k : Nat} {os : List Oper}, l = enumI k os → LS P F N ops os Q env mem := by
 induction h with
 | nl _ h =>
  intro k os hl
  cases os with
  | nil => exact LS.nil h
  | cons o r => cases hl
 | run hd hg h ht _ ih =>
  intro k os hl
  cases os with
  | nil => cases hl
  | cons o' r => cases hl; exact LS.stepF hg h ht hd (ih rfl)
 | pass hd hg _ ih =>
  intro k os hl
  cases os with
  | nil => cases hl
  | cons o' r => cases hl; exact LS.pass hg hd (ih rfl)
theorem LC.regionD {id : Nat} {l : List Oper} (h : DR P F N l.toArray (fun _ => true) (fun env mem => Q .normal env mem) (enumI 0 l) [] env mem) : LC P F N (.region id l.toArray false) Q env mem := LC.region (h.plain rfl)
theorem LC.iteD {c : Operand} {x y : Code} {p : Prop} {dp : Decidable p} (hc : evo env c = some (.k (.bool (decide p)))) (h : (p → LC P F N x Q env mem) ∧ (¬ p → LC P F N y Q env mem)) : LC P F N (.cond c x y) Q env mem :=
 .cond hc (fun e => h.1 (of_decide_eq_true e)) fun e => h.2 (of_decide_eq_false e)
theorem LC.iteN {c : Operand} {x y : Code} {b : Bool} (hc : evo env c = some (.k (.bool (!b)))) (h : (b = false → LC P F N x Q env mem) ∧ (b = true → LC P F N y Q env mem)) : LC P F N (.cond c x y) Q env mem :=
 .cond hc (fun e => h.1 (by simpa using e)) fun e => h.2 (by simpa using e)
theorem LC.iteB {c : Operand} {x y : Code} {b : Bool} (hc : evo env c = some (.k (.bool b))) (h : (b = true → LC P F N x Q env mem) ∧ (b = false → LC P F N y Q env mem)) : LC P F N (.cond c x y) Q env mem := .cond hc h.1 h.2
theorem LC.iteT {c : Operand} {x y : Code} {b : Bool} (hc : evo env c = some (.k (.bool b))) (hb : b = true) (h : LC P F N x Q env mem) : LC P F N (.cond c x y) Q env mem := .cond hc (fun _ => h) fun e => by rw [hb] at e; cases e
theorem LC.iteF {c : Operand} {x y : Code} {b : Bool} (hc : evo env c = some (.k (.bool b))) (hb : b = false) (h : LC P F N y Q env mem) : LC P F N (.cond c x y) Q env mem := .cond hc (fun e => by rw [hb] at e; cases e) fun _ => h
end
def LFU (R : Out → Mem → Prop) (mem : Mem) (u : V) : Prop := ∃ v' mo, Tells mem u v' mo ∧ R (.ret v') mo
theorem LFin.by_ {P : Program} {X : TOk P} {rs : List ResultVar} {R : Out → Mem → Prop} {env : Env} {mem : Mem} {u : V} (h : resV X.tab env mem rs = some u) (k : LFU R mem u) : LFin X rs R env mem :=
 let ⟨v', mo, a, b⟩ := k
 ⟨u, v', mo, h, a, b⟩
theorem LRet.ret_ {P : Program} {X : TOk P} {rs : List ResultVar} {R : Out → Mem → Prop} {env : Env} {mem : Mem} {u : V} (h : resV X.tab env mem rs = some u) (k : LFU R mem u) : LRet X rs R .ret env mem := LFin.by_ h k
theorem LRet.nrm {P : Program} {X : TOk P} {rs : List ResultVar} {R : Out → Mem → Prop} {env : Env} {mem : Mem} {u : V} (h : resV X.tab env mem rs = some u) (k : LFU R mem u) : LRet X rs R .normal env mem := LFin.by_ h k
theorem LFU.eqV {mem : Mem} {u v : V} (hr : u.refs [] = true) (hv : u = v) : LFU (fun o m => o = .ret v ∧ m = []) mem u := by
 subst hv; exact ⟨u, [], ⟨⟨_, _, cv_same u⟩, trivial, by rw [hr]; rfl⟩, rfl, rfl⟩
theorem LFU.cvV {mem : Mem} {u v : V} (nn : Bool) (hr : (u.cv (fun _ => false) nn).refs [] = true) (hv : u.cv (fun _ => false) nn = v) : LFU (fun o m => o = .ret v ∧ m = []) mem u := by
 subst hv; exact ⟨_, [], ⟨⟨_, nn, rfl⟩, trivial, by rw [hr]; rfl⟩, rfl, rfl⟩
theorem LFU.memV {mem mo : Mem} {u v : V} (hm : SubM mem mo) (hr : (u.refs mo && refsM mo mo) = true) (hv : u = v) : LFU (fun o m => o = .ret v ∧ m = mo) mem u := by
 subst hv; exact ⟨u, mo, ⟨⟨_, _, cv_same u⟩, hm, hr⟩, rfl, rfl⟩
theorem LFU.memC {mem mo : Mem} {u v : V} (keep : Nat → Bool) (nn : Bool) (hm : SubM mem mo) (hr : ((u.cv keep nn).refs mo && refsM mo mo) = true) (hv : u.cv keep nn = v) : LFU (fun o m => o = .ret v ∧ m = mo) mem u := by
 subst hv; exact ⟨_, mo, ⟨⟨keep, nn, rfl⟩, hm, hr⟩, rfl, rfl⟩
theorem thR {next : Env → Mem → Prop} {Q : LQ} {env : Env} {mem : Mem} (h : Q .ret env mem) : LThen next Q .ret env mem := h
theorem thE {next : Env → Mem → Prop} {Q : LQ} {i : Nat} {env : Env} {mem : Mem} (h : Q (.exit i) env mem) : LThen next Q (.exit i) env mem := h
theorem blkR {i : Nat} {Q : LQ} {env : Env} {mem : Mem} (h : Q .ret env mem) : LBlk i Q .ret env mem := h
theorem blkN {i : Nat} {Q : LQ} {env : Env} {mem : Mem} (h : Q .normal env mem) : LBlk i Q .normal env mem := h
theorem blkE {i : Nat} {Q : LQ} {env : Env} {mem : Mem} (h : Q .normal env mem) : LBlk i Q (.exit i) env mem := by simp only [LBlk, Nat.beq_refl, cond_true]; exact h
theorem ngR {Q : LQ} {env : Env} {mem : Mem} (h : Q .ret env mem) : LNoGoto Q .ret env mem := h
def usedG (ops : Array Oper) (d : Nat) : Bool := ops.toList.any fun o => match o.guard with
 | some (j, _) => (match ops[j]? with | some o' => (match o'.dst with | some e => Nat.beq e d | none => false) | none => false)
 | none => false
theorem litN (n : Nat) : (OfNat.ofNat n : Int) = ((OfNat.ofNat n : Nat) : Int) := rfl
theorem natZ {z : Int} (h : 0 ≤ z) : z = ((z.toNat : Nat) : Int) := (Int.toNat_of_nonneg h).symm
theorem evo_ki {env : Env} {k : IntKind} {z : Int} : evo env (.const (.int k z)) = some (.k (.int k z)) := rfl
theorem evo_kb {env : Env} {b : Bool} : evo env (.const (.bool b)) = some (.k (.bool b)) := rfl
theorem part_mk {ti : TI} {cs : List V} {off : Nat} (hd : ti.d.agg = true) (h : off + ti.size ≤ cs.length) : ti.part cs off = some (.a ((cs.drop off).take ti.size)) := by
 unfold TI.part
 rw [hd]
 simp only [cond_true]
 cases h1 : (off.beq 0 && cs.length.beq ti.size) with
 | true =>
  simp only [Bool.and_eq_true] at h1
  have e1 := Nat.eq_of_beq_eq_true h1.1
  have e2 := Nat.eq_of_beq_eq_true h1.2
  subst e1
  rw [List.drop_zero, List.take_of_length_le (by omega)]
  rfl
 | false =>
  rw [Nat.ble_eq_true_of_le h]
  rfl
theorem part_l {ti : TI} {a b : List V} {off : Nat} {v : V} (h : ti.part a off = some v) : ti.part (a ++ b) off = some v := by
 cases hd : ti.d.agg with
 | true =>
  obtain ⟨h1, rfl⟩ := part_agg hd h
  rw [part_mk hd (by simp only [List.length_append]; omega), List.drop_append_of_le_length (by omega), List.take_append_of_le_length (by rw [List.length_drop]; omega)]
 | false =>
  have h1 := part_one hd h
  unfold TI.part
  rw [hd]
  simp only [cond_false]
  rw [List.getElem?_append_left (List.getElem?_eq_some_iff.1 h1).1]
  exact h1
theorem part_r {ti : TI} {a b : List V} {off n k : Nat} {v : V} (hl : a.length = n) (hk : off = n + k) (h : ti.part b k = some v) : ti.part (a ++ b) off = some v := by
 subst hl; subst hk
 cases hd : ti.d.agg with
 | true =>
  obtain ⟨h1, rfl⟩ := part_agg hd h
  rw [part_mk hd (by simp only [List.length_append]; omega), List.drop_append, List.drop_of_length_le (by omega), List.nil_append, Nat.add_sub_cancel_left]
 | false =>
  have h1 := part_one hd h
  unfold TI.part
  rw [hd]
  simp only [cond_false]
  rw [List.getElem?_append_right (by omega), Nat.add_sub_cancel_left]
  exact h1
theorem splice_l {a b us cs : List V} {off : Nat} (h : splice a off us = cs) (hl : off + us.length ≤ a.length) : splice (a ++ b) off us = cs ++ b := by
 subst h
 unfold splice
 rw [List.take_append_of_le_length (by omega), List.drop_append_of_le_length hl]
 simp
theorem splice_r {a b us cs : List V} {off n k : Nat} (hl : a.length = n) (hk : off = n + k) (h : splice b k us = cs) : splice (a ++ b) off us = a ++ cs := by
 subst hl; subst hk; subst h
 unfold splice
 rw [List.take_append, List.drop_append, List.take_of_length_le (by omega), Nat.add_sub_cancel_left, List.drop_of_length_le (by omega), Nat.add_assoc, Nat.add_sub_cancel_left]
 simp
theorem splice_one {a b : V} {off : Nat} (ho : off = 0) : splice [a] off [b] = [b] := by subst ho; rfl
theorem off_r {off n : Nat} (h : n ≤ off) : off = n + (off - n) := by omega
theorem off_s {n k : Nat} : n + k = n + k := rfl
theorem cut_map {α : Type} {f : α → V} {l0 : List α} {l h : Nat} : ((l0.map f).drop l).take (h - l) = ((l0.drop l).take (h - l)).map f := by rw [List.map_take, List.map_drop]
theorem cut_lo {α : Type} {f : α → V} {l0 : List α} {l : Nat} : ((l0.map f).drop l).take ((l0.map f).length - l) = (l0.drop l).map f := by
 rw [List.take_of_length_le (by simp), List.map_drop]
theorem cut_hi {α : Type} {f : α → V} {l0 : List α} {h : Nat} : ((l0.map f).drop 0).take (h - 0) = (l0.take h).map f := by rw [List.drop_zero, Nat.sub_zero, List.map_take]
theorem cut_all {α : Type} {f : α → V} {l0 : List α} : ((l0.map f).drop 0).take ((l0.map f).length - 0) = l0.map f := by rw [List.drop_zero, Nat.sub_zero, List.take_length]
theorem app_map {α : Type} {f : α → V} {a b : List α} : a.map f ++ b.map f = (a ++ b).map f := List.map_append.symm
theorem app_nilmap {α : Type} {f : α → V} {b : List α} : [] ++ b.map f = b.map f := rfl
theorem app_one1 {α : Type} {f : α → V} {a : List α} {x : α} : a.map f ++ [f x] = (a ++ [x]).map f := by rw [List.map_append]; rfl
theorem app_bl {a : List UInt8} {n : Nat} (h : (UInt8.ofNat n).toNat = n) : a.map bK ++ [.k (.int .u8 (n : Int))] = (a ++ [UInt8.ofNat n]).map bK := by
 rw [List.map_append]
 simp only [List.map_cons, List.map_nil, bK, h]
theorem sizes_map {α : Type} {f : α → V} {n : Nat} (hf : ∀ a, (f a).cells.length = n) (l : List α) : ∀ e ∈ l.map f, e.cells.length = n := fun e he => by
 obtain ⟨a, _, rfl⟩ := List.mem_map.1 he; exact hf a
theorem sizes_app {a b : List V} {n : Nat} (ha : ∀ e ∈ a, e.cells.length = n) (hb : ∀ e ∈ b, e.cells.length = n) : ∀ e ∈ a ++ b, e.cells.length = n := fun e he => (List.mem_append.1 he).elim (ha e) (hb e)
theorem sizes_nil {n : Nat} : ∀ e ∈ ([] : List V), e.cells.length = n := fun e he => by cases he
theorem sizes_cons {a : V} {b : List V} {n : Nat} (ha : a.cells.length = n) (hb : ∀ e ∈ b, e.cells.length = n) : ∀ e ∈ a :: b, e.cells.length = n := fun e he => (List.mem_cons.1 he).elim (fun h => h ▸ ha) (hb e)
theorem sizes_drop {a : List V} {n k : Nat} (ha : ∀ e ∈ a, e.cells.length = n) : ∀ e ∈ a.drop k, e.cells.length = n := fun e he => ha e (List.mem_of_mem_drop he)
theorem sizes_take {a : List V} {n k : Nat} (ha : ∀ e ∈ a, e.cells.length = n) : ∀ e ∈ a.take k, e.cells.length = n := fun e he => ha e (List.mem_of_mem_take he)
section
variable {P : Program} {F : Fr0} {N : Nat} {ops : Array Oper} {chk : List (Nat × Tch) → Bool} {K : Env → Mem → Prop} {acc : List (Nat × Tch)} {env : Env} {mem : Mem} {i d : Nat} {o : Oper} {rs : List (Nat × Oper)} {v : V}
theorem gd_y {j e : Nat} {want b : Bool} (h1 : o.guard = some (j, want)) (h2 : (ops[j]?).bind (·.dst) = some e) (h3 : aget env e = some (.k (.bool b))) (hb : b = want) : gd ops env o = some true := by
 unfold gd; rw [h1]; simp only [h2, h3, hb, BEq.rfl]
theorem gd_n {j e : Nat} {want b : Bool} (h1 : o.guard = some (j, want)) (h2 : (ops[j]?).bind (·.dst) = some e) (h3 : aget env e = some (.k (.bool b))) (hb : b = !want) : gd ops env o = some false := by
 unfold gd; rw [h1]; simp only [h2, h3, hb]; cases want <;> rfl
def Fresh (_ : Bool) : Prop := True
theorem fr1 {b : Bool} (_ : b = true) : Fresh b := trivial
theorem fr2 {b : Bool} (_ : b = false) : Fresh b := trivial
theorem DR.gs {j e : Nat} {want b : Bool} (_h1 : o.guard = some (j, want)) (_h2 : (ops[j]?).bind (·.dst) = some e) (_h3 : aget env e = some (.k (.bool b))) (_hn : Fresh b) (ht : b = true → DR P F N ops chk K ((i, o) :: rs) acc env mem) (hf : b = false → DR P F N ops chk K ((i, o) :: rs) acc env mem) : DR P F N ops chk K ((i, o) :: rs) acc env mem := by
 cases hb : b
 ·exact hf hb
 ·exact ht hb
theorem DR.aq {T Tx E Ex sz j : Nat} {x y : Operand} {s : Option Nat} {es ys zs : List V} (X : TOk P) {ti xi ei : TI} (ho : o.op = .call { callee := .builtin .append, args := #[x, y], argTypes := #[T, Tx] }) (hg : gd ops env o = some true) (hds : o.dst = some d) (hx : evo env x = some (.s (some j) es)) (hy : evo env y = some (.s s ys))
  {n0 : Nat} (hm : aget mem j = some (.r E sz n0)) (hn0 : es.length = n0) (hT : aget X.tab T = some ti) (hdt : ti.d = .sl E) (hE : aget X.tab E = some ei) (hsz : ei.size = sz) (hX : aget X.tab Tx = some xi) (hdx : xi.d = .sl Ex)
  (hes : ∀ e ∈ es, e.cells.length = sz) (hys : ∀ e ∈ ys, e.cells.length = sz) (hz : es ++ ys = zs) {n : Nat} (hn : zs.length = n) (hmax : n ≤ 140737488355328) (hb : n * ei.bytes ≤ 140737488355328) (hd : Nat.blt d N = true)
  (hK : DR P F N ops chk K rs ((i, [(j, some (.r E sz es.length), some (.r E sz n))]) :: acc) ((d, .s (some j) zs) :: env) ((j, .r E sz n) :: mem)) : DR P F N ops chk K ((i, o) :: rs) acc env mem := by
 subst hz
 exact DR.ap X hg hds ho hx hy hm hn0 hT hdt hE hsz hX hdx hes hys (by rw [← List.length_append]; exact hn) hmax hb hd hK
theorem DR.gD {p : Prop} {dp : Decidable p} (hg : gd ops env o = some true) (hds : o.dst = some d) (_hu : usedG ops d = true) (h : Does P o env (.k (.bool (decide p))) []) (hd : Nat.blt d N = true) (h1 : p → DR P F N ops chk K rs ((i, []) :: acc) ((d, .k (.bool true)) :: env) mem) (h2 : ¬ p → DR P F N ops chk K rs ((i, []) :: acc) ((d, .k (.bool false)) :: env) mem) : DR P F N ops chk K ((i, o) :: rs) acc env mem := DR.ppD hg hds h hd h1 h2
theorem DR.gB {b : Bool} (hg : gd ops env o = some true) (hds : o.dst = some d) (_hu : usedG ops d = true) (h : Does P o env (.k (.bool b)) []) (hd : Nat.blt d N = true) (h1 : b = true → DR P F N ops chk K rs ((i, []) :: acc) ((d, .k (.bool true)) :: env) mem) (h2 : b = false → DR P F N ops chk K rs ((i, []) :: acc) ((d, .k (.bool false)) :: env) mem) : DR P F N ops chk K ((i, o) :: rs) acc env mem := DR.ppB hg hds h hd h1 h2
end
theorem to_u8b {a : Nat} : IntKind.u8.wrap ((a : Nat) : Int) = ((UInt8.ofNat a).toNat : Int) := by rw [to_u8, UInt8.toNat_ofNat']
theorem quo_u8r {a b : Nat} (h : a ≤ 255) : IntKind.u8.wrap (((a : Nat) : Int).tdiv (OfNat.ofNat b)) = ((a / OfNat.ofNat b : Nat) : Int) := by
 have := Nat.div_le_self a (OfNat.ofNat b)
 show IntKind.u8.wrap (((a / OfNat.ofNat b : Nat) : Nat) : Int) = _
 generalize a / OfNat.ofNat b = c at this ⊢
 exact wrap_u8 (by omega)
theorem shl_u8l {a n : Nat} (h : n ≤ 8) : IntKind.u8.wrap ((OfNat.ofNat a : Int) * 2 ^ (min ((n : Nat) : Int).toNat IntKind.u8.bits)) = ((UInt8.ofNat (OfNat.ofNat a * 2 ^ n)).toNat : Int) := by
 rw [Int.toNat_natCast, show IntKind.u8.bits = 8 from rfl, Nat.min_eq_left h, UInt8.toNat_ofNat']
 have : (OfNat.ofNat a : Int) * 2 ^ n = ((OfNat.ofNat a * 2 ^ n : Nat) : Int) := by rw [Int.natCast_mul, Int.natCast_pow]; rfl
 rw [this]
 exact wrap_unsN (k := .u8) rfl _
theorem uor {a b : UInt64} : IntKind.u64.wrap (((BitVec.ofInt IntKind.u64.bits (a.toNat : Int) ||| BitVec.ofInt IntKind.u64.bits (b.toNat : Int)).toNat : Nat) : Int) = ((a ||| b).toNat : Int) := by
 rw [or_u64 a.toNat_lt b.toNat_lt, UInt64.toNat_or]
theorem uorn {a : UInt64} {n : Nat} : IntKind.u64.wrap (((BitVec.ofInt IntKind.u64.bits (a.toNat : Int) ||| BitVec.ofInt IntKind.u64.bits (n : Int)).toNat : Nat) : Int) = ((a ||| UInt64.ofNat n).toNat : Int) := by
 rw [BitVec.toNat_or, ofInt_nat, ofInt_nat, UInt64.toNat_or, UInt64.toNat_ofNat']
 have e : (2 : Nat) ^ IntKind.u64.bits = 2 ^ 64 := rfl
 rw [e, Nat.mod_eq_of_lt a.toNat_lt]
 exact wrap_fit (k := .u64) rfl (Nat.or_lt_two_pow a.toNat_lt (Nat.mod_lt _ (Nat.two_pow_pos 64)))
theorem bor {a b : UInt8} : IntKind.u8.wrap (((BitVec.ofInt IntKind.u8.bits (a.toNat : Int) ||| BitVec.ofInt IntKind.u8.bits (b.toNat : Int)).toNat : Nat) : Int) = ((a ||| b).toNat : Int) := by
 rw [or_nat (k := .u8) rfl a.toNat_lt b.toNat_lt, UInt8.toNat_or]
theorem sub_map {α : Type} {f : α → V} {l : List α} {m n : Nat} : ((l.map f).drop m).take n = ((l.drop m).take n).map f := by rw [List.map_take, List.map_drop]
theorem sub_l {a b r : List V} {m n : Nat} (hs : (a.drop m).take n = r) (h : m + n ≤ a.length) : ((a ++ b).drop m).take n = r := by
 rw [List.drop_append_of_le_length (by omega), List.take_append_of_le_length (by rw [List.length_drop]; omega), hs]
theorem sub_r {a b r : List V} {off k m n : Nat} (hl : a.length = k) (hk : off = k + m) (hs : (b.drop m).take n = r) : ((a ++ b).drop off).take n = r := by
 subst hl; subst hk
 rw [List.drop_append, List.drop_of_length_le (by omega), List.nil_append, Nat.add_sub_cancel_left, hs]
section
variable {P : Program} {o : Oper} {env : Env} {v : V}
theorem Does.pickT {c x y : Operand} {b : Bool} (ho : o.op = .pick c x y) (hc : evo env c = some (.k (.bool b))) (hb : b = true) (hx : evo env x = some v) : Does P o env v [] := Does.pick ho hc (by rw [hb]; exact hx)
theorem Does.pickF {c x y : Operand} {b : Bool} (ho : o.op = .pick c x y) (hc : evo env c = some (.k (.bool b))) (hb : b = false) (hx : evo env y = some v) : Does P o env v [] := Does.pick ho hc (by rw [hb]; exact hx)
theorem Does.pickB {c x y : Operand} {b p q : Bool} (ho : o.op = .pick c x y) (hc : evo env c = some (.k (.bool b))) (hx : evo env x = some (.k (.bool p))) (hy : evo env y = some (.k (.bool q))) : Does P o env (.k (.bool (cond b p q))) [] := Does.pick ho hc (by cases b; exact hy; exact hx)
theorem Does.index1 {T e n k : Nat} {x ix : Operand} {kd : IntKind} {z : Int} {cs : List V} (X : TOk P) {ti ei : TI} (ho : o.op = .index T x ix) (hx : evo env x = some (.a cs)) (hi : evo env ix = some (.k (.int kd z))) (hz : z = ((k : Nat) : Int)) (hT : aget X.tab T = some ti) (hd : ti.d = .arr n e) (hE : aget X.tab e = some ei) (hs : Nat.beq ei.size 1 = true) (hk : k < n) (hv : ei.part cs k = some v) : Does P o env v [] :=
 Does.index X ho hx hi hz hT hd hE hk (by rw [Nat.eq_of_beq_eq_true hs, Nat.mul_one]; exact hv)
theorem Does.markS {T i E sz e : Nat} {x : Operand} {es : List V} (X : TOk P) {ti ei : TI} (ho : o.op = .convert T T x) (hx : evo env x = some (.s (some i) es)) (hT : aget X.tab T = some ti) (hd : ti.d = .sl e) (hE : aget X.tab e = some ei) (hdE : ei.d = .int .u8) (hne : Nat.blt 0 es.length = true) (hs : ∀ e ∈ es, e.cells.length = sz) (h1s : sz = 1) :
  Does P o env (.s (some i) es) [(i, some (.r E sz es.length), some (.r E sz es.length))] := by
 refine ⟨fun F g a w mem h1 h2 h3 h4 _ K Q hK => ?_⟩
 have hi := h4 _ _ _ mem_one
 have hpos : 0 < es.length := Nat.le_of_ble_eq_true hne
 have hrx := h1 x (by simp [ho, Op.operands]) _ hx
 rcases rep_tip h2 hrx hi hs with ⟨ao, c, zs, e1, e2, hown, hp, hone, hrep⟩ | ⟨rfl, _⟩
 case inr => simp at hpos
 cases ao with
 | none =>
  rcases hown.2 with ⟨_, h0⟩ | ⟨q, cp, cur, fz, hv, _⟩
  ·omega
  ·simp at hv
 | some b =>
  rcases hown.2 with ⟨hv, _⟩ | ⟨q, cp, cur, fz, hv, hb0, hq, hnc, hcm, hcs, htk, hfz⟩
  ·simp at hv
  ·simp only [Option.map_some, Value.slice.injEq, Option.some.injEq, Addr.mk.injEq, and_true, true_and] at hv
   obtain ⟨rfl, rfl⟩ := hv
   obtain ⟨fz', hq', hfz'⟩ : ∃ fz' : Nat × Nat, (w.freeze ⟨b, cur.size, none⟩ 1).heap[b]? = some (.cells cur E fz') ∧ cur.size ≤ fz'.1 := by
    obtain ⟨lo, hi'⟩ := fz
    simp only at hfz
    by_cases hlh : lo = hi'
    ·exact ⟨(cur.size, cur.size + 1), by simp [World.freeze, Array.getElem?_modify, hq, hlh], Nat.le_refl _⟩
    ·have : cur.size ≤ lo := (hfz.resolve_left fun e => hlh e.symm).1
     exact ⟨(Min.min lo cur.size, Max.max hi' (cur.size + 1)), by simp [World.freeze, Array.getElem?_modify, hq, hlh], by simp; omega⟩
   have hoth : ∀ k, k ≠ b → (w.freeze ⟨b, cur.size, none⟩ 1).heap[k]? = w.heap[k]? := fun k hk => by
    simp [World.freeze, Array.getElem?_modify, Ne.symm hk]
   have hsz : (w.freeze ⟨b, cur.size, none⟩ 1).heap.size = w.heap.size := by simp [World.freeze]
   have hcell : ∀ b0 o0, (w.freeze ⟨b, cur.size, none⟩ 1).cell? ⟨b0, o0, none⟩ = w.cell? ⟨b0, o0, none⟩ := fun b0 o0 => by
    by_cases h : b0 = b
    ·subst h; simp [World.cell?, hq, hq']
    ·exact World.cell?_of_block (hoth b0 h)
   have he : Ev g w g (w.freeze ⟨b, cur.size, none⟩ 1) := ⟨by omega, fun b0 o0 _ hs => ⟨hs, hcell b0 o0⟩, fun _ _ hz => hz, fun r a l c h => ⟨a, l, c, h, Nat.le_refl _, fun _ => ⟨rfl, rfl⟩⟩⟩
   obtain ⟨a0, c0, f1, hR⟩ := h2.row hi
   rw [e1] at f1; cases f1
   have hat : ∀ o0, at0 g mem i b o0 := fun o0 => ⟨_, hi, _, _, e1⟩
   have hown' : (w.freeze ⟨b, cur.size, none⟩ 1).oRow 0 E sz (.slice (Option.map (fun b => (⟨b, 0, none⟩ : Addr)) (some b)) es.length c) es.length zs := ⟨hown.1, .inr ⟨b, c, cur, fz', rfl, hb0, hq', hnc, hcm, hcs, htk, .inr ⟨hfz', h1s⟩⟩⟩
   obtain ⟨k1, k2⟩ := h2.step h3 (i := i) (m' := .r E sz es.length) he rfl rfl rfl (fun b0 o0 _ hn => ⟨hcell b0 o0, World.frozen?_of_block (hoth b0 fun e => hn (e ▸ hat o0)), fun hs => hs⟩) (fun b0 _ hn => hoth b0 fun e => hn 0 (e ▸ hat 0)) (fun _ _ => rfl) (fun _ _ => rfl) (.r e1 ⟨hp, ⟨zs, hown'⟩, hR.free⟩) (fun b0 o0 hp => .inl ⟨_, hi, hp⟩) fun b0 o0 hb => h2.fut b0 o0 (by omega)
   unfold Oper.wp
   have hrun : (execOp a.eval o).run P w = .ok (.value (a.eval x)) (w.freeze ⟨b, cur.size, none⟩ 1) := by
    simp [execOp, ho, e2, convert, run_underlying ((X.get hT).sl hd), run_underlying ((X.get hE).int hdE), markStringish, World.shape?, hq]
   rw [hrun]
   exact hK _ g _ he k1 k2 (hrx.mono he)
theorem Does.cutA0 {T e l h i n : Nat} {x : Operand} {lo hi : Option Operand} (X : TOk P) {ti ei : TI} (ho : o.op = .slice T x lo hi none) (hx : evo env x = some (.p i 0)) (hT : aget X.tab T = some ti) (hd : ti.d = .arr n e) (hE : aget X.tab e = some ei) (hs : Nat.beq ei.size 1 = true) (hlo : Bd env 0 lo l) (hhi : Bd env n hi h)
  (h1 : l ≤ h) (h2 : h ≤ n) (h3 : l < n) : Does P o env (.sb i l (h - l) (n - l)) [] := by
 have := Does.cutA1 X ho hx hT hd hE hs hlo hhi h1 h2 h3
 rwa [Nat.zero_add] at this
theorem Does.callSb {α : Type} {f : α → V} {fx i off n cap : Nat} {xs : List Operand} {ts : Array Nat} {cs : List V} {l : List α} {mem : Mem} (hc : LM P fx [.s none (l.map f)] [] fun o m => o = .ret v ∧ m = []) (ho : o.op = .call { callee := .value (.func fx), args := xs.toArray, argTypes := ts }) (hx : evs env xs = some [.sb i off n cap]) (_hm : aget mem i = some (.b cs))
  (hcs : (cs.drop off).take n = l.map f) (hf : ∀ a, (f a).cells = [f a]) (hl : l.length = n) (hr : V.refs.go [] cs = true) (hn : n ≤ cap) (hmx : cap ≤ maxLen) (hp : v.pure = true) : Does P o env v [(i, some (.b cs), none)] :=
 Does.callV [(i, .b cs)] hc ho hx (.cons (.sb (size := 1) (aget_self ..) hr (by
  rw [Nat.mul_one, hcs, List.flatMap_map]
  clear hc hcs hl
  induction l with
  | nil => rfl
  | cons a l ih => rw [List.flatMap_cons, hf, List.map_cons, ← ih]; rfl) (by rw [List.length_map]; exact hl) (fun e he => by obtain ⟨a, _, rfl⟩ := List.mem_map.1 he; rw [hf]; rfl) (by decide) hn hmx) .nil) hp
end
section
variable {P : Program} {F : Fr0} {N : Nat} {ops : Array Oper} {chk : List (Nat × Tch) → Bool} {K : Env → Mem → Prop} {acc : List (Nat × Tch)} {env : Env} {mem : Mem} {i d j : Nat} {o : Oper} {rs : List (Nat × Oper)} {v : V} {m : M}
theorem DR.mk {T E sz e j : Nat} {x : Operand} {es : List V} (X : TOk P) {ti ei : TI} (ho : o.op = .convert T T x) (hg : gd ops env o = some true) (hds : o.dst = some d) (hx : evo env x = some (.s (some j) es)) {n : Nat} (hm : aget mem j = some (.r E sz n)) (hn : es.length = n) (hT : aget X.tab T = some ti) (hdt : ti.d = .sl e) (hE : aget X.tab e = some ei) (hdE : ei.d = .int .u8) (hne : Nat.blt 0 es.length = true) (hs : ∀ e ∈ es, e.cells.length = sz) (h1s : sz = 1) (hd : Nat.blt d N = true)
  (hK : DR P F N ops chk K rs ((i, [(j, some (.r E sz es.length), some (.r E sz es.length))]) :: acc) ((d, .s (some j) es) :: env) ((j, .r E sz es.length) :: mem)) : DR P F N ops chk K ((i, o) :: rs) acc env mem :=
 DR.ww hg hds (Does.markS X ho hx hT hdt hE hdE hne hs h1s) (by rw [hn]; exact hm) hd hK
theorem DR.sb {α : Type} {f : α → V} {fx off n cap : Nat} {xs : List Operand} {ts : Array Nat} {cs : List V} {l : List α} (hg : gd ops env o = some true) (hds : o.dst = some d) (ho : o.op = .call { callee := .value (.func fx), args := xs.toArray, argTypes := ts }) (hx : evs env xs = some [.sb j off n cap]) (hm : aget mem j = some (.b cs))
  (hcs : (cs.drop off).take n = l.map f) (hc : LM P fx [.s none (l.map f)] [] fun o m => o = .ret v ∧ m = []) (hf : ∀ a, (f a).cells = [f a]) (hl : l.length = n) (hr : V.refs.go [] cs = true) (hn : n ≤ cap) (hmx : cap ≤ maxLen) (hp : v.pure = true) (hd : Nat.blt d N = true)
  (hK : DR P F N ops chk K rs ((i, [(j, some (.b cs), none)]) :: acc) ((d, v) :: env) mem) : DR P F N ops chk K ((i, o) :: rs) acc env mem := DR.rr hg hds (Does.callSb hc ho hx hm hcs hf hl hr hn hmx hp) hm hd hK
end
theorem ren_refs {ρ : Nat → Nat} (v : V) : v.refs [] = true → v.ren ρ = v := by
 induction v using V.rec (motive_2 := fun l => V.refs.go [] l = true → V.ren.go ρ l = l) with
 | k v => intro _; rfl
 | a cs ih => intro h; simp only [V.ren, ih (by simpa [V.refs] using h)]
 | t cs ih => intro h; simp only [V.ren, ih (by simpa [V.refs] using h)]
 | s o es => cases o with
  | none => intro _; rfl
  | some r => intro h; simp [V.refs, aget] at h
 | nil => intro _; rfl
 | p b off => intro h; simp [V.refs, aget] at h
 | sb b off n cap => intro h; simp [V.refs, aget] at h
 | q cs => intro _; rfl
 | f fn fi ca h1 h2 => intro h; simp only [V.refs, Bool.and_eq_true] at h; simp only [V.ren, h1 h.1, h2 h.2]
 | i T v ih => intro h; simp only [V.ren, ih (by simpa [V.refs] using h)]
 | w b gen sz off n => intro h; simp [V.refs, aget] at h
 | pw b gen off => intro h; simp [V.refs, aget] at h
 | mp b => intro h; simp [V.refs, aget] at h
 | y b => intro h; simp [V.refs, aget] at h
 | cons v l h1 h2 =>
  rename_i h
  simp only [V.refs.go, Bool.and_eq_true] at h
  simp only [V.ren.go, h1 h.1, h2 h.2]
 | _ => intro _; rfl
theorem ren_cells {ρ : Nat → Nat} {cs : List V} (h : V.refs.go [] cs = true) : cs.map (V.ren ρ) = cs := (List.map_congr_left fun u hu => ren_refs u (refs_go h u hu)).trans (List.map_id cs)
theorem LM.box1 {P : Program} {f : Nat} (A : Nat → List V) {cs cs' : List V} {v : V} (hA : ∀ (ρ : Nat → Nat) k, (A k).map (V.ren ρ) = A (ρ k)) (h1 : V.refs.go [] cs = true) (h2 : V.refs.go [] cs' = true) (hv : v.refs [] = true)
  (h : LM P f (A 1000) [(1000, .b cs)] fun o m => o = .ret v ∧ m = [(1000, .b cs')]) (i : Nat) : LM P f (A i) [(i, .b cs)] fun o m => o = .ret v ∧ m = [(i, .b cs')] :=
 LM.gen [1000] [i] (by simp) (by simp) rfl h fun ρ hρ => by
  simp at hρ
  refine ⟨by rw [hA, hρ], ?_, ?_, ?_⟩
  ·simp [Mem.ren, M.ren, hρ, ren_cells h1]
  ·simp [Out.ren, ren_refs v hv]
  ·simp [Mem.ren, M.ren, hρ, ren_cells h2]
theorem cv_mapb (keep : Nat → Bool) (nn : Bool) (l : List UInt8) : V.cv.go keep nn (l.map bK) = l.map bK := by
 induction l with
 | nil => rfl
 | cons a l ih => simp only [List.map_cons, V.cv.go, ih]; rfl
theorem cv_mapu (keep : Nat → Bool) (nn : Bool) (l : List Nat) : V.cv.go keep nn (l.map uK) = l.map uK := by
 induction l with
 | nil => rfl
 | cons a l ih => simp only [List.map_cons, V.cv.go, ih]; rfl
theorem cv_mapq (keep : Nat → Bool) (nn : Bool) (l : List UInt64) : V.cv.go keep nn (l.map qK) = l.map qK := by
 induction l with
 | nil => rfl
 | cons a l ih => simp only [List.map_cons, V.cv.go, ih]; rfl
theorem ft1 {us args : List V} (h : V.cv.go (fun _ => false) false us = args) : Fits us args := Fits.cv _ _ h
theorem ft2 {us args : List V} (h : V.cv.go (fun _ => false) true us = args) : Fits us args := Fits.cv _ _ h
theorem lz {p : Prop} (h : p := by first | assumption | with_reducible rfl | omega | decide | (simp only [maxLen]; omega) | (simp only [V.cells, bK, qK, List.length_map, List.length_set, List.length_append, List.length_take, List.length_drop, List.length_cons, List.length_nil, List.length_replicate, List.length_reverse] <;> first | assumption | omega)) : p := h
theorem evp0 {env : Env} : evp env [] = some [] := rfl
theorem evp1 {env : Env} {i : Nat} {x : Operand} {v : V} (h : evo env x = some v) : evp env [(i, x)] = some [(i, v)] := by simp [evp, h]
theorem evp2 {env : Env} {i j : Nat} {x y : Operand} {v u : V} (h : evo env x = some v) (k : evo env y = some u) : evp env [(i, x), (j, y)] = some [(i, v), (j, u)] := by simp [evp, h, k]
theorem evp3 {env : Env} {i j k : Nat} {x y z : Operand} {v u t : V} (h : evo env x = some v) (h2 : evo env y = some u) (h3 : evo env z = some t) : evp env [(i, x), (j, y), (k, z)] = some [(i, v), (j, u), (k, t)] := by simp [evp, h, h2, h3]
theorem dense0 {n : Nat} : dense n [] = some [] := rfl
theorem dense1 {v v' : V} (h : v.bare = some v') : dense 0 [(0, v)] = some [v'] := by simp [dense, h]
theorem dense2 {v v' u u' : V} (h : v.bare = some v') (k : u.bare = some u') : dense 0 [(0, v), (1, u)] = some [v', u'] := by simp [dense, h, k]
theorem dense3 {v v' u u' t t' : V} (h : v.bare = some v') (k : u.bare = some u') (l : t.bare = some t') : dense 0 [(0, v), (1, u), (2, t)] = some [v', u', t'] := by simp [dense, h, k, l]
theorem bare_k {x : Value} : (V.k x).bare = some (.k x) := rfl
theorem bare_s {o : Option Nat} {es : List V} : (V.s o es).bare = some (.s none es) := rfl
theorem bare_map {α : Type} {f : α → V} (hf : ∀ a, (f a).bare = some (f a)) (l : List α) : V.bare.go (l.map f) = some (l.map f) := by
 induction l with
 | nil => rfl
 | cons a l ih => simp only [List.map_cons, V.bare.go, hf, ih]
theorem bare_am {α : Type} {f : α → V} {l : List α} (hf : ∀ a, (f a).bare = some (f a)) : (V.a (l.map f)).bare = some (.a (l.map f)) := by simp only [V.bare, bare_map hf, Option.map_some]
theorem all_sizes {n : Nat} {es : List V} (h : (es.all fun e => Nat.beq e.cells.length n) = true) : ∀ e ∈ es, e.cells.length = n := fun e he => Nat.eq_of_beq_eq_true (List.all_eq_true.1 h e he)
theorem sz' {n : Nat} {es : List V} (h : ∀ e ∈ es, e.cells.length = n := by repeat' (first | with_reducible assumption | with_reducible exact Eq.refl _ | with_reducible exact sizes_nil | with_reducible refine sizes_cons ?_ ?_ | with_reducible refine sizes_app ?_ ?_ | with_reducible refine sizes_drop ?_ | with_reducible refine sizes_take ?_ | ((with_reducible refine sizes_map ?_ _); intro _; rfl) | exact lz | assumption | exact Eq.refl _)) : ∀ e ∈ es, e.cells.length = n := h
theorem dT {p : Prop} {i : Decidable p} (h : p) : @decide p i = true := @decide_eq_true p i h
theorem dF {p : Prop} {i : Decidable p} (h : ¬ p) : @decide p i = false := @decide_eq_false p i h
theorem bz {p q : Bool} (h : p = q := by first | assumption | rfl | (simp_all; done)) : V.k (.bool p) = V.k (.bool q) := by rw [h]
theorem trueW : True := trivial
end Lf
open Go.RowKit Rg
namespace Lf
section
variable {P : Program} {F : Fr0} {N : Nat} {Q : LQ} {env : Env} {mem : Mem}
theorem DR.plain2 {ops : Array Oper} {chk : List (Nat × Tch) → Bool} {post : List Oper} {l : List (Nat × Oper)} {acc : List (Nat × Tch)} (h : DR P F N ops chk (fun env mem => LS P F N ops post Q env mem) l acc env mem) : ∀ {k : Nat} {os : List Oper}, l = enumI k os → LS P F N ops (os ++ post) Q env mem := by
 induction h with
 | nl _ h =>
  intro k os hl
  cases os with
  | nil => exact h
  | cons o r => cases hl
 | run hd hg h ht _ ih =>
  intro k os hl
  cases os with
  | nil => cases hl
  | cons o' r => cases hl; exact LS.stepF hg h ht hd (ih rfl)
 | pass hd hg _ ih =>
  intro k os hl
  cases os with
  | nil => cases hl
  | cons o' r => cases hl; exact LS.pass hg hd (ih rfl)
theorem LC.upTo (k : Nat) {id : Nat} {l : List Oper} (h : DR P F N l.toArray (fun _ => true) (fun env mem => LS P F N l.toArray (l.drop k) Q env mem) (enumI 0 (l.take k)) [] env mem) : LC P F N (.region id l.toArray false) Q env mem := by
 refine LC.region ?_
 have := h.plain2 rfl
 rwa [List.take_append_drop] at this
theorem LS.panic {ops : Array Oper} {o : Oper} {r : List Oper} {x : Operand} {T : TypeId} {v : V} (ho : o.op = .panic x) (hg : gd ops env o = some true) (hx : evo env x = some (.i T v)) (hQ : Q (.pan (.i T v)) env mem) : LS P F N ops (o :: r) Q env mem := LS.pan hg (Pans.panic ho hx) tpre_nil hQ
theorem LS.panC {ops : Array Oper} {o : Oper} {r : List Oper} {fx : Nat} {xs : List Operand} {ts : Array Nat} {us args : List V} {mi mo : Mem} {v : V} (hc : LM P fx args mi fun o m => o = .pan v ∧ m = mo) (ho : o.op = .call { callee := .value (.func fx), args := xs.toArray, argTypes := ts }) (hg : gd ops env o = some true) (hx : evs env xs = some us) (hu : Fits us args) (hr : (V.refs.go mi args && (refsM mi mi && keysOk mi mo)) = true) (ht : TPre mi mo mem) (hQ : Q (.pan v) env (mo ++ mem)) : LS P F N ops (o :: r) Q env mem :=
 LS.pc hg (Pans.callM hc ho hx hu hr) ht hQ
theorem thP {next : Env → Mem → Prop} {Q : LQ} {v : V} {env : Env} {mem : Mem} (h : Q (.pan v) env mem) : LThen next Q (.pan v) env mem := h
theorem blkP {i : Nat} {Q : LQ} {v : V} {env : Env} {mem : Mem} (h : Q (.pan v) env mem) : LBlk i Q (.pan v) env mem := h
theorem ngP {Q : LQ} {v : V} {env : Env} {mem : Mem} (h : Q (.pan v) env mem) : LNoGoto Q (.pan v) env mem := h
theorem LRet.pan {X : TOk P} {rs : List ResultVar} {R : Out → Mem → Prop} {v : V} {env : Env} {mem : Mem} (mo : Mem) (hm : SubM mem mo) (hr : (v.refs mo && refsM mo mo) = true) (hR : R (.pan v) mo) : LRet X rs R (.pan v) env mem := ⟨v, mo, ⟨⟨_, _, cv_same v⟩, hm, hr⟩, hR⟩
structure LNext3 {β γ : Type} (I : β → γ → Env) (J : β → γ → Mem) (ok : β → γ → Prop) (μ : β → Nat) (b : β) (env : Env) (mem : Mem) : Prop where
 ex : ∃ y z, ok y z ∧ μ y < μ b ∧ Sub env mem (I y z) (J y z)
theorem LNext3.go {β γ : Type} {I : β → γ → Env} {J : β → γ → Mem} {ok : β → γ → Prop} {μ : β → Nat} {b : β} {y : β} {z : γ} (he : SubE env (I y z)) (hm : SubM mem (J y z)) (hk : (mem.all fun x => Nat.blt x.1 1000 || (aget (J y z) x.1).isSome) = true)
  (hrE : refsE (J y z) (I y z) = true) (hrM : refsM (J y z) (J y z) = true) (hok : ok y z) (hlt : μ y < μ b) : LNext3 I J ok μ b env mem := ⟨y, z, hok, hlt, he, hm, by rw [hk, hrE, hrM]; rfl⟩
theorem LC.loop3 {β γ : Type} {c : Code} (I : β → γ → Env) (J : β → γ → Mem) (ok : β → γ → Prop) (μ : β → Nat) (b0 : β) (c0 : γ) (h0 : ok b0 c0) (he : SubE env (I b0 c0)) (hm : SubM mem (J b0 c0)) (hk : (mem.all fun x => Nat.blt x.1 1000 || (aget (J b0 c0) x.1).isSome) = true)
  (hrE : refsE (J b0 c0) (I b0 c0) = true) (hrM : refsM (J b0 c0) (J b0 c0) = true)
  (round : ∀ b z, ok b z → LC P F N c (LThen (LNext3 I J ok μ b) Q) (I b z) (J b z)) : LC P F N (.loop c) Q env mem :=
 LC.loop (fun x : β × γ => I x.1 x.2) (fun x => J x.1 x.2) (fun x => ok x.1 x.2) (fun x => μ x.1) (b0, c0) h0 ⟨he, hm, by rw [hk, hrE, hrM]; rfl⟩ fun x hx => (round x.1 x.2 hx).mono fun e env' mem' h => by
  cases e with
  | normal => obtain ⟨y, z, h1, h2, h3⟩ := h.ex; exact ⟨(y, z), h1, h2, h3⟩
  | _ => exact h
theorem LC.nilcell {c : Code} {cs : List V} (i j r E sz : Nat) (hi : aget mem i = some (.b cs)) (hj : cs[j]? = some .nil) (hr : aget mem r = none) (hne : r ≠ i) (hp : Nat.blt 0 sz = true) (h : LC P F N c Q env ((i, .b (cs.set j (.s (some r) []))) :: (r, .r E sz 0) :: mem)) : LC P F N c Q env mem := ⟨fun F0 hx g a w hrel => by
  have hown0 : w.oRow 0 E sz (.slice (Option.map (fun b => (⟨b, 0, none⟩ : Addr)) none) 0 0) 0 [] := oRow_nil w 0 E sz
  have hgi : (g.addRow r (none, 0, 0)).rw r = some (none, 0, 0) := by simp [Gh.addRow]
  obtain ⟨he, h2, h3⟩ := hrel.mem.nilRow hrel.kept (m := .r E sz 0) hr (.r hgi ⟨Nat.le_of_ble_eq_true hp, ⟨_, hown0⟩, fun _ h => by cases h⟩) fun b o ⟨l, c, hp⟩ => by rw [hgi] at hp; cases hp
  have hi2 : aget ((r, M.r E sz 0) :: mem) i = some (.b cs) := by rw [aget_ne hne]; exact hi
  obtain ⟨b, off, hb, hlt, hB⟩ := h2.box hi2
  have hjl := (List.getElem?_eq_some_iff.1 hj).1
  have hob : ObjAt (g.addRow r (none, 0, 0)) w i (.b (cs.set j (.s (some r) []))) := .b hb hlt ⟨fun u hu => by
    obtain ⟨k, hk⟩ := List.getElem?_of_mem hu
    rw [List.getElem?_set] at hk
    split at hk
    · first
      | (cases hk; rfl)
      | (split at hk
         · cases hk; rfl
         · cases hk)
    · exact hB.one u (List.mem_of_getElem? hk), fun k u hk => by
    rw [List.getElem?_set] at hk
    split at hk
    · rename_i e
      subst e
      (try rw [if_pos hjl] at hk)
      cases hk
      obtain ⟨a1, a2, x, a3, a4⟩ := hB.at_ j .nil hj
      cases a4
      exact ⟨a1, a2, _, a3, .s0 fun r' hr' => by cases hr'; exact ⟨none, 0, 0, hgi, Nat.le_refl _, fun _ => .inl rfl⟩⟩
    · exact hB.at_ k u hk⟩
  obtain ⟨k1, k2⟩ := h2.step h3 (i := i) (Ev.refl _ w) rfl rfl rfl (fun _ _ _ _ => ⟨rfl, rfl, fun hs => hs⟩) (fun _ _ _ => rfl) (fun _ _ => rfl) (fun _ _ => rfl) hob (fun b' o hp' => .inl ⟨_, hi2, by
    obtain ⟨off', q1, q2, q3⟩ := hp'
    exact ⟨off', q1, q2, by simpa using q3⟩⟩) h2.fut
  exact h.go F0 hx _ a w ⟨fun t' v hv => by obtain ⟨x, h1, h4⟩ := hrel.env t' v hv; exact ⟨x, h1, h4.mono he⟩, k1, k2, hrel.defers, hrel.size, hrel.big⟩⟩
theorem Pans.congr {o : Oper} {env env' : Env} {v : V} {t : Tch} (h : Pans P o env v t) (he : ∀ x ∈ o.op.operands.toList, evo env x = evo env' x) : Pans P o env' v t :=
 ⟨h.nd, fun F g a w mem h1 => h.ex F g a w mem fun x hx u hu => h1 x hx u (by rw [← he x hx]; exact hu)⟩
def quiet (t : Tch) : Bool := t.all fun x => x.2.2.isNone
theorem tset_quiet {t : Tch} (h : quiet t = true) (mem : Mem) : tset t mem = mem := by
 induction t with
 | nil => rfl
 | cons x r ih =>
  obtain ⟨i, m, m'⟩ := x
  simp only [quiet, List.all_cons, Bool.and_eq_true] at h
  cases m' with
  | none => exact ih h.2
  | some m' => simp at h
theorem compat_quiet {s t : Tch} (hs : quiet s = true) (ht : quiet t = true) : compat s t = true := by
 unfold compat
 rw [List.all_eq_true]
 intro x hx
 rw [List.all_eq_true]
 intro y hy
 have h1 := List.all_eq_true.1 hs x hx
 have h2 := List.all_eq_true.1 ht y hy
 simp only [h1, h2, Bool.and_self, Bool.or_true]
theorem fin_quiet : ∀ {l : List It} {_env : Env} {mem : Mem}, (∀ x ∈ l, quiet x.tt = true) → finM l mem = mem
 | [], _, _, _ => rfl
 | x :: r, env, mem, h => by
  have h1 := tset_quiet (h x (by simp)) mem
  show finM r (tset x.tt mem) = mem
  rw [h1]
  exact fin_quiet (_env := env) fun y hy => h y (by simp [hy])
theorem finE_keep {t : Nat} : ∀ {l : List It} {env : Env}, (∀ x ∈ l, x.o.dst ≠ some t) → aget (finE l env) t = aget env t
 | [], _, _ => rfl
 | x :: r, env, h => by
  show aget (finE r (appE x env)) t = _
  rw [finE_keep fun y hy => h y (by simp [hy]), aget_appE (h x (by simp))]
structure PlanP (ops : Array Oper) (W : Array Nat) (k : Nat) (ok : Oper) (listed : Array Bool) (its : List It) : Prop where
 cov : ∀ i, i < ops.size → listed.getD i true = false → (∃ x ∈ its, x.i = i) ∨ i = k ∨ waits W i k = true
 un : ∀ x ∈ its, listed.getD x.i true = false
 lt : ∀ x ∈ its, x.i < ops.size
 nodup : its.Pairwise fun x y => x.i ≠ y.i
 ne : ∀ x ∈ its, x.i ≠ k
 ind : its.Pairwise fun x y => waits W y.i x.i = true ∨ Indep ops x y
 indk : ∀ x ∈ its, waits W k x.i = true ∨ x.o.apart ops ok = true
 q : ∀ x ∈ its, quiet x.tt = true
 back : ∀ (i : Nat) (o : Oper), ops[i]? = some o → ∀ e ∈ o.after, Region.binds .any e = true → e.on < i
 kk : listed.getD k true = false
 klt : k < ops.size
 at_ : ops[k]? = some ok
 size : listed.size = ops.size
theorem getD_tf {listed : Array Bool} {i : Nat} (h : i < listed.size) : (listed.getD i true = false ↔ ¬ listed.getD i false = true) := by
 simp only [Array.getD, h, dif_pos]
 cases listed.getInternal i h <;> simp
theorem any_pan {F F0 : Fr0} (hx0 : F.Ext F0) {Q : Exit → Act → World → Prop} {ops : Array Oper} {W : Array Nat} (hW : waitsB .any ops W = true) {k : Nat} {ok : Oper} {v : V} {t : Tch} : ∀ (n : Nat) (its : List It) (env : Env) (mem : Mem) (listed : Array Bool) (g : Gh) (a : Act) (w : World), its.length < n → SR P F N ops its env mem → PlanP ops W k ok listed its → Closed .any ops listed → Rel F0 N g env mem a w →
  gd ops (finE its env) ok = some true → Pans P ok (finE its env) v t → tpre t mem →
  (∀ g a w env' x, Rel F0 N g env' (tset t mem) a w → Rep w g v x → Q (.panic [{ v := x, recovered := false }]) a w) → wpAnyIn F0.fz 0 P .any ops Q n listed a w
 | 0, its, env, mem, listed, g, a, w, hl, _, _, _, _, _, _, _, _ => by omega
 | n + 1, its, env, mem, listed, g, a, w, hl, hs, hp, hc, hr, hgk, hpk, htk, hQ => by
  constructor
  ·-- the least one that is not listed is ready
   intro h0
   have key : ∀ m, ∀ i, i ≤ m → i < ops.size → listed.getD i true = false → False := by
    intro m
    induction m with
    | zero =>
     intro i him hi hun
     have ho := Array.getElem?_eq_getElem hi
     have : i ∈ Region.ready .any ops listed := mem_ready.2 ⟨by simpa using hun, _, ho, fun e he hb => by have := hp.back i _ ho e he hb; omega⟩
     rw [h0] at this; cases this
    | succ m ih =>
     intro i him hi hun
     have ho := Array.getElem?_eq_getElem hi
     have : i ∈ Region.ready .any ops listed := mem_ready.2 ⟨by simpa using hun, _, ho, fun e he hb => by
      have hlt := hp.back i _ ho e he hb
      have hes : e.on < listed.size := by rw [hp.size]; omega
      refine Classical.byContradiction fun hn => ih e.on (by omega) (by omega) ((getD_tf hes).2 hn)⟩
     rw [h0] at this; cases this
   exact (key k k (Nat.le_refl _) hp.klt hp.kk).elim
  ·intro j hj
   obtain ⟨hun, o, ho, hall⟩ := mem_ready.1 hj
   have hjlt := (Array.getElem?_eq_some_iff.1 ho).1
   have hunl : ∀ i, i < ops.size → listed.getD i true = false → ¬ waits W j i = true := fun i hi hu hw => by
    have hxl := waits_listed hW hc hi j j o (Nat.le_refl _) ho hall hw
    have hsz : i < listed.size := by rw [hp.size]; exact hi
    exact (getD_tf hsz).1 hu hxl
   rcases hp.cov j hjlt (by simpa using hun) with ⟨y, hy, hyj⟩ | hjk | hjw
   ·subst hyj
    obtain ⟨pre, post, hits⟩ := List.append_of_mem hy
    subst hits
    have hind : ∀ x ∈ pre, Indep ops x y := fun x hx => by
     rcases (List.pairwise_append.1 hp.ind).2.2 x hx y (by simp) with h1 | h1
     ·exact absurd h1 (hunl x.i (hp.lt x (by simp [hx])) (hp.un x (by simp [hx])))
     ·exact h1
    obtain ⟨k1, k2⟩ := hs.first hind
    obtain ⟨hv, hrest⟩ := k1
    have hov : y.o = o := by have := hv.at_; rw [ho] at this; exact (Option.some.inj this).symm
    subst hov
    have hnd := List.pairwise_append.1 hp.nodup
    have hnd2 := List.pairwise_cons.1 hnd.2.1
    have hne : ∀ z ∈ pre ++ post, z.i ≠ y.i := fun z hz => by
     rcases List.mem_append.1 hz with hz | hz
     ·exact hnd.2.2 z hz y (by simp)
     ·exact (hnd2.1 z hz).symm
    have hsub : ∀ z ∈ pre ++ post, z ∈ pre ++ y :: post := fun z hz => by rcases List.mem_append.1 hz with h | h <;> simp [h]
    have hysz : y.i < listed.size := by rw [hp.size]; exact hjlt
    have hp' : PlanP ops W k ok (listed.setIfInBounds y.i true) (pre ++ post) := by
     have hpi := List.pairwise_append.1 hp.ind
     refine ⟨fun i hi hu => ?_, fun x hx => ?_, fun x hx => hp.lt x (hsub x hx), List.pairwise_append.2 ⟨hnd.1, hnd2.2, fun a ha b hb => hnd.2.2 a ha b (by simp [hb])⟩, fun x hx => hp.ne x (hsub x hx),
      List.pairwise_append.2 ⟨hpi.1, (List.pairwise_cons.1 hpi.2.1).2, fun a ha b hb => hpi.2.2 a ha b (by simp [hb])⟩, fun x hx => hp.indk x (hsub x hx), fun x hx => hp.q x (hsub x hx), hp.back, ?_, hp.klt, hp.at_, by simp [hp.size]⟩
     ·by_cases hiy : y.i = i
      ·subst hiy
       simp [Array.getD, hysz] at hu
      ·rw [getD_set_ne true hiy] at hu
       rcases hp.cov i hi hu with ⟨x, hx, hxi⟩ | h | h
       ·refine .inl ⟨x, ?_, hxi⟩
        rcases List.mem_append.1 hx with h | h
        ·simp [h]
        ·rcases List.mem_cons.1 h with rfl | h
         ·exact absurd hxi hiy
         ·simp [h]
       ·exact .inr (.inl h)
       ·exact .inr (.inr h)
     ·rw [getD_set_ne true (hne x hx).symm]; exact hp.un x (hsub x hx)
     ·rw [getD_set_ne true (hp.ne y (by simp))]; exact hp.kk
    have hq2 : finM (pre ++ post) (appM y mem) = appM y mem := fin_quiet (_env := env) fun x hx => hp.q x (hsub x hx)
    have hym : appM y mem = mem := tset_quiet (hp.q y (by simp)) mem
    have next : ∀ g' a' w', Rel F0 N g' (appE y env) (appM y mem) a' w' → wpAnyIn F0.fz 0 P .any ops Q n (listed.setIfInBounds y.i true) a' w' := fun g' a' w' hr' => by
     rw [hym] at hr' hrest
     have ee : ∀ t', aget (finE (pre ++ y :: post) env) t' = aget (finE (pre ++ post) (appE y env)) t' := fun t' => k2.e t'
     exact any_pan hx0 hW n (pre ++ post) _ _ _ g' a' w' (by simp at hl ⊢; omega) hrest hp' (hc.step hj) hr' (by rw [← hgk]; exact (gd_congr fun _ _ d _ _ => (ee d).symm)) (hpk.congr fun x _ => evo_congr fun t' _ => ee t') htk hQ
    unfold wpOpIn
    rw [ho]
    simp only
    have hwant := gd_wanted hr hv.gdd
    rw [hwant]
    cases hsk : y.skip
    ·simp only [Bool.not_false, if_true]
     refine ((hv.does hsk).1.run hx0 hr (hv.does hsk).2 hv.dst fun g' a' w' hr' => next g' a' w' ?_)
     simpa [appE, appM, It.vv, It.tt, hsk] using hr'
    ·simp only [Bool.not_true, Bool.false_eq_true, if_false]
     refine ⟨fun _ _ => trivial, next g _ w ?_⟩
     have := hr.put (d := y.o.dst) (v := .k undef) (x := undef) (Ev.refl g w) hr.mem hr.kept (.k undef) hv.dst
     simpa [appE, appM, It.vv, It.tt, hsk, tset] using this
   ·subst hjk
    have hok : ok = o := by have := hp.at_; rw [ho] at this; exact (Option.some.inj this).symm
    subst hok
    have hap : ∀ x ∈ its, x.o.apart ops ok = true := fun x hx => by
     rcases hp.indk x hx with h1 | h1
     ·exact absurd h1 (hunl x.i (hp.lt x hx) (hp.un x hx))
     ·exact h1
    have ee : ∀ d, d ∈ ok.looksAt ops → aget (finE its env) d = aget env d := fun d hd => finE_keep fun x hx e => (Oper.apart_spec (hap x hx)).1 d e hd
    have hg' : gd ops env ok = some true := by
     rw [← hgk]
     exact gd_congr fun jj want d hgd hd => (ee d (by simp only [Oper.looksAt, hgd, hd, List.mem_append]; exact .inr (by simp))).symm
    have hp2 : Pans P ok env v t := hpk.congr fun z hz => evo_congr fun t' ht' => ee t' (by
     subst ht'
     simp only [Oper.looksAt, List.mem_append, List.mem_filterMap]
     exact .inl ⟨_, hz, rfl⟩)
    unfold wpOpIn
    rw [ho]
    simp only
    rw [gd_wanted hr hg', if_pos rfl]
    refine op_in (hp2.ex F0 g a w mem (fun _ _ _ hu => hr.evo hu) hr.mem hr.kept htk hr.defers _ _ fun x g' w' he hm hk hx => hQ g' a w' env x ⟨fun t u hu => by obtain ⟨y, h1, h2⟩ := hr.env t u hu; exact ⟨y, h1, h2.mono he⟩, hm, hk, hr.defers, hr.size, hr.big⟩ hx) hp2.nd
   ·exact absurd hjw (hunl k hp.klt hp.kk)
def backOk (ops : Array Oper) : Bool := (List.range ops.size).all fun i => match ops[i]? with | some o => o.after.toList.all fun e => !Region.binds .any e || Nat.blt e.on i | none => true
def panOk (ops : Array Oper) (W : Array Nat) (k : Nat) (plan : List Nat) : Bool :=
 Nat.blt k ops.size && (plan.all (fun i => Nat.blt i ops.size && !Nat.beq i k && (waits W k i || (match ops[i]?, ops[k]? with | some a, some b => a.apart ops b | _, _ => false))) &&
  ((List.range ops.size).all (fun i => plan.contains i || Nat.beq i k || waits W i k) && (apOk ops W plan && backOk ops)))
structure PanAt (P : Program) (F : Fr0) (N : Nat) (ops : Array Oper) (k : Nat) (Q : LQ) (env : Env) (mem : Mem) : Prop where
 ex : ∃ (o : Oper) (v : V) (t : Tch), ops[k]? = some o ∧ gd ops env o = some true ∧ Pans P o env v t ∧ tpre t mem ∧ ∀ env', Q (.pan v) env' (tset t mem)
theorem PanAt.call {ops : Array Oper} {k : Nat} {o : Oper} {fx : Nat} {xs : List Operand} {ts : Array Nat} {us args : List V} {mi mo : Mem} {v : V} (hk : ops[k]? = some o) (hc : LM P fx args mi fun o m => o = .pan v ∧ m = mo) (ho : o.op = .call { callee := .value (.func fx), args := xs.toArray, argTypes := ts }) (hg : gd ops env o = some true) (hx : evs env xs = some us) (hu : Fits us args) (hr : (V.refs.go mi args && (refsM mi mi && keysOk mi mo)) = true) (ht : TPre mi mo mem) (hQ : ∀ env', Q (.pan v) env' (mo ++ mem)) : PanAt P F N ops k Q env mem :=
 ⟨o, v, callT mi mo, hk, hg, Pans.callM hc ho hx hu hr, tpre_callT ht, fun env' => by rw [tset_call]; exact hQ env'⟩
theorem nodup_le : ∀ {n : Nat} {l : List Nat}, l.Nodup → (∀ i ∈ l, i < n) → l.length ≤ n
  | 0, l, _, h => by cases l with | nil => simp | cons a r => have := h a (by simp); omega
  | n + 1, l, hn, h => by
    by_cases hm : n ∈ l
    · have h1 := nodup_le (n := n) (hn.erase n) fun i hi => by
        have h2 := (hn.mem_erase_iff.1 hi)
        have := h i h2.2
        omega
      rw [List.length_erase_of_mem hm] at h1
      omega
    · have := nodup_le (n := n) hn fun i hi => by
        have := h i hi
        have : i ≠ n := fun e => hm (e ▸ hi)
        omega
      omega
theorem LC.drawPan {id : Nat} {l : List Oper} (k : Nat) (plan : List Nat) (hm : P.follows .mixedOrders = true) (hB : (waitsB .any l.toArray (Region.before l.toArray) && panOk l.toArray (Region.before l.toArray) k plan) = true)
  (h : DR P F N l.toArray (fun acc => acc.all fun x => quiet x.2) (fun env mem => PanAt P F N l.toArray k Q env mem) (pickI l plan) [] env mem) : LC P F N (.region id l.toArray true) Q env mem := by
 refine ⟨fun F0 hx g a w hr => ?_⟩
 simp only [panOk, Bool.and_eq_true] at hB
 obtain ⟨hW, hkl, hpl, hcov, hap, hbk⟩ := hB
 have hkl' : k < l.toArray.size := Nat.le_of_ble_eq_true hkl
 have hlt' : ∀ i ∈ plan, i < l.length := fun i hi => by
  have h1 := List.all_eq_true.1 hpl i hi
  simp only [Bool.and_eq_true] at h1
  have := Nat.le_of_ble_eq_true h1.1.1
  simp at this
  omega
 obtain ⟨its, k1, k2, k3, k4⟩ := DR.script h (pickI_mem hlt')
 rw [pickI_fst] at k2
 have hat : ∀ (l' : List It) (env : Env) (mem : Mem), SR P F N l.toArray l' env mem → ∀ x ∈ l', l.toArray[x.i]? = some x.o := by
  intro l'
  induction l' with
  | nil => intro _ _ _ x hx; cases hx
  | cons y r ih =>
   intro env mem hs x hx
   rcases List.mem_cons.1 hx with rfl | hx
   ·exact hs.1.at_
   ·exact ih _ _ hs.2 x hx
 have hato := hat its env mem k1
 have hq : ∀ x ∈ its, quiet x.tt = true := fun x hx => by
  simp only [List.reverse_nil, List.nil_append] at k3
  exact List.all_eq_true.1 k3 (x.i, x.tt) (List.mem_map.2 ⟨x, hx, rfl⟩)
 have hfm : finM its mem = mem := fin_quiet (_env := env) hq
 obtain ⟨o, v, t, hk, hg, hpan, htp, hQ⟩ := k4.ex
 rw [hfm] at htp hQ
 have hmem : ∀ x ∈ its, x.i ∈ plan := fun x hx => by rw [← k2]; exact List.mem_map_of_mem hx
 have hplan : PlanP l.toArray (Region.before l.toArray) k o (Array.replicate l.length false) its := by
  refine ⟨fun i hi _ => ?_, fun x hx => ?_, fun x hx => by have := hlt' x.i (hmem x hx); simpa using this, ?_, fun x hx => ?_, ?_, fun x hx => ?_, hq, fun i o' ho' e he hb => ?_, ?_, hkl', hk, by simp⟩
  ·have h1 := List.all_eq_true.1 hcov i (by simpa using hi)
   simp only [Bool.or_eq_true] at h1
   rcases h1 with (h1 | h1) | h1
   ·have h2 : i ∈ plan := by simpa using h1
    rw [← k2] at h2
    obtain ⟨x, hx, hxi⟩ := List.mem_map.1 h2
    exact .inl ⟨x, hx, hxi⟩
   ·exact .inr (.inl (Nat.eq_of_beq_eq_true h1))
   ·exact .inr (.inr h1)
  ·have := hlt' x.i (hmem x hx)
   simp [Array.getD, this]
  ·have := (apOk_spec hap).imp fun h => h.1
   rw [← k2, List.pairwise_map] at this
   exact this
  ·have h1 := List.all_eq_true.1 hpl x.i (hmem x hx)
   simp only [Bool.and_eq_true, Bool.not_eq_true'] at h1
   intro e
   rw [e, Nat.beq_refl] at h1
   exact Bool.noConfusion h1.1.2
  ·have h1 := apOk_spec hap
   rw [← k2, List.pairwise_map] at h1
   refine h1.imp_of_mem fun {x y} hx hy h => ?_
   rcases h.2 with h3 | ⟨p, q, hp, hq', h3⟩
   ·exact .inl h3
   ·have e1 := hato x hx
    have e2 := hato y hy
    rw [hp] at e1; cases e1
    rw [hq'] at e2; cases e2
    exact .inr ⟨h3, compat_quiet (hq x hx) (hq y hy)⟩
  ·have h1 := List.all_eq_true.1 hpl x.i (hmem x hx)
   simp only [Bool.and_eq_true, Bool.or_eq_true] at h1
   rcases h1.2 with h2 | h2
   ·exact .inl h2
   ·rw [hato x hx, hk] at h2
    exact .inr h2
  ·have hi := (Array.getElem?_eq_some_iff.1 ho').1
   unfold backOk at hbk
   have h1 := List.all_eq_true.1 hbk i (by simpa using hi)
   rw [ho'] at h1
   have h2 := List.all_eq_true.1 h1 e (by simpa using he)
   rw [hb] at h2
   simpa using h2
  ·have : k < l.length := by simpa using hkl'
   simp [Array.getD, this]
 have hclosed : Closed .any l.toArray (Array.replicate l.length false) := by
  intro j o _ hl
  exfalso
  simp [Array.getElem?_replicate] at hl
  split at hl <;> simp_all
 have hr' : Rel F0 N g env mem a { w with drawn := w.drawn + 1 } := by
  have hx : Ext w { w with drawn := w.drawn + 1 } := Below.drew (Below.refl _ w)
  obtain ⟨e1, e2, e3⟩ := hr.mem.ext (g' := g) hr.kept hx (fun _ _ _ => Iff.rfl) rfl rfl hr.mem.fut
  exact ⟨fun t v ht => by obtain ⟨x, h1, h2⟩ := hr.env t v ht; exact ⟨x, h1, h2.mono e1⟩, e2, e3, hr.defers, hr.size, hr.big⟩
 have hlen : its.length < l.toArray.size := by
  have hnd := (apOk_spec hap).imp fun h => h.1
  have hnd2 : (k :: plan).Nodup := by
   refine List.nodup_cons.2 ⟨fun hkp => ?_, hnd⟩
   have h1 := List.all_eq_true.1 hpl k hkp
   simp [Nat.beq_refl] at h1
  have hsub : ∀ i ∈ k :: plan, i < l.toArray.size := fun i hi => by
   rcases List.mem_cons.1 hi with rfl | hi
   ·exact hkl'
   ·have := hlt' i hi; simpa using this
  have h3 := nodup_le hnd2 hsub
  have h4 : its.length = plan.length := by rw [← k2, List.length_map]
  simp only [List.length_cons] at h3
  omega
 refine wpIn_region_any hm ?_
 exact any_pan (P := P) (N := N) (F := F) hx (Q := liftQ F0 N Q) hW l.toArray.size its env mem (Array.replicate l.length false) g a _ hlen k1 hplan hclosed hr' hg hpan htp fun g2 a2 w2 env2 x hr2 hx => ⟨F0, .refl _, env2, _, g2, .pan v, hr2, ⟨x, rfl, hx⟩, hQ env2⟩
structure PanIn (id k : Nat) : Prop where
 t : True
structure PanInD (id k : Nat) (plan : List Nat) : Prop where
 t : True
theorem LC.upToM {id k : Nat} {l : List Oper} (_ : PanIn id k) (h : DR P F N l.toArray (fun _ => true) (fun env mem => LS P F N l.toArray (l.drop k) Q env mem) (enumI 0 (l.take k)) [] env mem) : LC P F N (.region id l.toArray false) Q env mem := LC.upTo k h
theorem LC.drawPanM {id k : Nat} {l : List Oper} {plan : List Nat} (_ : PanInD id k plan) (hm : P.follows .mixedOrders = true) (hB : (waitsB .any l.toArray (Region.before l.toArray) && panOk l.toArray (Region.before l.toArray) k plan) = true)
  (h : DR P F N l.toArray (fun acc => acc.all fun x => quiet x.2) (fun env mem => PanAt P F N l.toArray k Q env mem) (pickI l plan) [] env mem) : LC P F N (.region id l.toArray true) Q env mem := LC.drawPan k plan hm hB h
theorem LC.pan1 {id : Nat} {o : Oper} {x : Operand} (_ho : o.op = .panic x) (h : LS P F N #[o] [o] Q env mem) : LC P F N (.region id #[o] false) Q env mem := LC.region (l := [o]) h
theorem LC.pan3 {id : Nat} {a b o : Oper} {x : Operand} (_ho : o.op = .panic x) (h : DR P F N #[a, b, o] (fun _ => true) (fun env mem => LS P F N #[a, b, o] [o] Q env mem) (enumI 0 [a, b]) [] env mem) : LC P F N (.region id #[a, b, o] false) Q env mem := LC.upTo (l := [a, b, o]) 2 h
theorem LRet.panE {X : TOk P} {rs : List ResultVar} {v v' : V} {mo : Mem} (hm : SubM mem mo) (hr : (v.refs mo && refsM mo mo) = true) (hv : v = v') : LRet X rs (fun o m => o = .pan v' ∧ m = mo) (.pan v) env mem := by
 subst hv; exact LRet.pan mo hm hr ⟨rfl, rfl⟩
end
end Lf
open Go.RowKit Rg
namespace Lf
section
variable {P : Program} {o : Oper} {env : Env}
theorem res1_tmp {tab : Tab} {mem : Mem} {t : Nat} {v : V} (h : aget env t = some v) : res1 tab env mem (.tmp t) = some v := h
theorem app_one2 {x : UInt8} {b : List UInt8} : [bK x] ++ b.map bK = (x :: b).map bK := rfl
def SrcOk (P : Program) (sz Tx : Nat) (y : Operand) (env : Env) (ys : List V) (t : Tch) : Prop :=
 ∀ (F : Fr0) (g : Gh) (a : Act) (w : World) (mem : Mem), (∀ u, evo env y = some u → Rep w g u (a.eval y)) → RelM F g mem w → tpre t mem →
  ∃ news, Src P sz Tx (a.eval y) ys.length news w ∧ (∀ y ∈ ys, ∀ u ∈ y.cells, u.one = true) ∧ (ys.flatMap V.cells).length = news.length ∧ ∀ (j : Nat) u z, (ys.flatMap V.cells)[j]? = some u → news[j]? = some z → Rep w g.bare u z
theorem TIok.ifc {T : Nat} {ti : TI} (h : TIok P T ti) (hd : ti.d = .ifc) : ∃ ms, P.underlying T = some (.interface ms) := by
 obtain ⟨d, hu, hc⟩ := h.und
 rw [hd] at hc
 cases d <;> simp [TD.chk] at hc
 exact ⟨_, hu⟩
theorem run_ifcNil {T Y : Nat} {b : BinOp} {x : Operand} {v : Value} {r rr : Bool} {ms : Array (String × TypeId)} {w : World} (hu : P.underlying T = some (.interface ms)) (hv : (v = .nilIface ∧ r = true) ∨ (∃ S u, v = .iface S u) ∧ r = false) (hb : (b = .eql ∧ rr = r) ∨ (b = .neq ∧ rr = !r)) {a : Act} (ho : o.op = .binOp b T x (.const .nilIface) Y) (hx : a.eval x = v) :
  (execOp a.eval o).run P w = .ok (.value (.bool rr)) w := by
 have hx2 : a.eval (.const .nilIface) = .nilIface := rfl
 have q1 : (eqGuard b T x (.const .nilIface) v .nilIface).run P w = .ok () w := by
  unfold eqGuard
  rcases hb with ⟨rfl, _⟩ | ⟨rfl, _⟩ <;> rcases hv with ⟨rfl, _⟩ | ⟨⟨S, u, rfl⟩, _⟩ <;> first | rfl | (cases x <;> rfl)
 have e : Op.equal T v .nilIface = Op.equalIn (9999 + 1) T v .nilIface := rfl
 have q3 : (Op.equalIn (9999 + 1) T v .nilIface).run P w = .ok r w := by
  rw [Op.equalIn, Sem.run_bind, run_underlying hu w]
  rcases hv with ⟨rfl, rfl⟩ | ⟨⟨S, u, rfl⟩, rfl⟩ <;> rfl
 have q2 : (binOp b T v .nilIface).run P w = .ok (.bool rr) w := by
  rcases hb with ⟨rfl, rfl⟩ | ⟨rfl, rfl⟩
  ·simp only [binOp, e, Sem.run_bind, q3, Result.andThen_ok]; rfl
  ·simp only [binOp, e, Sem.run_bind, q3, Result.andThen_ok]; rfl
 simp only [execOp, ho, hx, hx2, Sem.run_bind, q1, Result.andThen_ok, q2]
 rfl
theorem Does.neNil0 {T Y : Nat} {x : Operand} (X : TOk P) {ti : TI} (ho : o.op = .binOp .neq T x (.const .nilIface) Y) (hx : evo env x = some (.k .nilIface)) (hT : aget X.tab T = some ti) (hd : ti.d = .ifc) : Does P o env (.k (.bool false)) [] :=
 .pure fun F g a w mem hr _ => by
  have h1 := rep_k (hr x (by simp [ho, Op.operands]) _ hx)
  obtain ⟨ms, hu⟩ := (X.get hT).ifc hd
  exact ⟨_, run_ifcNil hu (.inl ⟨h1, rfl⟩) (.inr ⟨rfl, rfl⟩) ho rfl, .k _⟩
theorem Does.neNilI {T Y S : Nat} {u : V} {x : Operand} (X : TOk P) {ti : TI} (ho : o.op = .binOp .neq T x (.const .nilIface) Y) (hx : evo env x = some (.i S u)) (hT : aget X.tab T = some ti) (hd : ti.d = .ifc) : Does P o env (.k (.bool true)) [] :=
 .pure fun F g a w mem hr _ => by
  have h1 := hr x (by simp [ho, Op.operands]) _ hx
  obtain ⟨ms, hu⟩ := (X.get hT).ifc hd
  obtain ⟨y, hy⟩ : ∃ y, a.eval x = .iface S y := by generalize a.eval x = z at h1; cases h1; exact ⟨_, rfl⟩
  exact ⟨_, run_ifcNil hu (.inr ⟨⟨S, y, hy⟩, rfl⟩) (.inr ⟨rfl, rfl⟩) ho rfl, .k _⟩
theorem Does.eqNil0 {T Y : Nat} {x : Operand} (X : TOk P) {ti : TI} (ho : o.op = .binOp .eql T x (.const .nilIface) Y) (hx : evo env x = some (.k .nilIface)) (hT : aget X.tab T = some ti) (hd : ti.d = .ifc) : Does P o env (.k (.bool true)) [] :=
 .pure fun F g a w mem hr _ => by
  have h1 := rep_k (hr x (by simp [ho, Op.operands]) _ hx)
  obtain ⟨ms, hu⟩ := (X.get hT).ifc hd
  exact ⟨_, run_ifcNil hu (.inl ⟨h1, rfl⟩) (.inl ⟨rfl, rfl⟩) ho rfl, .k _⟩
theorem Does.eqNilI {T Y S : Nat} {u : V} {x : Operand} (X : TOk P) {ti : TI} (ho : o.op = .binOp .eql T x (.const .nilIface) Y) (hx : evo env x = some (.i S u)) (hT : aget X.tab T = some ti) (hd : ti.d = .ifc) : Does P o env (.k (.bool false)) [] :=
 .pure fun F g a w mem hr _ => by
  have h1 := hr x (by simp [ho, Op.operands]) _ hx
  obtain ⟨ms, hu⟩ := (X.get hT).ifc hd
  obtain ⟨y, hy⟩ : ∃ y, a.eval x = .iface S y := by generalize a.eval x = z at h1; cases h1; exact ⟨_, rfl⟩
  exact ⟨_, run_ifcNil hu (.inr ⟨⟨S, y, hy⟩, rfl⟩) (.inl ⟨rfl, rfl⟩) ho rfl, .k _⟩
def TD.isIfc : TD → Bool
 | .ifc => true
 | _ => false
theorem Does.asrtOk {xT T : Nat} {u : V} {x : Operand} (X : TOk P) {ti : TI} (ho : o.op = .typeAssert x xT T true) (hx : evo env x = some (.i T u)) (hT : aget X.tab T = some ti) (hd : ti.d.isIfc = false) : Does P o env (.t [u, .k (.bool true)]) [] :=
  .pure fun F g a w mem hr _ => by
    have h1 := hr x (by simp [ho, Op.operands]) _ hx
    obtain ⟨d, hu, hc⟩ := (X.get hT).und
    generalize hy : a.eval x = y at h1
    cases h1 with
    | @i _ _ _ z h =>
      refine ⟨.tuple #[z, .bool true], ?_, .t rfl fun j v q hj hq => ?_⟩
      · have hni : ∀ ms, d ≠ .interface ms := fun ms e => by
          subst e
          cases hd' : ti.d <;> rw [hd'] at hc hd <;> simp [TD.chk, TD.isIfc] at hc hd
        have : (Instr.typeAssert (.iface T z) xT T true).run P w = .ok (.tuple #[z, .bool true]) w := by
          unfold Instr.typeAssert
          rw [Sem.run_bind, run_underlying hu w]
          cases d <;> first | (exact absurd rfl (hni _)) | simp
        simp [execOp, ho, hy, this]
      · match j with
        | 0 => simp at hj hq; subst hj; subst hq; exact h
        | 1 => simp at hj hq; subst hj; subst hq; exact .k _
        | j + 2 => simp at hj
theorem Does.cutSbE {T e l h i off n cap : Nat} {x : Operand} {lo hi : Option Operand} (X : TOk P) {ti ei : TI} (ho : o.op = .slice T x lo hi none) (hx : evo env x = some (.sb i off n cap)) (hT : aget X.tab T = some ti) (hd : ti.d = .sl e) (hE : aget X.tab e = some ei) (hlo : Bd env 0 lo l) (hhi : Bd env n hi h)
  (h1 : l = h) (h2 : l = cap) : Does P o env (.s none []) [] :=
 .pure fun F g a w mem hr _ => by
  subst h1; subst h2
  have hr0 := hr x (by simp [ho, Op.operands]) _ hx
  have b1 := hlo.val (a := a) (fun y hy u hu => hr y (by subst hy; simp [ho, Op.operands]) u hu)
  have b2 := hhi.val (a := a) (fun y hy u hu => hr y (by subst hy; simp [ho, Op.operands]) u hu)
  generalize hy : a.eval x = y at hr0
  cases hr0 with
  | @sb _ _ _ _ _ b bo hp =>
   have := run_cutG (P := P) (a := some ⟨b, bo + off, none⟩) ((X.get hT).sl hd) (X.get hE).run_size b1 b2 (Nat.le_refl _) (Nat.le_refl _) w
   refine ⟨.slice (some ⟨b, bo + off, none⟩) 0 0, ?_, .se _ fun _ h => by cases h⟩
   simp [execOp, ho, hy, this]
theorem tset_head {i : Nat} {m : Option M} {m' : M} {t : Tch} {mem : Mem} (hq : quiet t = true) : tset ((i, m, some m') :: t) mem = (i, m') :: mem := by
 show (i, m') :: tset t mem = _
 rw [tset_quiet hq]
theorem Does.appG {T Tx E i sz : Nat} {x y : Operand} {es ys : List V} {t : Tch} (X : TOk P) {ti ei : TI} (ho : o.op = .call { callee := .builtin .append, args := #[x, y], argTypes := #[T, Tx] }) (hx : evo env x = some (.s (some i) es)) (hS : SrcOk P sz Tx y env ys t) (hq : quiet t = true)
  (hT : aget X.tab T = some ti) (hd : ti.d = .sl E) (hE : aget X.tab E = some ei) (hsz : ei.size = sz)
  (hes : ∀ e ∈ es, e.cells.length = sz) (hys : ∀ e ∈ ys, e.cells.length = sz) {n : Nat} (hn : es.length + ys.length = n) (hmax : n ≤ 140737488355328) (hb : n * ei.bytes ≤ 140737488355328) :
  Does P o env (.s (some i) (es ++ ys)) ((i, some (.r E sz es.length), some (.r E sz n)) :: t) := by
 refine ⟨fun F g a w mem h1 h2 h3 h4 _ K Q hK => ?_⟩
 subst hn
 have hi := h4 _ _ _ (List.mem_cons_self ..)
 have hrx := h1 x (by simp [ho, Op.operands, Call.operands]) _ hx
 obtain ⟨news, hsrc, hone2, hfl, hrep2⟩ := hS F g a w mem (fun u hu => h1 y (by simp [ho, Op.operands, Call.operands]) _ hu) h2 (fun j m m' hj => h4 j m m' (List.mem_cons_of_mem _ hj))
 subst hsz
 rcases rep_tip h2 hrx hi hes with ⟨ao, c, zs, e1, e2, hown, hp, hone, hrep⟩ | ⟨rfl, e1, hp, ad, e2⟩
 case inr =>
  simp only [List.length_nil, Nat.zero_add, List.nil_append] at hmax hb hi hK ⊢
  obtain ⟨v', w', hrun, hres⟩ := run_app0 (P := P) (ty := o.type) (ad := ad) ((X.get hT).sl hd) (X.get hE) hp hsrc hmax hb
  have hrun' : (execOp a.eval o).run P w = .ok (.value v') w' := by
   simp [execOp, ho, resolve, invoke, builtin, e2, hrun]
  unfold Oper.wp
  rw [hrun']
  rcases hres with ⟨hm0, rfl, rfl⟩ | ⟨hm0, hown', hg, hv⟩
  ·have : ys = [] := List.eq_nil_of_length_eq_zero hm0
   subst this
   refine hK _ g _ (Ev.refl g _) (h2.congr fun j => ?_) h3 ?_
   ·rw [tset_head hq]; simp only [aget_cons]
    split
    ·rename_i e; subst e; exact hi
    ·rfl
   ·rw [← e2]; exact hrx
  ·have hg0 : Value.ownBlock (.slice (Option.map (fun b => (⟨b, 0, none⟩ : Addr)) none) 0 0) = none := rfl
   obtain ⟨g', a', c', rfl, k1, k2, k3, k4, k5⟩ := h2.grow (n := 0) (m := ys.length) (a := none) (c := 0) (xs := []) h3 hi e1 (oRow_nil w 0 E ei.size) hown' (by rw [hg0]; exact hg) (.inr ⟨hm0, hv⟩)
   rw [Nat.zero_add] at k1 k3 k5
   refine hK _ g' w' k2 (by rw [tset_head hq]; simpa using k3) k4 ?_
   rw [Nat.zero_add] at hown' ⊢
   exact Rep.row rfl hp k1 hown' k5 (fun e he => ⟨hys e he, hone2 e he⟩) (fun j u z hj hz => (hrep2 j u z hj (by simpa using hz)).mono k2.bare)
 obtain ⟨v', w', hrun, hown', hg, hv⟩ := run_app (P := P) (ty := o.type) ((X.get hT).sl hd) (X.get hE) hp hown hsrc hmax hb
 obtain ⟨g', a', c', rfl, k1, k2, k3, k4, k5⟩ := h2.grow h3 hi e1 hown hown' hg hv
 unfold Oper.wp
 have hrun' : (execOp a.eval o).run P w = .ok (.value (.slice (Option.map (fun b => ⟨b, 0, none⟩) a') (es.length + ys.length) c')) w' := by
  rw [← e2] at hrun
  simp [execOp, ho, resolve, invoke, builtin, hrun]
 rw [hrun']
 refine hK _ g' w' k2 (by rw [tset_head hq]; exact k3) k4 (Rep.row (by simp) hp k1 hown' k5 (fun e he => ?_) (fun j u z hj hz => ?_))
 ·rcases List.mem_append.1 he with he | he
  ·exact ⟨hes e he, hone e he⟩
  ·exact ⟨hys e he, hone2 e he⟩
 ·have hfe : (es.flatMap V.cells).length = zs.length := by rw [flat_len hes, hown.1]
  rw [List.flatMap_append] at hj
  rcases Nat.lt_or_ge j zs.length with hlt | hge
  ·rw [List.getElem?_append_left (by omega)] at hj
   rw [List.getElem?_append_left hlt] at hz
   exact (hrep j u z hj hz).mono k2.bare
  ·rw [List.getElem?_append_right (by omega)] at hj
   rw [List.getElem?_append_right hge, ← hfe] at hz
   exact (hrep2 _ u z hj hz).mono k2.bare
theorem SrcOk.box {sz Tx e j off n cap : Nat} {y : Operand} {cs ys : List V} (X : TOk P) {xi : TI} (hy : evo env y = some (.sb j off n cap)) (hX : aget X.tab Tx = some xi) (hdx : xi.d = .sl e) (hsz : sz = 1) (hcs : (cs.drop off).take n = ys) (hl : off + n ≤ cs.length) (hc : ∀ u ∈ ys, u.cells = [u]) (hr : ∀ u ∈ ys, u.bare = some u) : SrcOk P sz Tx y env ys [(j, some (.b cs), none)] := by
 intro F g a w mem h1 h2 h4
 subst hsz
 have hm := h4 _ _ _ mem_one
 have hrep := h1 _ hy
 obtain ⟨b, o, hb, _, hB⟩ := h2.box hm
 have hfl : ys.flatMap V.cells = ys := by
  clear hcs hr
  induction ys with
  | nil => rfl
  | cons u r ih => rw [List.flatMap_cons, hc u (by simp), ih fun v hv => hc v (by simp [hv])]; rfl
 have hlen : ys.length = n := by rw [← hcs, List.length_take, List.length_drop]; omega
 have hget : ∀ k, k < n → ∃ u x, ys[k]? = some u ∧ u.one = true ∧ w.cell? ⟨b, o + (off + k), none⟩ = some x ∧ Rep w g.bare u x := fun k hk => by
  have hlt : off + k < cs.length := by omega
  obtain ⟨_, _, x, h5, h6⟩ := hB.at_ (off + k) cs[off + k] (List.getElem?_eq_getElem hlt)
  have hu : ys[k]? = some cs[off + k] := by rw [← hcs, List.getElem?_take, if_pos hk, List.getElem?_drop, List.getElem?_eq_getElem hlt]
  have hbare : cs[off + k].bare = some cs[off + k] := hr _ (List.mem_of_getElem? hu)
  exact ⟨_, x, hu, hB.one _ (List.getElem_mem hlt), h5, h6.to_bare hbare⟩
 generalize hv : a.eval y = v at hrep
 cases hrep with
 | @sb _ _ _ _ _ b' o' hb' =>
  rw [hb] at hb'; cases hb'
  let f : Nat → Value := fun k => (w.cell? ⟨b, o + (off + k), none⟩).getD undef
  have hf : ∀ k, k < n → ((List.range n).map f)[k]? = some (f k) := fun k hk => by rw [List.getElem?_map, List.getElem?_range hk]; rfl
  rw [hlen]
  refine ⟨(List.range n).map f, Src.ofSlice w ((X.get hX).sl hdx) _ n cap _ (by simp) (fun k u hk => ?_) (fun u hu => ?_), fun u hu v hv => ?_, by rw [hfl]; simp [hlen], fun k u z hk hz => ?_⟩
  ·have hkn : k < n := by have := (List.getElem?_eq_some_iff.1 hk).1; simpa using this
   rw [hf k hkn] at hk; cases hk
   obtain ⟨u, x, _, _, h5, _⟩ := hget k hkn
   rw [Addr.add_lit, Nat.add_assoc, h5]
   simp only [f, h5]; rfl
  ·obtain ⟨k, hk, rfl⟩ := List.mem_map.1 hu
   obtain ⟨u, x, _, h7, h5, h6⟩ := hget k (List.mem_range.1 hk)
   simp only [f, h5]
   exact h6.oneCell h7
  ·obtain ⟨k, hk⟩ := List.getElem?_of_mem hu
   have hkn : k < n := by have := (List.getElem?_eq_some_iff.1 hk).1; omega
   obtain ⟨u', x, h8, h7, _, _⟩ := hget k hkn
   rw [hk] at h8; cases h8
   rw [hc u hu] at hv
   simp at hv; subst hv; exact h7
  ·rw [hfl] at hk
   have hkn : k < n := by have := (List.getElem?_eq_some_iff.1 hk).1; omega
   rw [hf k hkn] at hz; cases hz
   obtain ⟨u', x, h8, _, h5, h6⟩ := hget k hkn
   rw [hk] at h8; cases h8
   simp only [f, h5]
   exact h6
end
section
variable {P : Program} {F : Fr0} {N : Nat} {ops : Array Oper} {chk : List (Nat × Tch) → Bool} {K : Env → Mem → Prop} {acc : List (Nat × Tch)} {env : Env} {mem : Mem} {i d j : Nat} {o : Oper} {rs : List (Nat × Oper)}
theorem cells1_map {α : Type} {f : α → V} (hf : ∀ a, (f a).cells = [f a]) (l : List α) : ∀ u ∈ l.map f, u.cells = [u] := fun u hu => by obtain ⟨a, _, rfl⟩ := List.mem_map.1 hu; exact hf a
theorem DR.ab {α : Type} {f : α → V} {T Tx E e sz off m cap jb : Nat} {x y : Operand} {es zs cs : List V} {l : List α} (X : TOk P) {ti xi ei : TI} (ho : o.op = .call { callee := .builtin .append, args := #[x, y], argTypes := #[T, Tx] }) (hg : gd ops env o = some true) (hds : o.dst = some d) (hx : evo env x = some (.s (some j) es)) (hy : evo env y = some (.sb jb off m cap))
  {n0 : Nat} (hm : aget mem j = some (.r E sz n0)) (hb2 : aget mem jb = some (.b cs)) (hn0 : es.length = n0) (hT : aget X.tab T = some ti) (hdt : ti.d = .sl E) (hE : aget X.tab E = some ei) (hsz : ei.size = sz) (hs1 : Nat.beq sz 1 = true) (hX : aget X.tab Tx = some xi) (hdx : xi.d = .sl e) (hcs : (cs.drop off).take m = l.map f) (hf : ∀ a, (f a).cells = [f a]) (hl : l.length = m) (hr : ∀ a, (f a).bare = some (f a))
  (hes : ∀ e ∈ es, e.cells.length = sz) (hz : es ++ l.map f = zs) {n : Nat} (hn : zs.length = n) (hmax : n ≤ 140737488355328) (hb : n * ei.bytes ≤ 140737488355328) (hd : Nat.blt d N = true)
  (hK : DR P F N ops chk K rs ((i, [(j, some (.r E sz es.length), some (.r E sz n)), (jb, some (.b cs), none)]) :: acc) ((d, .s (some j) zs) :: env) ((j, .r E sz n) :: mem)) : DR P F N ops chk K ((i, o) :: rs) acc env mem := by
 subst hz
 have e1 := Nat.eq_of_beq_eq_true hs1
 have hlen : (l.map f).length = m := by rw [List.length_map]; exact hl
 have hle : off + m ≤ cs.length ∨ m = 0 := by
  have h1 := congrArg List.length hcs
  rw [List.length_take, List.length_drop, hlen] at h1
  omega
 have hS : SrcOk P sz Tx y env (l.map f) [(jb, some (.b cs), none)] := by
  rcases hle with h | h
  ·exact SrcOk.box X hy hX hdx e1 hcs h (cells1_map hf l) fun u hu => by obtain ⟨a, _, rfl⟩ := List.mem_map.1 hu; exact hr a
  ·subst h
   have hl0 : l = [] := List.eq_nil_of_length_eq_zero hl
   subst hl0
   intro F g a w mem h1 h2 h4
   have hrep := h1 _ hy
   generalize hv : a.eval y = v at hrep
   cases hrep with
   | sb h => exact ⟨[], Src.ofSlice w ((X.get hX).sl hdx) _ 0 cap [] (by simp) (by simp) (by simp), by simp, by simp, by simp⟩
 refine DR.step hg (Does.appG X ho hx hS rfl hT hdt hE hsz hes (fun e he => ?_) (by rw [← List.length_append]; exact hn) hmax hb) (tpre_two (by rw [hn0]; exact hm) hb2) (by rw [hds]; exact hd) (by rw [hds]; exact hK)
 obtain ⟨a, _, rfl⟩ := List.mem_map.1 he
 rw [hf, e1]; rfl
end
end Lf
end Go.Proofs.YtpaafpmofhajfaaGreatDoor
