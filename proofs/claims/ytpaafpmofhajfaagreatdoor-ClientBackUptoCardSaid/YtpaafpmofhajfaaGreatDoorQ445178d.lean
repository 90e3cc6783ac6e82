/- A part of the proof: texts joined. -/
import Derived.Lib.OthersKept
import Derived.Lib.ConvBytes
import Derived.MapKept
import Derived.Laws.MakeOwn
import Derived.Test.YtpaafpmofhajfaaGreatDoorQ37806e7
set_option linter.unusedVariables false
set_option linter.unusedSimpArgs false
namespace Go.Proofs.YtpaafpmofhajfaaGreatDoor
open Go.RowKit Rg
namespace Lf
section
variable {P : Program} {o : Oper} {env : Env}
theorem RelM.newO {F : Fr0} {g : Gh} {w : World} {mem : Mem} (h : RelM F g mem w) (hk : Kept F g w) {i : Nat} {ob : Obj} (hi : aget mem i = none) :
  ∃ g', g'.bx i = some (w.heap.size, 0) ∧ Ev g w g' (w.alloc ob) ∧ RelM F g' ((i, .o ob) :: mem) (w.alloc ob) ∧ Kept F g' (w.alloc ob) := by
 have hb : (g.newB i w.heap.size 0).bx i = some (w.heap.size, 0) := by simp [Gh.newB]
 obtain ⟨e1, e2, e3⟩ := h.newB hk (i := i) (n := 0) (m' := .o ob) (o := ob) hi (.o hb (heap_alloc_new w ob) fun o' hS => by have := hS.2 rfl; omega) fun b o' ⟨off, hp⟩ => by rw [hb] at hp; cases hp; rfl
 exact ⟨_, hb, e1, e2, e3⟩
theorem Does.rangeS {T i : Nat} {x : Operand} {s : ByteArray} (X : TOk P) {ti : TI} (ho : o.op = .range T x) (hx : evo env x = some (.k (.string s))) (hT : aget X.tab T = some ti) (hd : ti.d = .str) : Does P o env (.p i 0) [(i, none, some (.o (.stringIter s 0)))] := by
 refine ⟨fun F g a w mem h1 h2 h3 h4 _ K Q hK => ?_⟩
 have hv := rep_k (h1 x (by simp [ho, Op.operands]) _ hx)
 obtain ⟨g', k1, k2, k3, k4⟩ := h2.newO h3 (ob := .stringIter s 0) (h4 _ _ _ mem_one)
 unfold Oper.wp
 have hrun : (execOp a.eval o).run P w = .ok (.value (.pointer (some ⟨w.heap.size, 0, none⟩))) (w.alloc (.stringIter s 0)) := by
  simp [execOp, ho, hv, Instr.range, run_underlying ((X.get hT).str hd), newObj, Sem.run, Result.andThen]
 rw [hrun]
 exact hK _ g' _ k2 k3 k4 (.p k1)
theorem Does.nextS {i pos c wd : Nat} {x : Operand} {s : ByteArray} {b : Bool} (ho : o.op = .next x b) (hb : b = true) (hx : evo env x = some (.p i 0)) (hp : pos < s.size) (hc : ((Utf8.decode s pos).1 : Int) = (c : Int)) (hw : (Utf8.decode s pos).2 = wd) : Does P o env (.t [.k (.bool true), .k (.int .i64 (pos : Int)), .k (.int .i32 (c : Int))]) [(i, some (.o (.stringIter s pos)), some (.o (.stringIter s (pos + wd))))] := by
 subst hb
 refine ⟨fun F g a w mem h1 h2 h3 h4 _ K Q hK => ?_⟩
 have hi := h4 _ _ _ mem_one
 have hr := h1 x (by simp [ho, Op.operands]) _ hx
 obtain ⟨b, hbx, hheap, hS⟩ : ∃ b, g.bx i = some (b, 0) ∧ w.heap[b]? = some (.stringIter s pos) ∧ ∀ o, ¬ g.S b o := by
  cases h2.ob i _ hi with
  | o hg h hS => exact ⟨_, hg, h, hS⟩
 have hv : a.eval x = .pointer (some ⟨b, 0, none⟩) := by
  generalize a.eval x = y at hr
  cases hr with
  | p h => rw [hbx] at h; cases h; rfl
 obtain ⟨k1, k2, k3⟩ := h2.setO h3 (w' := w.iterAt b s (pos + wd)) (m' := .o (.stringIter s (pos + wd))) (ob := .stringIter s (pos + wd)) hi (fun _ _ => Iff.rfl) hbx hS rfl rfl rfl rfl (fun _ => .o hbx (Lib.iterAt_heap w b s pos _ hheap) hS) (fun _ _ hp' => hp')
 unfold Oper.wp
 have hrun : (execOp a.eval o).run P w = .ok (.value (.tuple #[.bool true, .int .i64 (pos : Int), .int .i32 (c : Int)])) (w.iterAt b s (pos + wd)) := by
  have := Lib.run_next_any_at (P := P) w b s pos o.type hheap hp
  rw [hc, hw] at this
  simp [execOp, ho, hv, this]
 rw [hrun]
 refine hK _ g _ k1 k2 k3 (.t rfl fun j u z hj hz => ?_)
 match j with
 | 0 => simp at hj hz; subst hj; subst hz; exact .k _
 | 1 => simp at hj hz; subst hj; subst hz; exact .k _
 | 2 => simp at hj hz; subst hj; subst hz; exact .k _
 | j + 3 => simp at hj
theorem Does.nextE {i pos : Nat} {x : Operand} {s : ByteArray} {b : Bool} (ho : o.op = .next x b) (hb : b = true) (hx : evo env x = some (.p i 0)) (hp : s.size ≤ pos) : Does P o env (.t [.k (.bool false)]) [(i, some (.o (.stringIter s pos)), none)] := by
 subst hb
 refine .read fun F g a w mem h1 h2 hi => ?_
 have hr := h1 x (by simp [ho, Op.operands]) _ hx
 obtain ⟨b, hbx, hheap, hS⟩ : ∃ b, g.bx i = some (b, 0) ∧ w.heap[b]? = some (.stringIter s pos) ∧ ∀ o, ¬ g.S b o := by
  cases h2.ob i _ hi with
  | o hg h hS => exact ⟨_, hg, h, hS⟩
 have hv : a.eval x = .pointer (some ⟨b, 0, none⟩) := by
  generalize a.eval x = y at hr
  cases hr with
  | p h => rw [hbx] at h; cases h; rfl
 refine ⟨.tuple #[.bool false], ?_, .t rfl fun j u z hj hz => ?_⟩
 ·have := Lib.run_next_end_at (P := P) w b s pos o.type hheap (by omega)
  simp [execOp, ho, hv, this]
 ·match j with
  | 0 => simp at hj hz; subst hj; subst hz; exact .k _
  | j + 1 => simp at hj
abbrev sK (l : List UInt8) : V := .k (.string ⟨l.toArray⟩)
theorem Does.lenSl {x : Operand} {T : Nat} {ts : Array Nat} {l : List UInt8} (X : TOk P) {ti : TI} (ho : o.op = .call { callee := .builtin .len, args := #[x], argTypes := ts }) (hts : ts[0]? = some T) (hx : evo env x = some (sK l)) (hT : aget X.tab T = some ti) (hd : ti.d = .str) : Does P o env (.k (.int .i64 (l.length : Int))) [] := by
 have := Does.lenS X ho hts hx hT hd
 have e : (⟨l.toArray⟩ : ByteArray).size = l.length := by simp [ByteArray.size]
 rwa [e] at this
theorem Does.indexSl {T k : Nat} {x ix : Operand} {kd : IntKind} {z : Int} {l : List UInt8} (X : TOk P) {ti : TI} (ho : o.op = .index T x ix) (hx : evo env x = some (sK l)) (hi : evo env ix = some (.k (.int kd z))) (hz : z = ((k : Nat) : Int)) (hT : aget X.tab T = some ti) (hd : ti.d = .str) (hk : k < l.length) : Does P o env (bK (l.getD k default)) [] := by
 have e : (⟨l.toArray⟩ : ByteArray).size = l.length := by simp [ByteArray.size]
 have := Does.indexS X ho hx hi hz hT hd (show k < (⟨l.toArray⟩ : ByteArray).size by rw [e]; exact hk)
 have e2 : (⟨l.toArray⟩ : ByteArray)[k]'(by rw [e]; exact hk) = l.getD k default := by
  rw [List.getD_eq_getElem?_getD, List.getElem?_eq_getElem hk]; rfl
 rw [e2] at this
 exact this
theorem Does.cutSl {T lo0 h : Nat} {x : Operand} {lo hi : Option Operand} {l : List UInt8} (X : TOk P) {ti : TI} (ho : o.op = .slice T x lo hi none) (hx : evo env x = some (sK l)) (hT : aget X.tab T = some ti) (hd : ti.d = .str) (hlo : Bd env 0 lo lo0) (hhi : Bd env l.length hi h)
  (h1 : lo0 ≤ h) (h2 : h ≤ l.length) : Does P o env (sK ((l.drop lo0).take (h - lo0))) [] := by
 have e : (⟨l.toArray⟩ : ByteArray).size = l.length := by simp [ByteArray.size]
 have := Does.cutS X ho hx hT hd hlo (by rw [e]; exact hhi) h1 (by rw [e]; exact h2)
 have e2 : (⟨l.toArray⟩ : ByteArray).extract lo0 h = ⟨((l.drop lo0).take (h - lo0)).toArray⟩ := by
  ext1
  simp [ByteArray.data_extract, List.extract_eq_take_drop]
 rw [e2] at this
 exact this
theorem Does.catl {T Y : Nat} {x y : Operand} {l m : List UInt8} (ho : o.op = .binOp .add T x y Y) (hx : evo env x = some (sK l)) (hy : evo env y = some (sK m)) (hr : l.length + m.length ≤ 9223372036854775807) : Does P o env (sK (l ++ m)) [] := by
 have e : ∀ l : List UInt8, (⟨l.toArray⟩ : ByteArray).size = l.length := fun l => by simp [ByteArray.size]
 have := Does.cat (P := P) ho hx hy (by rw [e, e]; exact hr)
 have e2 : (⟨l.toArray⟩ : ByteArray) ++ ⟨m.toArray⟩ = ⟨(l ++ m).toArray⟩ := by
  ext1
  simp
 rw [e2] at this
 exact this
end
theorem app_two {α : Type} {f : α → V} {a : List α} {x y : α} : a.map f ++ [f x, f y] = (a ++ [x, y]).map f := by rw [List.map_append]; rfl
theorem shr_u8r {a s : Nat} (h : OfNat.ofNat s ≤ 8) : ((a : Nat) : Int).fdiv (2 ^ (min (OfNat.ofNat s : Int).toNat IntKind.u8.bits)) = ((a / 2 ^ OfNat.ofNat s : Nat) : Int) := shr_nat (k := .u8) (s := s) h
theorem shl_u8r {a s : Nat} (h : OfNat.ofNat s ≤ 8) : IntKind.u8.wrap (((a : Nat) : Int) * 2 ^ (min (OfNat.ofNat s : Int).toNat IntKind.u8.bits)) = ((UInt8.ofNat (a * 2 ^ OfNat.ofNat s)).toNat : Int) := by
 have := shl_nat (k := .u8) (a := a) (s := s) rfl h
 rw [UInt8.toNat_ofNat']
 exact this
theorem band {a b : UInt8} : IntKind.u8.wrap (((BitVec.ofInt IntKind.u8.bits (a.toNat : Int) &&& BitVec.ofInt IntKind.u8.bits (b.toNat : Int)).toNat : Nat) : Int) = ((a &&& b).toNat : Int) := by
 have := and_nat (k := .u8) rfl (a := a.toNat) (b := b.toNat) a.toNat_lt b.toNat_lt
 rw [UInt8.toNat_and]; exact this
theorem bandn {a : UInt8} {n : Nat} : IntKind.u8.wrap (((BitVec.ofInt IntKind.u8.bits (a.toNat : Int) &&& BitVec.ofInt IntKind.u8.bits (OfNat.ofNat n)).toNat : Nat) : Int) = ((a &&& UInt8.ofNat n).toNat : Int) := by
 have h : BitVec.ofInt IntKind.u8.bits (OfNat.ofNat n) = BitVec.ofInt IntKind.u8.bits ((UInt8.ofNat n).toNat : Int) := by
  apply BitVec.eq_of_toNat_eq
  rw [ofInt_nat]
  show (BitVec.ofInt IntKind.u8.bits ((n : Nat) : Int)).toNat = _
  rw [ofInt_nat, UInt8.toNat_ofNat']
  exact (Nat.mod_mod _ _).symm
 rw [h]; exact band
end Lf
open Go.RowKit Rg
namespace Lf
section
variable {P : Program} {o : Oper} {env : Env}
theorem TIok.noIfc {T : Nat} {ti : TI} (h : TIok P T ti) (hd : ti.d.agg = true) : ∃ d, P.underlying T = some d ∧ ∀ ms, d ≠ .interface ms := by
 obtain ⟨d, hu, hc⟩ := h.und
 refine ⟨d, hu, fun ms e => ?_⟩
 subst e
 cases hd' : ti.d <;> rw [hd'] at hc hd <;> simp [TD.chk, TD.agg] at hc hd
theorem TIok.zeroRep {T : Nat} {ti : TI} (h : TIok P T ti) (hd : ti.d.agg = true) (g : Gh) (w : World) : ∃ z, (zeroValue T).run P w = .ok z w ∧ Rep w g (.a (ti.zero.map Z.v)) z := by
 obtain ⟨i, hi, _, _, z, hz, e1, _, e3, e4, _⟩ := h.info
 obtain ⟨cs, rfl⟩ := e4 hd
 refine ⟨.agg cs, by simp [zeroValue, typeInfo, hi, hz], .a (by rw [List.length_map]; exact e1) (fun u hu => ?_) fun j u x hj hx => ?_⟩
 ·obtain ⟨zz, _, rfl⟩ := List.mem_map.1 hu; exact zz.one
 ·rw [List.getElem?_map] at hj
  obtain ⟨zz, hzz, rfl⟩ := Option.map_eq_some_iff.1 hj
  obtain ⟨x', h1, h2⟩ := e3 j zz hzz
  have : x' = x := by
   have h3 : cs.toList[j]? = some x := by simpa using hx
   have h4 : cs.toList[j]? = some x' := h1
   rw [h3] at h4; cases h4; rfl
  subst this
  exact Z.rep h2
theorem fails_rep {w : World} {g : Gh} {v : V} {z : Value} (h : Rep w g v z) : Rep w g (.t [v, .k (.bool false)]) (.tuple #[z, .bool false]) := by
 refine .t rfl fun j v q hj hq => ?_
 match j with
 | 0 => simp at hj hq; subst hj; subst hq; exact h
 | 1 => simp at hj hq; subst hj; subst hq; exact .k _
 | j + 2 => simp at hj
theorem Does.asrtNo {xT T S : Nat} {u : V} {x : Operand} (X : TOk P) {ti : TI} (ho : o.op = .typeAssert x xT T true) (hx : evo env x = some (.i S u)) (hne : Nat.beq S T = false) (hT : aget X.tab T = some ti) (hd : ti.d.agg = true) : Does P o env (.t [.a (ti.zero.map Z.v), .k (.bool false)]) [] :=
 .pure fun F g a w mem hr _ => by
  have h1 := hr x (by simp [ho, Op.operands]) _ hx
  obtain ⟨d, hu, hni⟩ := (X.get hT).noIfc hd
  obtain ⟨z, hz1, hz2⟩ := (X.get hT).zeroRep hd g w
  obtain ⟨y, hy⟩ : ∃ y, a.eval x = .iface S y := by generalize a.eval x = z at h1; cases h1; exact ⟨_, rfl⟩
  have hST : ¬ S = T := fun e => by subst e; rw [Nat.beq_refl] at hne; cases hne
  refine ⟨.tuple #[z, .bool false], ?_, fails_rep hz2⟩
  have : (Instr.typeAssert (.iface S y) xT T true).run P w = .ok (.tuple #[z, .bool false]) w := by
   unfold Instr.typeAssert
   rw [Sem.run_bind, run_underlying hu w]
   cases d <;> first | (exact absurd rfl (hni _)) | simp [hST, hz1]
  simp [execOp, ho, hy, this]
theorem Does.asrtNil {xT T : Nat} {x : Operand} (X : TOk P) {ti : TI} (ho : o.op = .typeAssert x xT T true) (hx : evo env x = some (.k .nilIface)) (hT : aget X.tab T = some ti) (hd : ti.d.agg = true) : Does P o env (.t [.a (ti.zero.map Z.v), .k (.bool false)]) [] :=
 .pure fun F g a w mem hr _ => by
  have h1 := rep_k (hr x (by simp [ho, Op.operands]) _ hx)
  obtain ⟨d, hu, hni⟩ := (X.get hT).noIfc hd
  obtain ⟨z, hz1, hz2⟩ := (X.get hT).zeroRep hd g w
  refine ⟨.tuple #[z, .bool false], ?_, fails_rep hz2⟩
  have : (Instr.typeAssert .nilIface xT T true).run P w = .ok (.tuple #[z, .bool false]) w := by
   unfold Instr.typeAssert
   rw [Sem.run_bind, run_underlying hu w]
   cases d <;> first | (exact absurd rfl (hni _)) | simp [hz1]
  simp [execOp, ho, h1, this]
def methB (P : Program) (T : Nat) (name : String) (f : Nat) : Bool :=
 match P.info? T with
 | some i => (match i.methods.find? (·.name == name) with
  | some m => m.path.isEmpty && (match m.func with
   | some (f', false) => Nat.beq f' f
   | _ => false)
  | none => false) && (match P.underlying T with
  | some (.pointer _) => false
  | some _ => true
  | none => false)
 | none => false
theorem run_method {T : Nat} {name : String} {f : Nat} (h : methB P T name f = true) (n : Nat) (v : Value) (w : World) : (method (n + 1) T v name).run P w = .ok (f, v) w := by
 unfold methB at h
 cases hi : P.info? T with
 | none => simp [hi] at h
 | some i =>
  simp only [hi, Bool.and_eq_true] at h
  obtain ⟨h1, h2⟩ := h
  cases hm : i.methods.find? (·.name == name) with
  | none => simp [hm] at h1
  | some m =>
   simp only [hm, Bool.and_eq_true] at h1
   obtain ⟨h3, h4⟩ := h1
   have hp : m.path.toList = [] := by simpa using h3
   cases hu : P.underlying T with
   | none => simp [hu] at h2
   | some d =>
    cases hf : m.func with
    | none => simp [hf] at h4
    | some q =>
     obtain ⟨f', b⟩ := q
     cases b with
     | true => simp [hf] at h4
     | false =>
      simp only [hf] at h4
      have : f' = f := Nat.eq_of_beq_eq_true h4
      subst this
      have hd : ∀ e, d ≠ .pointer e := fun e hd => by rw [hu, hd] at h2; simp at h2
      unfold method
      simp only [Sem.run_bind, typeInfo, run_program, Result.andThen_ok, hi, hm, hp, follow, hf, Sem.run_pure]
      unfold receiverAt
      rw [Sem.run_bind, run_underlying hu w]
      cases d <;> first | (exact absurd rfl (hd _)) | simp [Place.get]
theorem exec_invoke {o : Oper} {fx T : Nat} {xs : List Operand} {ts : Array Nat} {recv : Operand} {name : String} {v : Value} (ho : o.op = .call { callee := .invoke recv name, args := xs.toArray, argTypes := ts }) (hok : callOk P fx = true) (a : Act) (w : World) (hv : a.eval recv = .iface T v) (hm : methB P T name fx = true) :
  (execOp a.eval o).run P w = .ok (.enter fx (v :: xs.map a.eval).toArray) w := by
 unfold callOk at hok
 split at hok
 ·rename_i fn hfn
  simp only [Bool.and_eq_true, Bool.not_eq_true'] at hok
  have hn : ¬ fn.body = none := by cases hb : fn.body <;> simp_all
  have hnm : ¬ fn.name = "runtime.NumGoroutine" := by simpa using hok.1
  have e := run_method hm (P.types.size + 99) v w
  simp [execOp, ho, resolve, hv, invoke, callMethod, Made.depth, e, callFunc, hfn, hnm, hn]
  exact List.take_of_length_le (by simp)
 ·cases hok
theorem Does.meth {o : Oper} {env : Env} {fx T : Nat} {xs : List Operand} {ts : Array Nat} {recv : Operand} {name : String} {u0 : V} {us args : List V} {mi mo : Mem} {v : V} (hc : LM P fx args mi fun o m => o = .ret v ∧ m = mo) (ho : o.op = .call { callee := .invoke recv name, args := xs.toArray, argTypes := ts }) (hf : evo env recv = some (.i T u0)) (hm : methB P T name fx = true)
  (hx : evs env xs = some us) (hu : Fits (u0 :: us) args) (hr : (V.refs.go mi args && (refsM mi mi && keysOk mi mo)) = true) :
  Does P o env v (callT mi mo) := by
 refine ⟨fun F g a w mem h1 h2 h3 h4 _ K Q hK => ?_⟩
 simp only [Bool.and_eq_true] at hr
 have hrv := h1 recv (by simp [ho, Op.operands, Call.operands]) _ hf
 obtain ⟨y, hy, hry⟩ : ∃ y, a.eval recv = .iface T y ∧ Rep w g u0 y := by generalize a.eval recv = z at hrv; cases hrv with | i h => exact ⟨_, rfl, h⟩
 obtain ⟨e1, e2⟩ := evs_get hx
 obtain ⟨f1, f2⟩ := fits_rep (w := w) (g := g) hu
 have l1 : args.length = (y :: xs.map a.eval).toArray.size := by simp at f1 ⊢; omega
 have l2 : ∀ (j : Nat) u x, args[j]? = some u → (y :: xs.map a.eval).toArray[j]? = some x → Rep w g u x := fun j u x hj hxj => by
  obtain ⟨u1, hu1, hb⟩ := f2 hj
  refine hb _ ?_
  cases j with
  | zero =>
   simp at hu1 hxj
   subst hu1; subst hxj
   exact hry
  | succ j =>
   simp only [List.getElem?_cons_succ] at hu1
   obtain ⟨z, hz, hev⟩ := e2 j u1 hu1
   have : x = a.eval z := by simp [hz] at hxj; exact hxj.symm
   subst this
   exact h1 z (by simp [ho, Op.operands, Call.operands]; exact .inr (List.mem_of_getElem? hz)) u1 hev
 obtain ⟨t1, t2⟩ := tpre_call h4 hr.2.2
 unfold Oper.wp
 rw [exec_invoke ho hc.ok a w hy hm]
 refine Calls.mono (call_ends hc h2 h3 hr.2.1 hr.1 t1 l1 l2) ?_
 rintro e w' ⟨o', mo', ⟨rfl, rfl⟩, hq⟩
 obtain ⟨g2, k1, k2, k3, x, rfl, k4⟩ := hq hr.2.2 t2
 exact hK x g2 w' k1 (by rw [tset_call]; exact k2) k3 k4
theorem Does.meth0 {o : Oper} {env : Env} {fx T : Nat} {xs : List Operand} {ts : Array Nat} {recv : Operand} {name : String} {u0 : V} {us args : List V} {v : V} (hc : LM P fx args [] fun o m => o = .ret v ∧ m = []) (ho : o.op = .call { callee := .invoke recv name, args := xs.toArray, argTypes := ts }) (hf : evo env recv = some (.i T u0)) (hm : methB P T name fx = true)
  (hx : evs env xs = some us) (hu : Fits (u0 :: us) args) (hr : V.refs.go [] args = true) : Does P o env v [] := Does.meth hc ho hf hm hx hu (by rw [hr]; rfl)
end
end Lf
open Go.RowKit Rg
namespace Lf
def sB (s : ByteArray) : List V := s.data.toList.map bK
theorem sB_length (s : ByteArray) : (sB s).length = s.size := by simp [sB]
section
variable {P : Program} {o : Oper} {env : Env}
theorem RelM.newRowF {F : Fr0} {g : Gh} {w : World} {mem : Mem} (h : RelM F g mem w) (hk : Kept F g w) {i E sz c : Nat} {es : List V} {xs : Array Value} {fz : Nat × Nat} (hf : fz.2 = fz.1 ∨ (xs.size ≤ fz.1 ∧ sz = 1)) (hi : aget mem i = none) (hp : 0 < sz) (hc : es.length ≤ c) (hm : c ≤ maxLen) (hxs : xs.size = c * sz)
  (hs : ∀ e ∈ es, e.cells.length = sz ∧ ∀ u ∈ e.cells, u.one = true) (hr : ∀ (j : Nat) u z, (es.flatMap V.cells)[j]? = some u → xs[j]? = some z → Rep w g.bare u z) :
  ∃ g', Ev g w g' (w.alloc (.cells xs E fz)) ∧ RelM F g' ((i, .r E sz es.length) :: mem) (w.alloc (.cells xs E fz)) ∧ Kept F g' (w.alloc (.cells xs E fz)) ∧ Rep (w.alloc (.cells xs E fz)) g' (.s (some i) es) (.slice (some ⟨w.heap.size, 0, none⟩) es.length c) := by
 have hfl := flat_len fun e he => (hs e he).1
 have hle : es.length * sz ≤ xs.size := by rw [hxs]; exact Nat.mul_le_mul_right _ hc
 have hown : (w.alloc (.cells xs E fz)).oRow 0 E sz (.slice (some ⟨w.heap.size, 0, none⟩) es.length c) es.length (xs.toList.take (es.length * sz)) :=
  ⟨by simp; omega, .inr ⟨w.heap.size, c, xs, fz, rfl, Nat.zero_le _, heap_alloc_new w _, hc, hm, hxs, rfl, hf⟩⟩
 have hrw : (g.newR i w.heap.size (es.length * sz) es.length c).rw i = some (some w.heap.size, es.length, c) := by simp [Gh.newR]
 obtain ⟨e1, e2, e3⟩ := h.newR hk (n := es.length * sz) (l := es.length) (c := c) (m' := .r E sz es.length) (o := .cells xs E fz) hi (.r hrw ⟨hp, ⟨_, hown⟩, fun b hb o ho hS => by cases hb; have := hS.2 rfl; omega⟩) fun b o' ⟨l, c', hp'⟩ => by rw [hrw] at hp'; cases hp'; rfl
 refine ⟨_, e1, e2, e3, Rep.row (a := some w.heap.size) rfl hp hrw hown (fun b hb => ?_) hs (fun j u z hj hz => ?_)⟩
 ·cases hb
  exact ⟨by simp, fun o ho => ⟨h.fut _ o (Nat.le_refl _), fun _ => ho⟩⟩
 ·rw [List.getElem?_take] at hz
  split at hz
  ·exact (hr j u z hj (by simpa using hz)).mono e1.bare
  ·cases hz
theorem drew_relT {F : Fr0} {g : Gh} {w : World} {mem : Mem} (h : RelM F g mem w) (hk : Kept F g w) : Ev g w g w.drew ∧ RelM F g mem w.drew ∧ Kept F g w.drew :=
 h.ext hk (Below.refl w.heap.size w).drew (fun _ _ _ => Iff.rfl) rfl rfl fun b o hb => h.fut b o hb
theorem Does.toBytes {S T E i : Nat} {x : Operand} {s : ByteArray} (X : TOk P) {si ti ei : TI} (ho : o.op = .convert S T x) (hx : evo env x = some (.k (.string s))) (hS : aget X.tab S = some si) (hd : si.d = .str) (hT : aget X.tab T = some ti) (hdT : ti.d = .sl E) (hE : aget X.tab E = some ei) (hdE : ei.d = .int .u8) (hsz : Nat.beq ei.size 1 = true) (hm : s.size ≤ maxLen) :
  Does P o env (.s (some i) (sB s)) [(i, none, some (.r E ei.size s.size))] := by
 refine ⟨fun F g a w mem h1 h2 h3 h4 _ K Q hK => ?_⟩
 have hi := h4 _ _ _ mem_one
 have hr := rep_k (h1 x (by simp [ho, Op.operands]) _ hx)
 have hs1 : ei.size = 1 := Nat.eq_of_beq_eq_true hsz
 obtain ⟨d1, d2, d3⟩ := drew_relT h2 h3
 have hrun := Lib.run_convert_string_bytes (P := P) w S T E s ((X.get hS).str hd) ((X.get hT).sl hdT) ((X.get hE).int hdE)
 have hw : Lib.bytesWorld w E s = w.drew.alloc (.cells (Lib.bytesCells w E s) E ((Lib.bytesCells w E s).size, (Lib.bytesCells w E s).size + 1)) := by
  have hh : (Lib.bytesWorld w E s).heap = (w.drew.alloc (.cells (Lib.bytesCells w E s) E ((Lib.bytesCells w E s).size, (Lib.bytesCells w E s).size + 1))).heap := by
   apply Array.ext_getElem?
   intro j
   have hH : w.drew.heap = w.heap := rfl
   rcases Nat.lt_trichotomy j w.heap.size with h | h | h
   ·rw [Lib.bytesWorld_at_old w E s j h]
    have := (MapKept.heap_alloc w.drew (.cells (Lib.bytesCells w E s) E ((Lib.bytesCells w E s).size, (Lib.bytesCells w E s).size + 1))).2 j h
    rw [this, hH]
   ·subst h
    rw [Lib.bytesWorld_at_new]
    exact (heap_alloc_new w.drew _).symm
   ·have h1 := Lib.bytesWorld_size w E s
    have h2 : (w.drew.alloc (.cells (Lib.bytesCells w E s) E ((Lib.bytesCells w E s).size, (Lib.bytesCells w E s).size + 1))).heap.size = w.heap.size + 1 := by simp [World.alloc, hH, -World.alloc_eq]
    rw [Array.getElem?_eq_none (by omega), Array.getElem?_eq_none (by omega)]
  have e1 : Lib.bytesWorld w E s = { w.drew.alloc (.cells (Lib.bytesCells w E s) E ((Lib.bytesCells w E s).size, (Lib.bytesCells w E s).size + 1)) with heap := (Lib.bytesWorld w E s).heap } := rfl
  rw [e1, hh]
 have hcap : s.size ≤ grownCap w s.size 0 E := grownCap_ge w s.size 0 E
 have hcs : (Lib.bytesCells w E s).size = grownCap w s.size 0 E := by simp [Lib.bytesCells]; omega
 obtain ⟨g', k1, k2, k3, k4⟩ := d2.newRowF d3 (i := i) (E := E) (sz := ei.size) (c := grownCap w s.size 0 E) (es := sB s) (xs := Lib.bytesCells w E s) (fz := ((Lib.bytesCells w E s).size, (Lib.bytesCells w E s).size + 1)) (.inr ⟨Nat.le_refl _, hs1⟩) hi (by omega) (by rw [sB_length]; exact hcap)
  (grownCap_le_maxLen w s.size 0 E hm) (by rw [hcs, hs1, Nat.mul_one]) (fun e he => by
   obtain ⟨z, _, rfl⟩ := List.mem_map.1 he
   refine ⟨by rw [hs1]; rfl, fun u hu => ?_⟩
   simp [bK, V.cells] at hu; subst hu; rfl) (fun j u z hj hz => by
   have hfl : (sB s).flatMap V.cells = sB s := by
    have hl : ∀ l : List UInt8, l.flatMap (fun a => (bK a).cells) = l.map bK := fun l => by
     induction l with
     | nil => rfl
     | cons a l ih => rw [List.flatMap_cons, ih]; rfl
    unfold sB
    rw [List.flatMap_map]
    exact hl _
   rw [hfl] at hj
   simp only [sB, List.getElem?_map] at hj
   obtain ⟨b, hb, rfl⟩ := Option.map_eq_some_iff.1 hj
   have hjl := (List.getElem?_eq_some_iff.1 hb).1
   have : z = .int .u8 (b.toNat : Int) := by
    simp only [Lib.bytesCells] at hz
    rw [Array.getElem?_append_left (by simpa using hjl), Array.getElem?_map] at hz
    have hb' : s.data[j]? = some b := by rw [← hb]; simp
    rw [hb'] at hz
    simpa using hz.symm
   subst this
   exact .k _)
 unfold Oper.wp
 have hrun' : (execOp a.eval o).run P w = .ok (.value (.slice (some ⟨w.heap.size, 0, none⟩) s.size (grownCap w s.size 0 E))) (Lib.bytesWorld w E s) := by
  simp only [execOp, ho, hr, Sem.run_bind, hrun]
  rfl
 rw [hrun']
 rw [sB_length] at k2 k4
 exact hK _ g' _ (by rw [hw]; exact d1.trans k1) (by rw [hw]; exact k2) (by rw [hw]; exact k3) (by rw [hw]; exact k4)
theorem Does.toBytesL {S T E i n : Nat} {x : Operand} {l : List UInt8} (X : TOk P) {si ti ei : TI} (ho : o.op = .convert S T x) (hx : evo env x = some (sK l)) (hS : aget X.tab S = some si) (hd : si.d = .str) (hT : aget X.tab T = some ti) (hdT : ti.d = .sl E) (hE : aget X.tab E = some ei) (hdE : ei.d = .int .u8) (hsz : Nat.beq ei.size 1 = true) (hm : l.length ≤ maxLen) (hn : l.length = n) :
  Does P o env (.s (some i) (l.map bK)) [(i, none, some (.r E 1 n))] := by
 subst hn
 have h := Does.toBytes (i := i) X ho hx hS hd hT hdT hE hdE hsz hm
 rw [Nat.eq_of_beq_eq_true hsz] at h
 exact h
theorem Does.toStr1 {S T E : Nat} {x : Operand} {t : Option Nat} {b : UInt8} (X : TOk P) {si ti ei : TI} (ho : o.op = .convert S T x) (hx : evo env x = some (.s t [bK b])) (hS : aget X.tab S = some si) (hd : si.d = .sl E) (hE : aget X.tab E = some ei) (hdE : ei.d = .int .u8) (hT : aget X.tab T = some ti) (hdT : ti.d = .str) : Does P o env (sK [b]) [] :=
 Does.toStr (l := [b]) X ho hx hS hd hE hdE hT hdT
end
end Lf
open Go.RowKit Rg
namespace Lf
structure FrzBox (id i : Nat) : Prop where
section
variable {P : Program} {F : Fr0} {N : Nat} {Q : LQ} {env : Env} {mem : Mem}
theorem LC.frzAt {id i : Nat} {ops : Array Oper} {d : Bool} {cs cs' : List V} {env' : Env} (_h : FrzBox id i) (hi : aget mem i = some (.b cs)) (hb : V.bare.go cs = some cs') (he : frzE i cs' env = env') (h : LC P F N (.region id ops d) Q env' ((i, .x) :: mem)) : LC P F N (.region id ops d) Q env mem := by
 subst he
 exact LC.freeze i hi hb h
end
structure CutQ (cs : List V) (n : Nat) (l : List UInt8) : Prop where
 eq : cs.take n = l.map bK
 len : l.length = n
theorem flat_bK : ∀ l : List UInt8, (l.map bK).flatMap V.cells = l.map bK
 | [] => rfl
 | a :: l => by rw [List.map_cons, List.flatMap_cons, flat_bK l]; rfl
theorem Does.cutQ {P : Program} {o : Oper} {env : Env} {T e n : Nat} {x : Operand} {cs : List V} {l : List UInt8} (X : TOk P) {ti ei : TI} (ho : o.op = .slice T x none none none) (hx : evo env x = some (.q cs)) (hT : aget X.tab T = some ti) (hd : ti.d = .arr n e) (hE : aget X.tab e = some ei) (hs : Nat.beq ei.size 1 = true) (hq : CutQ cs n l) (h0 : Nat.blt 0 n = true) (hm : Nat.ble n 1000000 = true) : Does P o env (.s none (l.map bK)) [] := by
 have h1 := Nat.eq_of_beq_eq_true hs
 have h0' : 0 < n := Nat.le_of_ble_eq_true h0
 have hm' := Nat.le_of_ble_eq_true hm
 refine Does.cutAQ (l := 0) (h := n) (es := l.map bK) X ho hx hT hd hE Bd.none Bd.none (Nat.zero_le _) (Nat.le_refl _) h0' (by simp only [maxLen]; omega) (by rw [h1]; rfl) ?_ ?_ ?_
 ·rw [h1, Nat.zero_mul, List.drop_zero, Nat.sub_zero, Nat.mul_one, hq.eq, flat_bK]
 ·rw [List.length_map, hq.len, Nat.sub_zero]
 ·intro e he
  obtain ⟨b, _, rfl⟩ := List.mem_map.1 he
  rw [h1]; rfl
theorem Does.arrAtB {P : Program} {o : Oper} {env : Env} {T n e : Nat} {x : Operand} {t : Option Nat} {l : List UInt8} (X : TOk P) {ti : TI} (ho : o.op = .sliceToArrayPointer T x) (hx : evo env x = some (.s t (l.map bK))) (hT : aget X.tab T = some ti) (hd : ti.d = .arr n e) (hn : n ≤ l.length) (h0 : Nat.blt 0 n = true) : Does P o env (.q (l.map bK)) [] := by
 have := Does.arrAt X ho hx hT hd (by rw [List.length_map]; exact hn) h0
 rwa [flat_bK] at this
theorem rep_e0 {w : World} {g : Gh} : Rep w g (.s none []) (.slice none 0 0) := .s0 fun r hr => by cases hr
end Lf
open Go.RowKit Rg
namespace Lf
section
variable {P : Program} {o : Oper} {env : Env}
theorem buf_none {g : Gh} {w : World} {E sz c : Nat} {es : List V} (h : BufAt g w none E sz es c) : es = [] ∧ c = 0 := by
 obtain ⟨xs, hown, _⟩ := h.own
 rcases hown.2 with ⟨hv, hn⟩ | ⟨q, cp, cur, _, hv, _⟩
 ·exact ⟨List.eq_nil_of_length_eq_zero hn, by simp at hv; exact hv.2⟩
 ·simp at hv
theorem buf_le {g : Gh} {w : World} {a : Option Nat} {E sz c : Nat} {es : List V} (h : BufAt g w a E sz es c) : es.length ≤ c ∧ c ≤ maxLen := by
 obtain ⟨xs, hown, _⟩ := h.own
 rcases hown.2 with ⟨hv, hn⟩ | ⟨q, cp, cur, _, hv, _, _, h1, h2, _⟩
 ·cases a with
  | none => simp at hv; simp [hv, maxLen]
  | some b => simp at hv
 ·cases a with
  | none => simp at hv
  | some b => simp at hv; obtain ⟨_, rfl⟩ := hv; exact ⟨h1, h2⟩
theorem rep_w {F : Fr0} {g : Gh} {w : World} {mem : Mem} (h2 : RelM F g mem w) {i E sz gen off n : Nat} {es : List V} (hi : aget mem i = some (.w E sz gen es)) {x : Value} (hr : Rep w g (.w i gen sz off n) x) :
  ∃ a c ad, g.rw i = some (a, gen, c) ∧ BufAt g w a E sz es c ∧ x = .slice ad n (c - off) ∧ off + n ≤ c ∧ (off < c ∨ off = 0 → ad = a.map fun b => ⟨b, off * sz, none⟩) := by
 obtain ⟨a, c, hrw, hB⟩ := h2.buf hi
 cases hr with
 | @w _ _ _ _ _ _ ad cap h =>
  obtain ⟨a', l, c', k1, k2, k3⟩ := h
  rw [hrw] at k1; cases k1
  obtain ⟨w1, w2, w3⟩ := k3 rfl
  exact ⟨a, c, ad, hrw, hB, by rw [w2], w1, w3⟩
theorem rep_wb {F : Fr0} {g : Gh} {w : World} {mem : Mem} (h2 : RelM F g mem w) {i E sz gen off n : Nat} {es : List V} (hi : aget mem i = some (.w E sz gen es)) {x : Value} (hr : Rep w g (.w i gen sz off n) x) (hn : 0 < n) :
  ∃ b c, g.rw i = some (some b, gen, c) ∧ BufAt g w (some b) E sz es c ∧ x = .slice (some ⟨b, off * sz, none⟩) n (c - off) ∧ off + n ≤ c := by
 obtain ⟨a, c, ad, h1, hB, h3, h4, h5⟩ := rep_w h2 hi hr
 cases a with
 | none => have := (buf_none hB).2; omega
 | some b =>
  have := h5 (.inl (by omega))
  subst this
  exact ⟨b, c, h1, hB, h3, h4⟩
theorem Does.lenW {x : Operand} {T : Nat} {ts : Array Nat} {i gen sz off n e : Nat} (X : TOk P) {ti : TI} (ho : o.op = .call { callee := .builtin .len, args := #[x], argTypes := ts }) (hts : ts[0]? = some T) (hx : evo env x = some (.w i gen sz off n)) (hT : aget X.tab T = some ti) (hd : ti.d = .sl e) : Does P o env (.k (.int .i64 (n : Int))) [] :=
 .pure fun F g a w mem h1 _ => by
  have hr := h1 x (by simp [ho, Op.operands, Call.operands]) _ hx
  have hu := (X.get hT).sl hd
  obtain ⟨ad, cap, hy⟩ : ∃ ad cap, a.eval x = .slice ad n cap := by generalize a.eval x = y at hr; cases hr with | w h => exact ⟨_, _, rfl⟩
  refine ⟨.int .i64 (n : Int), ?_, .k _⟩
  simp [execOp, ho, resolve, invoke, builtin, hy, Builtin.len_, hts, run_underlying hu]
  try rfl
theorem Does.cutW {T E e l h i gen off n : Nat} {x : Operand} {lo hi : Option Operand} {es : List V} (X : TOk P) {ti ei : TI} (ho : o.op = .slice T x lo hi none) (hx : evo env x = some (.w i gen ei.size off n)) (hT : aget X.tab T = some ti) (hd : ti.d = .sl e) (hE : aget X.tab e = some ei) (hlo : Bd env 0 lo l) (hhi : Bd env n hi h)
  (h1 : l ≤ h) (h2 : h ≤ n) : Does P o env (.w i gen ei.size (off + l) (h - l)) [(i, some (.w E ei.size gen es), none)] :=
 .read fun F g a w mem hr hm hi' => by
  have hr0 := hr x (by simp [ho, Op.operands]) _ hx
  have b1 := hlo.val (a := a) (fun y hy u hu => hr y (by subst hy; simp [ho, Op.operands]) u hu)
  have b2 := hhi.val (a := a) (fun y hy u hu => hr y (by subst hy; simp [ho, Op.operands]) u hu)
  obtain ⟨ao, c, ad, k1, hB, hy, k3, k4⟩ := rep_w hm hi' hr0
  have := run_cutG (P := P) (a := ad) (n := n) (cap := c - off) ((X.get hT).sl hd) (X.get hE).run_size b1 b2 h1 (by omega) w
  refine ⟨_, by simp only [execOp, ho, hy, Sem.run_bind]; rw [show (Option.map a.eval none) = none from rfl, this]; rfl, ?_⟩
  refine .w ⟨ao, gen, c, k1, Nat.le_refl _, fun _ => ⟨by omega, by omega, fun hc => ?_⟩⟩
  have had := k4 (by omega)
  subst had
  rcases hc with hc | hc
  ·rw [if_neg (by omega), Option.map_map]
   cases ao with
   | none => rfl
   | some b => simp [Addr.add_lit, Nat.add_mul]
  ·obtain ⟨rfl, rfl⟩ : off = 0 ∧ l = 0 := by omega
   split
   ·rfl
   ·cases ao with
    | none => rfl
    | some b => simp [Addr.add_lit]
theorem Does.idxW {T E e k i gen off n : Nat} {x ix : Operand} {kd : IntKind} {z : Int} {es : List V} (X : TOk P) {ti ei : TI} (ho : o.op = .indexAddr T x ix) (hx : evo env x = some (.w i gen ei.size off n)) (hi : evo env ix = some (.k (.int kd z))) (hz : z = ((k : Nat) : Int)) (hT : aget X.tab T = some ti) (hd : ti.d = .sl e) (hE : aget X.tab e = some ei) (hk : k < n) :
  Does P o env (.pw i gen ((off + k) * ei.size)) [(i, some (.w E ei.size gen es), none)] :=
 .read fun F g a w mem h1 h2 hi' => by
  subst hz
  have hr := h1 x (by simp [ho, Op.operands]) _ hx
  have hr2 := rep_k (h1 ix (by simp [ho, Op.operands]) _ hi)
  obtain ⟨b, c, k1, hB, hy, k3⟩ := rep_wb h2 hi' hr (by omega)
  refine ⟨.pointer (some ⟨b, (off + k) * ei.size, none⟩), ?_, .pw (b := some b) ⟨some b, gen, c, k1, Nat.le_refl _, fun _ => ⟨rfl, rfl⟩⟩⟩
  simp [execOp, ho, hy, hr2, Instr.indexAt, asIntOf, run_underlying ((X.get hT).sl hd), (X.get hE).run_size, hk, Addr.add_lit, Nat.add_mul]
theorem rep_pw {F : Fr0} {g : Gh} {w : World} {mem : Mem} (h2 : RelM F g mem w) {i E sz gen off : Nat} {es : List V} (hi : aget mem i = some (.w E sz gen es)) {x : Value} (hr : Rep w g (.pw i gen off) x) (hne : es ≠ []) :
  ∃ b c, g.rw i = some (some b, gen, c) ∧ BufAt g w (some b) E sz es c ∧ x = .pointer (some ⟨b, off, none⟩) := by
 obtain ⟨a, c, hrw, hB⟩ := h2.buf hi
 cases hr with
 | pw h =>
  obtain ⟨a', l, c', k1, k2, k3⟩ := h
  rw [hrw] at k1; cases k1
  obtain ⟨rfl, rfl⟩ := k3 rfl
  rename_i b o
  cases b with
  | none => exact absurd (buf_none hB).1 hne
  | some b => exact ⟨b, c, hrw, hB, rfl⟩
theorem Does.loadW {T E i gen sz off : Nat} {x : Operand} {es : List V} {v : V} (X : TOk P) {ti : TI} (ho : o.op = .load T x) (hx : evo env x = some (.pw i gen off)) (hT : aget X.tab T = some ti) (hv : ti.part (es.flatMap V.cells) off = some v) (hp : Nat.blt 0 ti.size = true) : Does P o env v [(i, some (.w E sz gen es), none)] :=
 .read fun F g a w mem h1 h2 h4 => by
  have hr := h1 x (by simp [ho, Op.operands]) _ hx
  have hne : es ≠ [] := fun e => by
   subst e
   cases hd : ti.d.agg with
   | true =>
    have := (part_agg hd hv).1
    have hp' : 0 < ti.size := Nat.le_of_ble_eq_true hp
    simp at this; omega
   | false => have := part_one hd hv; simp at this
  obtain ⟨b, c, k1, hB, hy⟩ := rep_pw h2 h4 hr hne
  obtain ⟨xs, hown, hrep⟩ := hB.own
  have hfl := flat_len fun e he => (hB.cells e he).1
  obtain ⟨y, hrun, hrep'⟩ := rep_part (g := g) (w := w) (b := b) (bo := 0) (X.get hT) hv (fun u hu => by obtain ⟨e, he, hu⟩ := List.mem_flatMap.1 hu; exact (hB.cells e he).2 u hu) (xs := xs) (by rw [hfl]; exact hown.1) (fun j u hj => by
   have hjl := (List.getElem?_eq_some_iff.1 hj).1
   have := own_cell hown hjl
   rw [List.getElem?_eq_getElem hjl] at hj; cases hj
   rw [Nat.zero_add]; exact this) (fun j u z hj hz => (hrep j u z hj hz).of_bare)
  rw [Nat.zero_add] at hrun
  exact ⟨y, by simp [execOp, ho, hy, hrun], hrep'⟩
theorem flatV_take {es : List V} {sz : Nat} (hs : ∀ e ∈ es, e.cells.length = sz) (k : Nat) : (es.take k).flatMap V.cells = (es.flatMap V.cells).take (k * sz) := by
 induction es generalizing k with
 | nil => simp
 | cons e r ih =>
  cases k with
  | zero => simp
  | succ k =>
   have h1 := hs e (by simp)
   have h2 : (k + 1) * sz = k * sz + sz := Nat.succ_mul k sz
   rw [List.take_succ_cons, List.flatMap_cons, List.flatMap_cons, ih (fun e he => hs e (by simp [he])), List.take_append, h1, show (k + 1) * sz - sz = k * sz by omega,
    List.take_of_length_le (l := e.cells) (by omega)]
theorem flatV_drop {es : List V} {sz : Nat} (hs : ∀ e ∈ es, e.cells.length = sz) (k : Nat) : (es.drop k).flatMap V.cells = (es.flatMap V.cells).drop (k * sz) := by
 induction es generalizing k with
 | nil => simp
 | cons e r ih =>
  cases k with
  | zero => simp
  | succ k =>
   have h1 := hs e (by simp)
   have h2 : (k + 1) * sz = k * sz + sz := Nat.succ_mul k sz
   rw [List.drop_succ_cons, List.flatMap_cons, ih (fun e he => hs e (by simp [he])), List.drop_append, h1, show (k + 1) * sz - sz = k * sz by omega,
    List.drop_of_length_le (l := e.cells) (by omega), List.nil_append]
theorem flat_splice {es ys : List V} {sz k : Nat} (hs : ∀ e ∈ es, e.cells.length = sz) (hy : ∀ e ∈ ys, e.cells.length = sz) : (splice es k ys).flatMap V.cells = splice (es.flatMap V.cells) (k * sz) (ys.flatMap V.cells) := by
 unfold splice
 rw [List.flatMap_append, List.flatMap_append, flatV_take hs, flatV_drop hs, flat_len hy, ← Nat.add_mul]
theorem own_set (P : Program) {w : World} {b E sz n c off : Nat} {xs us : List Value} (h : w.oRow 0 E sz (.slice (some ⟨b, 0, none⟩) n c) n xs) (hl : off + us.length ≤ n * sz) (h1 : ∀ u ∈ us, u.oneCell' = true) :
  (w.setCells b off us).oRow 0 E sz (.slice (some ⟨b, 0, none⟩) n c) n (xs.take off ++ us ++ xs.drop (off + us.length)) ∧ w.there b off us.length := by
 obtain ⟨hxl, hx⟩ := h
 rcases hx with ⟨hv, _⟩ | ⟨q, cap, cur, fz, hv, hb0, hq, hnc, hcm, hcs, htk, hfz⟩
 ·simp at hv
 ·simp at hv
  obtain ⟨rfl, rfl⟩ := hv
  have hcl : n * sz ≤ cur.size := by rw [hcs]; exact Nat.mul_le_mul_right _ hnc
  have hcell : ∀ j, j < us.length → (w.cell? ⟨b, off + j, none⟩).isSome = true := fun j hj => by
   rw [cell_of_row w b _ cur E fz hq]; simp; omega
  have hfro : ∀ j, j < us.length → w.frozen? ⟨b, off + j, none⟩ = false := fun j hj => frozen_oRow hq (hfz.imp id And.left) (by omega)
  have hw : w.setCells b off us = w.setRow b (cur.toList.take off ++ us ++ cur.toList.drop (off + us.length)).toArray := by
   have r1 := Lf.run_storeCells_free (P := P) b off E fz us 0 cur w hq (hfz.imp id And.left) (by simp; omega) h1
   have r2 := run_storeCells_cells (P := P) b off us 0 w (fun j hj => by simpa using hcell j hj) (fun j hj => by simpa using hfro j hj) h1
   rw [r1] at r2
   simp only [Nat.add_zero] at r2
   exact ((Result.ok.inj r2).2).symm
  refine ⟨?_, fun j hj => ⟨hcell j hj, hfro j hj⟩⟩
  rw [hw]
  have hcur : cur.toList.length = cur.size := by simp
  refine ⟨by simp only [List.length_append, List.length_take, List.length_drop]; omega, .inr ⟨b, c, _, fz, rfl, hb0, setRow_heap w b cur _ E _ hq, hnc, hcm, ?_, ?_, hfz.imp id fun h => ⟨?_, h.2⟩⟩⟩
  ·simp only [List.size_toArray, List.length_append, List.length_take, List.length_drop, hcur]; omega
  ·subst htk
   apply List.ext_getElem?
   intro j
   simp only [List.getElem?_take, List.getElem?_append, List.length_take, List.length_append, List.getElem?_drop, hcur]
   rcases Nat.lt_or_ge j (n * sz) with hj | hj
   ·rw [if_pos hj]
    have e1 : min off cur.size = off := by omega
    have e2 : min off (min (n * sz) cur.size) = off := by omega
    rw [e1, e2]
    by_cases h3 : j < off + us.length
    ·rw [if_pos h3, if_pos h3]
     by_cases h4 : j < off
     ·rw [if_pos h4, if_pos h4, if_pos h4, if_pos h4, if_pos hj]
     ·rw [if_neg h4, if_neg h4]
    ·rw [if_neg h3, if_neg h3, if_pos (by omega)]
   ·rw [if_neg (by omega)]
    have e2 : min off (min (n * sz) cur.size) = off := by omega
    rw [e2, if_neg (by omega), if_neg (by omega)]
  ·simp only [List.size_toArray, List.length_append, List.length_take, List.length_drop, hcur]; omega
theorem RelM.setW {F : Fr0} {g : Gh} {w : World} {mem : Mem} (h : RelM F g mem w) (hk : Kept F g w) {i E sz gen k b c : Nat} {es ys : List V} {us : List Value} (hi : aget mem i = some (.w E sz gen es)) (hb : g.rw i = some (some b, gen, c)) (hlen : k + ys.length ≤ es.length)
  (hys : ∀ e ∈ ys, e.cells.length = sz ∧ ∀ u ∈ e.cells, u.one = true) (hl : us.length = ys.length * sz) (hr : ∀ (j : Nat) u x, (ys.flatMap V.cells)[j]? = some u → us[j]? = some x → Rep w g.bare u x) (h1 : ∀ u ∈ us, u.oneCell' = true) (P : Program) :
  w.there b (k * sz) us.length ∧ Ev g w g (w.setCells b (k * sz) us) ∧ RelM F g ((i, .w E sz gen (splice es k ys)) :: mem) (w.setCells b (k * sz) us) ∧ Kept F g (w.setCells b (k * sz) us) := by
 obtain ⟨a0, c0, e1, hB⟩ := h.buf hi
 rw [hb] at e1; cases e1
 obtain ⟨xs, hown, hrep⟩ := hB.own
 have hle : k * sz + us.length ≤ es.length * sz := by rw [hl, ← Nat.add_mul]; exact Nat.mul_le_mul_right _ hlen
 obtain ⟨hown', hth⟩ := own_set P hown hle h1
 have hes : ∀ e ∈ es, e.cells.length = sz := fun e he => (hB.cells e he).1
 have hsl : (splice es k ys).length = es.length := splice_len hlen
 have hbl := hB.lt rfl
 have hfl := flat_len hes
 have hfy := flat_len fun e he => (hys e he).1
 have key : Ev g w g (w.setCells b (k * sz) us) → ObjAt g (w.setCells b (k * sz) us) i (.w E sz gen (splice es k ys)) := fun he => by
  refine .w hb ⟨hB.pos, fun e hm => ?_, ⟨_, by rw [hsl]; exact hown', fun j u x hj hx => ?_⟩, hB.free⟩
  ·simp only [splice, List.mem_append] at hm
   rcases hm with (hm | hm) | hm
   ·exact hB.cells e (List.mem_of_mem_take hm)
   ·exact hys e hm
   ·exact hB.cells e (List.mem_of_mem_drop hm)
  ·rw [flat_splice hes (fun e he => (hys e he).1), splice_get (by rw [hfy, hfl, ← hl]; exact hle)] at hj
   have hxs : xs.length = es.length * sz := hown.1
   have e4 : (xs.take (k * sz) ++ us ++ xs.drop (k * sz + us.length))[j]? = if k * sz ≤ j ∧ j < k * sz + us.length then us[j - k * sz]? else xs[j]? := by
    simp only [List.getElem?_append, List.length_append, List.length_take, List.getElem?_take, List.getElem?_drop]
    have e5 : min (k * sz) xs.length = k * sz := by omega
    rw [e5]
    by_cases h3 : j < k * sz
    ·rw [if_pos (by omega), if_pos h3, if_pos h3, if_neg (by omega)]
    ·by_cases h4 : j < k * sz + us.length
     ·rw [if_pos h4, if_neg h3, if_pos (by omega)]
     ·rw [if_neg h4, if_neg (by omega)]
      congr 1; omega
   rw [e4] at hx
   rw [hfy, ← hl] at hj
   by_cases hin : k * sz ≤ j ∧ j < k * sz + us.length
   ·rw [if_pos hin] at hj hx
    exact (hr _ u x hj hx).mono he.bare
   ·rw [if_neg hin] at hj hx
    exact (hrep j u x hj hx).mono he.bare
 have hev : Ev g w g (w.setCells b (k * sz) us) := by
  obtain ⟨f1, f2, f3, f4, f5⟩ := setCells_facts b us (k * sz) w
  refine ⟨by omega, fun b0 o0 hlt hs => ⟨hs, World.cell?_of_block (f5 b0 fun e => ?_)⟩, fun _ _ hz => hz, fun r a l c hh => ⟨a, l, c, hh, Nat.le_refl _, fun _ => ⟨rfl, rfl⟩⟩⟩
  subst e
  exact hB.free _ rfl _ hs
 obtain ⟨k1, k2, k3⟩ := h.setC hk (b := b) (o := k * sz) (xs := us) hi (fun k' _ => ⟨_, _, hb⟩) (fun k' _ => hB.free b rfl _) hbl (key hev) fun b0 o0 hp => hp
 exact ⟨hth, k1, k2, k3⟩
theorem set_splice {α : Type} {es : List α} {k : Nat} {u : α} (h : k < es.length) : es.take k ++ [u] ++ es.drop (k + 1) = es.set k u := by
 apply List.ext_getElem?
 intro j
 simp only [List.getElem?_append, List.length_append, List.length_take, List.getElem?_take, List.getElem?_drop, List.length_singleton, List.getElem?_set]
 have e : min k es.length = k := by omega
 rw [e]
 by_cases h1 : j < k
 ·rw [if_pos (by omega), if_pos h1, if_pos h1, if_neg (by omega)]
 ·by_cases h2 : j = k
  ·subst h2; rw [if_pos (by omega), if_neg (by omega), if_pos rfl, if_pos h]; simp
  ·rw [if_neg (by omega), if_neg (by omega)]; congr 1; omega
theorem Does.storeW {T E i gen sz off k : Nat} {x y : Operand} {es : List V} {u u' : V} (X : TOk P) {ti : TI} (ho : o.op = .store T x y) (hx : evo env x = some (.pw i gen off)) (hy : evo env y = some u) (hT : aget X.tab T = some ti) (hb : u.bare = some u') (hu : u'.ok = true) (hs : u'.cells.length = sz) (hts : ti.size = sz) (hoff : off = k * sz) (hk : k < es.length) :
  Does P o env (.k undef) [(i, some (.w E sz gen es), some (.w E sz gen (es.set k u')))] := by
 refine ⟨fun F g a w mem h1 h2 h3 h4 _ K Q hK => ?_⟩
 have hr := h1 x (by simp [ho, Op.operands]) _ hx
 have hr2 := (h1 y (by simp [ho, Op.operands]) _ hy).to_bare hb
 have hi := h4 _ _ _ mem_one
 obtain ⟨b, c, e1, hB, hxx⟩ := rep_pw h2 hi hr (by rintro rfl; simp at hk)
 obtain ⟨c1, c2, c3⟩ := rep_cells hr2 hu
 have hone : ∀ x ∈ (a.eval y).cells.toList, x.oneCell' = true := fun x hx => by
  obtain ⟨j, hj⟩ := List.getElem?_of_mem hx
  have hjl := (List.getElem?_eq_some_iff.1 hj).1
  have hjl2 : j < u'.cells.length := by rw [c1]; simpa using hjl
  have hju : u'.cells[j]? = some u'.cells[j] := List.getElem?_eq_getElem hjl2
  exact (c3 j _ x hju (by simpa using hj)).oneCell (c2 _ (List.mem_of_getElem? hju))
 obtain ⟨k1, k2, k3, k4⟩ := h2.setW h3 (k := k) (ys := [u']) (us := (a.eval y).cells.toList) hi e1 (by simp; omega) (by simp only [List.mem_singleton]; rintro e rfl; exact ⟨hs, c2⟩) (by simp; omega) (fun j v z hj hz => c3 j v z (by simpa using hj) (by simpa using hz)) hone P
 have hsp : splice es k [u'] = es.set k u' := set_splice hk
 rw [hsp] at k3
 unfold Oper.wp
 have hst := run_storeCells_cells (P := P) b (k * sz) (a.eval y).cells.toList 0 w (by simpa using fun j hj => (k1 j hj).1) (by simpa using fun j hj => (k1 j hj).2) hone
 simp only [Nat.add_zero] at hst
 have hrun : (execOp a.eval o).run P w = .ok .skip (w.setCells b (k * sz) (a.eval y).cells.toList) := by
  have e2 : (a.eval y).cells.size = ti.size := by omega
  simp [execOp, ho, hxx, hoff, Instr.storeAt, Instr.sureAddr, storeVar, (X.get hT).run_size, e2, hst]
 rw [hrun]
 exact hK undef g _ k2 k3 k4 (.k _)
theorem Does.copyW {T Tx E i gen off n : Nat} {x y : Operand} {es ys : List V} {t : Tch} (X : TOk P) {ti ei : TI} (ho : o.op = .call { callee := .builtin .copy, args := #[x, y], argTypes := #[T, Tx] }) (hx : evo env x = some (.w i gen ei.size off n)) (hS : SrcOk P ei.size Tx y env ys t) (hq : quiet t = true)
  (hT : aget X.tab T = some ti) (hd : ti.d = .sl E) (hE : aget X.tab E = some ei) (hys : ∀ e ∈ ys, e.cells.length = ei.size) {m : Nat} (hm : ys.length = m) (hmn : m ≤ n) (hle : off + m ≤ es.length) :
  Does P o env (.k (.int .i64 (m : Int))) ((i, some (.w E ei.size gen es), some (.w E ei.size gen (splice es off ys))) :: t) := by
 refine ⟨fun F g a w mem h1 h2 h3 h4 _ K Q hK => ?_⟩
 subst hm
 have hi := h4 _ _ _ (List.mem_cons_self ..)
 have hrx := h1 x (by simp [ho, Op.operands, Call.operands]) _ hx
 obtain ⟨news, hsrc, hone2, hfl, hrep2⟩ := hS F g a w mem (fun u hu => h1 y (by simp [ho, Op.operands, Call.operands]) _ hu) h2 (fun j m m' hj => h4 j m m' (List.mem_cons_of_mem _ hj))
 have hmin : Nat.min ys.length n = ys.length := by simp only [Nat.min_def]; split <;> omega
 have hnl : news.length = ys.length * ei.size := by rw [← hfl, flat_len hys]
 obtain ⟨ao, c, ad, e1, hB, hxx, e3, e4⟩ := rep_w h2 hi hrx
 unfold Oper.wp
 have hfc := hsrc.cells
 have hln := hsrc.len w
 rcases Nat.eq_zero_or_pos ys.length with h0 | h0
 ·have hn0 : news = [] := List.eq_nil_of_length_eq_zero (by rw [hnl, h0]; simp)
  have hy0 : ys = [] := List.eq_nil_of_length_eq_zero h0
  subst hn0; subst hy0
  simp only [List.length_nil] at hfc hln hmin
  have hrun : (execOp a.eval o).run P w = .ok (.value (.int .i64 0)) w := by
   cases ad <;> simp [execOp, ho, resolve, invoke, builtin, hxx, Builtin.copy_, run_underlying ((X.get hT).sl hd), hln, hmin, (X.get hE).run_size, hfc, storeCells, goInt]
  rw [hrun]
  refine hK _ g _ (Ev.refl g _) (h2.congr fun j => ?_) h3 (.k _)
  rw [tset_head hq]
  simp only [aget_cons]
  split
  ·rename_i e; subst e
   rw [show splice es off [] = es by simp [splice]]; exact hi
  ·rfl
 ·cases ao with
  | none => have := (buf_none hB).1; subst this; rw [List.length_nil] at hle; omega
  | some b =>
   have hbl := (buf_le hB).1
   have had := e4 (.inl (by omega))
   subst had
   obtain ⟨k1, k2, k3, k4⟩ := h2.setW h3 (k := off) (ys := ys) (us := news) hi e1 hle (fun e he => ⟨hys e he, hone2 e he⟩) hnl hrep2 hsrc.one P
   have hst := run_storeCells_cells (P := P) b (off * ei.size) news 0 w (by simpa using fun j hj => (k1 j hj).1) (by simpa using fun j hj => (k1 j hj).2) hsrc.one
   simp only [Nat.add_zero] at hst
   have hrun : (execOp a.eval o).run P w = .ok (.value (.int .i64 (ys.length : Int))) (w.setCells b (off * ei.size) news) := by
    simp [execOp, ho, resolve, invoke, builtin, hxx, Builtin.copy_, run_underlying ((X.get hT).sl hd), hln, hmin, (X.get hE).run_size, hfc, hst, goInt]
   rw [hrun]
   exact hK _ g _ k2 (by rw [tset_head hq]; exact k3) k4 (.k _)
theorem SrcOk.sl {sz Tx e : Nat} {y : Operand} {t : Option Nat} {ys : List V} (X : TOk P) {xi : TI} (hy : evo env y = some (.s t ys)) (hX : aget X.tab Tx = some xi) (hdx : xi.d = .sl e) (hys : ∀ e ∈ ys, e.cells.length = sz) : SrcOk P sz Tx y env ys [] :=
 fun _F _g _a _w _mem h1 _h2 _h4 => rep_src ((X.get hX).sl hdx) (h1 _ hy) hys
theorem SrcOk.nil {sz Tx e : Nat} {y : Operand} (X : TOk P) {xi : TI} (hy : evo env y = some .nil) (hX : aget X.tab Tx = some xi) (hdx : xi.d = .sl e) : SrcOk P sz Tx y env [] [] :=
 fun F g a w mem h1 h2 h4 => ⟨[], rep_src_nil ((X.get hX).sl hdx) (h1 _ hy), by simp, by simp, by simp⟩
theorem SrcOk.buf {sz Tx e E j gen off n : Nat} {y : Operand} {es ys : List V} (X : TOk P) {xi : TI} (hy : evo env y = some (.w j gen sz off n)) (hX : aget X.tab Tx = some xi) (hdx : xi.d = .sl e) (hcs : (es.drop off).take n = ys) (hl : off + n ≤ es.length) : SrcOk P sz Tx y env ys [(j, some (.w E sz gen es), none)] := by
 intro F g a w mem h1 h2 h4
 have hi := h4 _ _ _ mem_one
 have hrep := h1 _ hy
 obtain ⟨ao, c, ad, e1, hB, hxx, e3, e4⟩ := rep_w h2 hi hrep
 have hes : ∀ e ∈ es, e.cells.length = sz := fun e he => (hB.cells e he).1
 have hmem : ∀ e ∈ ys, e ∈ es := fun e hm => List.mem_of_mem_drop (List.mem_of_mem_take (hcs ▸ hm))
 have hlen : ys.length = n := by rw [← hcs]; simp; omega
 have hfy := flat_len fun e he => hes e (hmem e he)
 rcases Nat.eq_zero_or_pos n with h0 | h0
 ·subst h0
  have hy0 : ys = [] := List.eq_nil_of_length_eq_zero hlen
  subst hy0
  refine ⟨[], ?_, by simp, by simp, by simp⟩
  rw [hxx]
  exact ⟨.inl ⟨_, (X.get hX).sl hdx⟩, fun _ => rfl, by cases ad with | none => exact run_firstCells_none w sz 0 0 _ | some q => exact run_firstCells_some w sz 0 q 0 _ [] (by simp) (by simp), by cases ad with | none => exact run_firstCells_none w.drew sz 0 0 _ | some q => exact run_firstCells_some w.drew sz 0 q 0 _ [] (by simp) (by simp), by simp, by simp⟩
 ·cases ao with
  | none => have := (buf_none hB).1; subst this; rw [List.length_nil] at hl; omega
  | some b =>
   have had := e4 (.inl (by omega))
   subst had
   obtain ⟨xs, hown, hrp⟩ := hB.own
   have hxs : xs.length = es.length * sz := hown.1
   have hfl := flat_len hes
   have hle : off * sz + ys.length * sz ≤ xs.length := by rw [hlen, hxs, ← Nat.add_mul]; exact Nat.mul_le_mul_right _ hl
   let news := (xs.drop (off * sz)).take (ys.length * sz)
   have hnl : news.length = ys.length * sz := by simp only [news, List.length_take, List.length_drop]; omega
   have hng : ∀ j, j < ys.length * sz → news[j]? = xs[off * sz + j]? := fun j hj => by simp only [news]; rw [List.getElem?_take, if_pos hj, List.getElem?_drop]
   have hfg : ∀ j u, (ys.flatMap V.cells)[j]? = some u → (es.flatMap V.cells)[off * sz + j]? = some u := fun j u hj => by
    subst hcs
    refine flat_cut off (off + n) hes ?_
    rw [Nat.add_sub_cancel_left]; exact hj
   refine ⟨news, ?_, fun e he => (hB.cells e (hmem e he)).2, by rw [hfy, hnl], fun j u z hj hz => ?_⟩
   ·rw [hxx]
    simp only [Option.map_some]
    rw [hlen]
    refine Src.ofSlice w ((X.get hX).sl hdx) _ n _ _ (by rw [hnl, hlen]) (fun j u hj => ?_) (fun u hu => ?_)
    ·have hjl := (List.getElem?_eq_some_iff.1 hj).1
     rw [hng j (by omega)] at hj
     rw [Addr.add_lit]
     have hjx := (List.getElem?_eq_some_iff.1 hj).1
     rw [own_cell hown hjx, ← hj, List.getElem?_eq_getElem hjx]
    ·obtain ⟨j, hj⟩ := List.getElem?_of_mem hu
     have hjl := (List.getElem?_eq_some_iff.1 hj).1
     rw [hng j (by omega)] at hj
     have hjx := (List.getElem?_eq_some_iff.1 hj).1
     have hju : (es.flatMap V.cells)[off * sz + j]? = some (es.flatMap V.cells)[off * sz + j] := List.getElem?_eq_getElem (by rw [hfl]; omega)
     obtain ⟨e, he, hu2⟩ := List.mem_flatMap.1 (List.mem_of_getElem? hju)
     exact (hrp _ _ u hju hj).oneCell ((hB.cells e he).2 _ hu2)
   ·have hjl := (List.getElem?_eq_some_iff.1 hj).1
    rw [hng j (by omega)] at hz
    exact hrp _ u z (hfg j u hj) hz
end
end Lf
open Go.RowKit Rg
namespace Lf
section
variable {P : Program} {o : Oper} {env : Env}
theorem run_appZ {T Tx E ty n c k : Nat} {kd kx : IntKind} {ei : TI} (hu : P.underlying T = some (.slice E)) (hx : P.underlying Tx = some (.int kx)) (hE : TIok P E ei) (hp : 0 < ei.size) {a : Option Nat} {xs : List Value} {w : World} (hown : w.oRow 0 E ei.size (.slice (a.map fun b => ⟨b, 0, none⟩) n c) n xs) (hk : 0 < k) (hmax : n + k ≤ 140737488355328) (hb : (n + k) * ei.bytes ≤ 140737488355328) :
    ∃ v' w' news, (Builtin.append_ #[T, Tx] ty #[.slice (a.map fun b => ⟨b, 0, none⟩) n c, .int kd (k : Int)]).run P w = .ok v' w' ∧ w'.oRow 0 E ei.size v' (n + k) (xs ++ news) ∧ w.grownBy w' (Value.ownBlock (.slice (a.map fun b => ⟨b, 0, none⟩) n c)) ∧ AppR w w' a n c v' k ∧
      (∀ (j : Nat) x, news[j]? = some x → ∃ zz, ei.zero[j % ei.size]? = some zz ∧ zz.is x = true) ∧ (∀ u ∈ news, u.oneCell' = true) := by
  obtain ⟨i, hi, hsz, hby, z, hz, hzl, hzs, hzz, _⟩ := hE.info
  rw [← hsz] at hown hzs hp ⊢
  rw [← hby] at hb
  have h63 : n + k ≤ maxLen := by simp only [maxLen]; omega
  have hw : IntKind.i64.wrap (k : Int) = (k : Int) := wrap_i64 (by omega)
  have h2 : k * i.bytes ≤ (n + k) * i.bytes := Nat.mul_le_mul_right _ (by omega)
  have h4 : ¬ (281474976710656 < (k : Int) * (i.bytes : Int)) := by
    have : (k : Int) * (i.bytes : Int) = ((k * i.bytes : Nat) : Int) := by rw [Int.natCast_mul]
    rw [this]; omega
  have h5 : ¬ ((k : Int) < 0) := by omega
  have hks : ¬ (k * i.size = 0) := by have := Nat.mul_pos hk hp; omega
  have hks2 : ¬ (k = 0 ∨ i.size = 0) := by omega
  let news : List Value := (Builtin.zeroCells z.cells k).toList
  have hnl : news.length = k * i.size := by simp [news, size_zeroCells, hzs]
  have hng : ∀ (j : Nat) x, news[j]? = some x → ∃ zz, ei.zero[j % i.size]? = some zz ∧ zz.is x = true := fun j x hj => by
    have hjl := (List.getElem?_eq_some_iff.1 hj).1
    have hm : j % i.size < i.size := Nat.mod_lt _ hp
    have hzj : ei.zero[j % i.size]? = some (ei.zero[j % i.size]'(by rw [hzl, hzs]; exact hm)) := List.getElem?_eq_getElem _
    obtain ⟨y, hy, his⟩ := hzz _ _ hzj
    refine ⟨_, hzj, ?_⟩
    have : x = y := by
      simp only [news, Builtin.zeroCells, Array.toList_map, Array.toList_range, List.getElem?_map, hzs] at hj
      rw [List.getElem?_range (by rw [← hnl]; exact hjl)] at hj
      simp only [Option.map_some, Option.some.injEq] at hj
      rw [← hj]
      have hys : z.cells[j % i.size]? = some y := by simpa using hy
      rw [getElem!_def, hys]
    rw [this]; exact his
  have hone : ∀ u ∈ news, u.oneCell' = true := fun u hu => by
    obtain ⟨j, hj⟩ := List.getElem?_of_mem hu
    obtain ⟨zz, _, his⟩ := hng j u hj
    exact (Z.rep (w := w) (g := ⟨fun _ _ => True, fun _ => none, fun _ => none⟩) his).oneCell (Z.one zz)
  have hlen : (xs ++ news).length = (n + k) * i.size := by rw [List.length_append, hown.1, hnl, Nat.add_mul]
  have grown : ∀ (old : Nat) (row : Option Nat), old < n + k → ∀ rest : Array Value, rest.size = (grownCap w (n + k) old E - (n + k)) * i.size →
      (w.drew.alloc (.cells ((xs ++ news).toArray ++ rest) E)).oRow 0 E i.size
        (.slice (some ⟨w.heap.size, 0, none⟩) (n + k) (grownCap w (n + k) old E)) (n + k) (xs ++ news) ∧
      w.grownBy (w.drew.alloc (.cells ((xs ++ news).toArray ++ rest) E)) row := by
    intro old row ho rest hrest
    have hge := grownCap_ge w (n + k) old E
    have hcm : grownCap w (n + k) old E ≤ maxLen := grownCap_le_maxLen w (n + k) old E h63
    refine ⟨⟨hlen, .inr ⟨w.heap.size, _, _, _, rfl, Nat.zero_le _, heap_alloc_new w.drew _, hge, hcm, ?_, ?_, .inl rfl⟩⟩, ⟨rfl, rfl, rfl, by simp, fun q hq _ => heap_alloc_old w.drew _ hq⟩⟩
    · simp only [Array.size_append, List.size_toArray, hrest, hlen, ← Nat.add_mul]
      congr 1
      omega
    · simp only [Array.toList_append]
      rw [← hlen]
      exact List.take_left
  have hnew : ∀ (rest : Array Value), ∀ q, q < w.heap.size → (w.drew.alloc (.cells ((xs ++ news).toArray ++ rest) E)).heap[q]? = w.heap[q]? := fun rest q hq => heap_alloc_old w.drew _ hq
  have growr : ∀ (base : Option Addr) (sCap : Nat), sCap < n + k → (Builtin.firstCells i.size n (.slice base n sCap)).run P w.drew = .ok xs.toArray w.drew →
      (Builtin.append_ #[T, Tx] ty #[.slice base n sCap, .int kd (k : Int)]).run P w = .ok (.slice (some ⟨w.heap.size, 0, none⟩) (n + k) (grownCap w (n + k) sCap E)) (w.drew.alloc (.cells ((xs ++ news).toArray ++ Builtin.zeroCells z.cells (grownCap w (n + k) sCap E - (n + k))) E)) := by
    intro base sCap hlt hfc
    have hroom : ¬ (n + k ≤ sCap) := by omega
    have hfit := growslice_fits (old := sCap) (need := n + k) hlt hb
    have h63' : ¬ (9223372036854775807 < (n : Int) + (k : Int)) := by omega
    have h48' : ¬ (281474976710656 < Builtin.nextslicecap (n + k) sCap * i.bytes) := by omega
    simp [Builtin.append_, run_underlying hu, run_underlying hx, sizeOf, typeInfo, zeroValue, hi, hz, asInt, asIntOf, hw, h4, h5, hroom, h63', h48', Question.forced, hfc, newRow, grownCap]
    rw [if_neg hks]
    congr 2
    congr 1
    apply Array.ext'
    simp [news, List.append_assoc]
  rcases hown.2 with ⟨hv, hn0⟩ | ⟨g, cap, cur, fz, hv, hbg, hg, hnc, hcm, hcs, htake, hfz⟩
  · subst hn0
    have ha : a = none := by cases a with | none => rfl | some b => simp at hv
    subst ha
    have hc0 : c = 0 := by simpa using hv
    subst hc0
    have hx0 : xs = [] := List.eq_nil_of_length_eq_zero (by simpa using hown.1)
    have hr := growr none 0 (by omega) (by subst hx0; simp [Builtin.firstCells])
    obtain ⟨g1, g2⟩ := grown 0 (Value.ownBlock (.slice none 0 0)) (by omega) (Builtin.zeroCells z.cells (grownCap w (0 + k) 0 E - (0 + k))) (by simp [size_zeroCells, hzs])
    exact ⟨_, _, news, hr, g1, g2, .inr ⟨hk, _, rfl, by simp, hnew _⟩, hng, hone⟩
  · have ha : a = some g ∧ cap = c := by
      cases a with
      | none => simp at hv
      | some b => simp at hv; exact ⟨by rw [hv.1], hv.2.symm⟩
    obtain ⟨rfl, rfl⟩ := ha
    rcases Nat.lt_or_ge cap (n + k) with hroom | hroom
    · have hr := growr (some ⟨g, 0, none⟩) cap hroom (run_firstCells_some w.drew i.size n ⟨g, 0, none⟩ n cap xs hown.1 (fun j u hj => by simpa using oRow_cells hown (g := g) rfl j u hj))
      obtain ⟨g1, g2⟩ := grown cap (Value.ownBlock (.slice (some ⟨g, 0, none⟩) n cap)) hroom (Builtin.zeroCells z.cells (grownCap w (n + k) cap E - (n + k))) (by simp [size_zeroCells, hzs])
      exact ⟨_, _, news, hr, g1, g2, .inr ⟨by omega, _, rfl, by simp, hnew _⟩, hng, hone⟩
    · have hfit : n * i.size + news.length ≤ cur.size := by rw [hnl, hcs, ← Nat.add_mul]; exact Nat.mul_le_mul_right _ hroom
      have hcell : ∀ j, j < news.length → (w.cell? ⟨g, n * i.size + j, none⟩).isSome = true := fun j hj => by
        rw [cell_of_row w g _ cur E fz hg]
        simp; omega
      have hfro : ∀ j, j < news.length → w.frozen? ⟨g, n * i.size + j, none⟩ = false := fun j hj => frozen_oRow hg (hfz.imp id And.left) (by omega)
      have hw' : w.setCells g (n * i.size) news = w.setRow g (cur.toList.take (n * i.size) ++ news ++ cur.toList.drop (n * i.size + news.length)).toArray := by
        have r1 := Lf.run_storeCells_free (P := P) g (n * i.size) E fz news 0 cur w hg (hfz.imp id And.left) (by simpa using hfit) hone
        have r2 := run_storeCells_cells (P := P) g (n * i.size) news 0 w (fun j hj => by simpa using hcell j hj) (fun j hj => by simpa using hfro j hj) hone
        rw [r1] at r2
        simp only [Nat.add_zero] at r2
        exact ((Result.ok.inj r2).2).symm
      have hst := run_storeCells_cells (P := P) g (n * i.size) news 0 w (fun j hj => by simpa using hcell j hj) (fun j hj => by simpa using hfro j hj) hone
      simp only [Nat.add_zero] at hst
      have hr : (Builtin.append_ #[T, Tx] ty #[.slice (some ⟨g, 0, none⟩) n cap, .int kd (k : Int)]).run P w = .ok (.slice (some ⟨g, 0, none⟩) (n + k) cap) (w.setCells g (n * i.size) news) := by
        simp [Builtin.append_, run_underlying hu, run_underlying hx, sizeOf, typeInfo, zeroValue, hi, hz, asInt, asIntOf, hw, h4, h5, hroom, Addr.add_lit]
        rw [if_neg hks, show (Builtin.zeroCells z.cells k).toList = news from rfl, hst]
        rfl
      rw [hw'] at hr
      refine ⟨_, _, news, hr, ⟨hlen, .inr ⟨g, cap, _, _, rfl, hbg, setRow_heap w g cur _ E _ hg, hroom, hcm, ?_, ?_, hfz.imp id fun h => ⟨?_, h.2⟩⟩⟩, ⟨rfl, rfl, rfl, by simp, fun q _ hq => setRow_other w g q _ (fun e => hq (by simp [Value.ownBlock, e]))⟩, .inl rfl, hng, hone⟩
      · simp only [List.size_toArray, List.length_append, List.length_take, List.length_drop, Array.length_toList]
        omega
      · rw [htake, ← hlen]
        exact List.take_left
      · simp only [List.size_toArray, List.length_append, List.length_take, List.length_drop, Array.length_toList]
        omega
theorem flat_rep {zv : V} {sz k j : Nat} {u : V} (hz : zv.cells.length = sz) (hp : 0 < sz) (h : ((List.replicate k zv).flatMap V.cells)[j]? = some u) : zv.cells[j % sz]? = some u := by
 obtain ⟨e, he, hu⟩ := flat_split hp (fun e he => by rw [List.eq_of_mem_replicate he]; exact hz) h
 rw [List.eq_of_mem_replicate (List.mem_of_getElem? he)] at hu
 exact hu
theorem Does.appMakeW {T Tx E i n k sz gen : Nat} {kd kx : IntKind} {x y : Operand} {z : Int} {es : List V} {zv : V} (X : TOk P) {ti xi ei : TI} (ho : o.op = .call { callee := .builtin .append, args := #[x, y], argTypes := #[T, Tx] }) (hx : evo env x = some (.w i gen sz 0 n)) (hy : evo env y = some (.k (.int kd z))) (hz : z = ((k : Nat) : Int)) (hT : aget X.tab T = some ti) (hd : ti.d = .sl E) (hX : aget X.tab Tx = some xi) (hdx : xi.d = .int kx) (hE : aget X.tab E = some ei) (hsz : ei.size = sz)
  (hn : es.length = n) (hk : 0 < k) (hmax : n + k ≤ 140737488355328) (hb : (n + k) * ei.bytes ≤ 140737488355328) (hzv : zv.cells = ei.zero.map Z.v) : Does P o env (.w i (gen + 1) sz 0 (n + k)) [(i, some (.w E sz gen es), some (.w E sz (gen + 1) (es ++ List.replicate k zv)))] := by
 subst hz; subst hsz; subst hn
 refine ⟨fun F g a w mem h1 h2 h3 h4 _ K Q hK => ?_⟩
 have hi := h4 _ _ _ mem_one
 have hrx := h1 x (by simp [ho, Op.operands, Call.operands]) _ hx
 have hry := rep_k (h1 y (by simp [ho, Op.operands, Call.operands]) _ hy)
 obtain ⟨ao, c, ad, e1, hB, hxx, e3, e4⟩ := rep_w h2 hi hrx
 have had := e4 (.inr rfl)
 simp only [Nat.zero_mul] at had
 subst had
 rw [Nat.sub_zero] at hxx
 obtain ⟨xs, hown, hrep⟩ := hB.own
 obtain ⟨v', w', news, hrun, hown', hg, hv, hnz, hone⟩ := run_appZ (P := P) (ty := o.type) (kd := kd) ((X.get hT).sl hd) ((X.get hX).int hdx) (X.get hE) hB.pos hown hk hmax hb
 obtain ⟨_, _, _, _, z0, _, hzl, hzs, _⟩ := (X.get hE).info
 have hzc : zv.cells.length = ei.size := by rw [hzv, List.length_map, hzl, hzs]
 have hcl : ∀ e ∈ es ++ List.replicate k zv, e.cells.length = ei.size ∧ ∀ u ∈ e.cells, u.one = true := fun e he => by
  rcases List.mem_append.1 he with he | he
  ·exact hB.cells e he
  ·rw [List.eq_of_mem_replicate he]
   refine ⟨hzc, fun u hu => ?_⟩
   rw [hzv] at hu
   obtain ⟨zz, _, rfl⟩ := List.mem_map.1 hu
   exact Z.one zz
 have hfl := flat_len fun e he => (hB.cells e he).1
 obtain ⟨g', a', c', rfl, k1, k2, k3, k4⟩ := h2.growW h3 (n := es.length) (m := k) (es' := es ++ List.replicate k zv) (xs := xs) (news := news) hi e1 (by simp) hcl hown' hg (fun g' he j u x hj hx' => by
  rw [List.flatMap_append] at hj
  rcases Nat.lt_or_ge j xs.length with hlt | hge
  ·rw [List.getElem?_append_left (by rw [hfl, ← hown.1]; exact hlt)] at hj
   rw [List.getElem?_append_left hlt] at hx'
   exact (hrep j u x hj hx').mono he.bare
  ·rw [List.getElem?_append_right (by rw [hfl, ← hown.1]; exact hge), hfl, ← hown.1] at hj
   rw [List.getElem?_append_right hge] at hx'
   obtain ⟨zz, hz1, hz2⟩ := hnz _ _ hx'
   have hu := flat_rep hzc hB.pos hj
   rw [hzv, List.getElem?_map, hz1] at hu
   cases hu
   exact Z.rep hz2) hv
 unfold Oper.wp
 have hrun' : (execOp a.eval o).run P w = .ok (.value (.slice (Option.map (fun b => ⟨b, 0, none⟩) a') (es.length + k) c')) w' := by
  simp [execOp, ho, resolve, invoke, builtin, hxx, hry, hrun]
 rw [hrun']
 refine hK _ g' w' k2 k3 k4 (.w ⟨a', gen + 1, c', k1, Nat.le_refl _, fun _ => ⟨?_, by omega, fun _ => by simp⟩⟩)
 obtain ⟨a2, c2, q1, q2⟩ := k3.buf (i := i) (aget_self _ _ _)
 rw [k1] at q1; cases q1
 have := (buf_le q2).1
 simp at this; omega
section
variable {F : Fr0} {N : Nat} {Q : LQ} {mem : Mem}
theorem LC.nilbuf {c : Code} {cs : List V} (i j r E sz : Nat) (hi : aget mem i = some (.b cs)) (hj : cs[j]? = some .nil) (hr : aget mem r = none) (hne : r ≠ i) (hp : Nat.blt 0 sz = true) (h : LC P F N c Q env ((i, .b (cs.set j (.w r 0 sz 0 0))) :: (r, .w E sz 0 []) :: mem)) : LC P F N c Q env mem := ⟨fun F0 hx g a w hrel => by
 have hown0 : w.oRow 0 E sz (.slice (Option.map (fun b => (⟨b, 0, none⟩ : Addr)) none) 0 0) 0 [] := oRow_nil w 0 E sz
 have hgi : (g.addRow r (none, 0, 0)).rw r = some (none, 0, 0) := by simp [Gh.addRow]
 obtain ⟨he, h2, h3⟩ := hrel.mem.nilRow hrel.kept (m := .w E sz 0 []) hr (.w hgi ⟨Nat.le_of_ble_eq_true hp, by simp, ⟨_, hown0, by simp⟩, fun _ h => by cases h⟩) fun b o ⟨l, c, hp⟩ => by rw [hgi] at hp; cases hp
 have hi2 : aget ((r, M.w E sz 0 []) :: mem) i = some (.b cs) := by rw [aget_ne hne]; exact hi
 obtain ⟨b, off, hb, hlt, hB⟩ := h2.box hi2
 have hjl := (List.getElem?_eq_some_iff.1 hj).1
 have hob : ObjAt (g.addRow r (none, 0, 0)) w i (.b (cs.set j (.w r 0 sz 0 0))) := .b hb hlt ⟨fun u hu => by
  rcases List.mem_or_eq_of_mem_set hu with hu | rfl
  ·exact hB.one u hu
  ·rfl, fun k u hk => by
  rw [List.getElem?_set] at hk
  by_cases e : j = k
  ·subst e
   rw [if_pos rfl, if_pos hjl] at hk
   cases hk
   obtain ⟨a1, a2, x, a3, a4⟩ := hB.at_ j .nil hj
   cases a4
   exact ⟨a1, a2, _, a3, .w ⟨none, 0, 0, hgi, Nat.le_refl _, fun _ => ⟨Nat.le_refl _, rfl, fun _ => rfl⟩⟩⟩
  ·rw [if_neg e] at hk
   exact hB.at_ k u hk⟩
 obtain ⟨k1, k2⟩ := h2.step h3 (i := i) (Ev.refl _ w) rfl rfl rfl (fun _ _ _ _ => ⟨rfl, rfl, fun hs => hs⟩) (fun _ _ _ => rfl) (fun _ _ => rfl) (fun _ _ => rfl) hob (fun b' o hp' => .inl ⟨_, hi2, by
  obtain ⟨off', q1, q2, q3⟩ := hp'
  exact ⟨off', q1, q2, by simpa using q3⟩⟩) h2.fut
 exact h.go F0 hx _ a w ⟨fun t' v hv => by obtain ⟨x, h1, h4⟩ := hrel.env t' v hv; exact ⟨x, h1, h4.mono he⟩, k1, k2, hrel.defers, hrel.size, hrel.big⟩⟩
theorem RelM.frzW {g : Gh} {w : World} (h2 : RelM F g mem w) (h3 : Kept F g w) {r E sz gen : Nat} {es : List V} (hr : aget mem r = some (.w E sz gen es)) :
  ∃ g', Ev g w g' w ∧ RelM F g' ((r, .x) :: mem) w ∧ Kept F g' w ∧ ∀ off n x, off + n ≤ es.length → Rep w g (.w r gen sz off n) x → Rep w g' (.s none ((es.drop off).take n)) x := by
 obtain ⟨a, c, hrw, hB⟩ := h2.buf hr
 cases a with
 | none =>
  obtain ⟨h0, hc0⟩ := buf_none hB
  subst h0; subst hc0
  obtain ⟨k1, k2⟩ := h2.step h3 (i := r) (m' := .x) (Ev.refl g w) rfl rfl rfl (fun _ _ _ _ => ⟨rfl, rfl, fun h => h⟩) (fun _ _ _ => rfl) (fun _ _ => rfl) (fun _ _ => rfl) .x (fun _ _ hp => hp.elim) h2.fut
  refine ⟨g, Ev.refl g w, k1, k2, fun off n x hn hx => ?_⟩
  simp at hn
  obtain ⟨rfl, rfl⟩ := hn
  obtain ⟨a', c', ad, e1, _, rfl, _, e4⟩ := rep_w h2 hr hx
  rw [hrw] at e1; cases e1
  have := e4 (.inr rfl)
  subst this
  exact .s0 fun _ h => by cases h
 | some b =>
  obtain ⟨hev, k1, k2⟩ := h2.frz h3 (i := r) (b := b) (off := 0) (n := es.length * sz) hr fun o _ _ => ⟨_, _, hrw⟩
  refine ⟨_, hev, k1, k2, fun off n x hn hx => ?_⟩
  obtain ⟨a', c', ad, e1, _, rfl, e3, e4⟩ := rep_w h2 hr hx
  rw [hrw] at e1; cases e1
  obtain ⟨xs, hown, hrep⟩ := hB.own
  have hes : ∀ e ∈ es, e.cells.length = sz := fun e he => (hB.cells e he).1
  have hcm := buf_le hB
  have hlen : ((es.drop off).take n).length = n := by simp; omega
  rcases Nat.lt_or_ge off c with hoc | hoc
  ·have had := e4 (.inl hoc)
   subst had
   have hin : ∀ (j : Nat) u, (((es.drop off).take n).flatMap V.cells)[j]? = some u → (es.flatMap V.cells)[off * sz + j]? = some u := fun j u hj => by
    refine flat_cut off (off + n) hes ?_
    rw [Nat.add_sub_cancel_left]; exact hj
   simp only [Option.map_some]
   generalize hq : (es.drop off).take n = es' at *
   subst hlen
   refine .s (size := sz) (fun j => xs.getD (off * sz + j) undef) (by omega) (by omega) hB.pos (fun e he => hB.cells e (List.mem_of_mem_drop (List.mem_of_mem_take (hq ▸ he)))) (fun j u hj => ?_) (fun j u hj => ?_) fun _ h => by cases h
   ·have hjc := hin j u hj
    have hjl := (List.getElem?_eq_some_iff.1 hjc).1
    rw [flat_len hes] at hjl
    have hjl2 : off * sz + j < xs.length := by rw [hown.1]; exact hjl
    refine ⟨hB.lt rfl, .inr ⟨rfl, Nat.zero_le _, by omega⟩, ?_⟩
    rw [own_cell hown hjl2, List.getD_eq_getElem?_getD, List.getElem?_eq_getElem hjl2]
    rfl
   ·have hjc := hin j u hj
    have hjl := (List.getElem?_eq_some_iff.1 hjc).1
    rw [flat_len hes] at hjl
    have hjl2 : off * sz + j < xs.length := by rw [hown.1]; exact hjl
    rw [List.getD_eq_getElem?_getD, List.getElem?_eq_getElem hjl2]
    exact (hrep _ u _ hjc (List.getElem?_eq_getElem hjl2)).mono hev.bare
  ·have hn0 : n = 0 := by omega
   subst hn0
   have hco : c - off = 0 := by omega
   rw [List.take_zero, hco]
   cases ad with
   | none => exact .s0 fun _ h => by cases h
   | some q => exact .se q fun _ h => by cases h
theorem LC.frzbuf {c : Code} {cs es es' : List V} {gen off n E sz : Nat} (i j r : Nat) (hi : aget mem i = some (.b cs)) (hj : cs[j]? = some (.w r gen sz off n)) (hr : aget mem r = some (.w E sz gen es)) (hne : r ≠ i) (hn : off + n ≤ es.length) (he : (es.drop off).take n = es') (h : LC P F N c Q env ((i, .b (cs.set j (.s none es'))) :: (r, .x) :: mem)) : LC P F N c Q env mem := ⟨fun F0 hx g a w hrel => by
 subst he
 obtain ⟨g', hev, h2, h3, hrp⟩ := hrel.mem.frzW hrel.kept hr
 have hi2 : aget ((r, M.x) :: mem) i = some (.b cs) := by rw [aget_ne hne]; exact hi
 obtain ⟨b0, off0, hb0, _, hB0⟩ := hrel.mem.box hi
 obtain ⟨b, bo, hb, hlt, hB⟩ := h2.box hi2
 have hb1 := hev.bx _ _ hb0
 rw [hb] at hb1; cases hb1
 have hjl := (List.getElem?_eq_some_iff.1 hj).1
 have hob : ObjAt g' w i (.b (cs.set j (.s none ((es.drop off).take n)))) := .b hb hlt ⟨fun u hu => by
  rcases List.mem_or_eq_of_mem_set hu with hu | rfl
  ·exact hB.one u hu
  ·rfl, fun k u hk => by
  rw [List.getElem?_set] at hk
  by_cases e : j = k
  ·subst e
   rw [if_pos rfl, if_pos hjl] at hk
   cases hk
   obtain ⟨a1, a2, x, a3, _⟩ := hB.at_ j _ hj
   obtain ⟨_, _, x', b3, b4⟩ := hB0.at_ j _ hj
   rw [a3] at b3; cases b3
   exact ⟨a1, a2, _, a3, hrp off n x hn b4⟩
  ·rw [if_neg e] at hk
   exact hB.at_ k u hk⟩
 obtain ⟨k1, k2⟩ := h2.step h3 (i := i) (Ev.refl _ w) rfl rfl rfl (fun _ _ _ _ => ⟨rfl, rfl, fun hs => hs⟩) (fun _ _ _ => rfl) (fun _ _ => rfl) (fun _ _ => rfl) hob (fun b' o hp' => .inl ⟨_, hi2, by
  obtain ⟨off', q1, q2, q3⟩ := hp'
  exact ⟨off', q1, q2, by simpa using q3⟩⟩) h2.fut
 exact h.go F0 hx _ a w ⟨fun t' v hv => by obtain ⟨x, h1, h4⟩ := hrel.env t' v hv; exact ⟨x, h1, h4.mono hev⟩, k1, k2, hrel.defers, hrel.size, hrel.big⟩⟩
theorem LC.frztmp {c : Code} {es es' : List V} {gen off n E sz : Nat} (t r : Nat) (ht : aget env t = some (.w r gen sz off n)) (hr : aget mem r = some (.w E sz gen es)) (hn : off + n ≤ es.length) (he : (es.drop off).take n = es') (h : LC P F N c Q ((t, .s none es') :: env) ((r, .x) :: mem)) : LC P F N c Q env mem := ⟨fun F0 hx g a w hrel => by
 subst he
 obtain ⟨g', hev, h2, h3, hrp⟩ := hrel.mem.frzW hrel.kept hr
 refine h.go F0 hx _ a w ⟨fun t' v hv => ?_, h2, h3, hrel.defers, hrel.size, hrel.big⟩
 rw [aget_cons] at hv
 split at hv
 ·rename_i e; subst e; cases hv
  obtain ⟨x, h1, h4⟩ := hrel.env _ _ ht
  exact ⟨x, h1, hrp off n x hn h4⟩
 ·obtain ⟨x, h1, h4⟩ := hrel.env t' v hv; exact ⟨x, h1, h4.mono hev⟩⟩
end
structure BoxLit (d : Nat) : Prop where
 t : True
theorem Does.buildSliceB {T E i len : Nat} {ps : List (Nat × Operand)} {vs : List (Nat × V)} {es cs : List V} (X : TOk P) {ti ei : TI} (ho : o.op = .buildSlice T len ps.toArray) (_hb : BoxLit i) (hT : aget X.tab T = some ti) (hd : ti.d = .sl E) (hE : aget X.tab E = some ei) (hpos : Nat.blt 0 ei.size = true) (hv : evp env ps = some vs) (hde : dense 0 vs = some es)
    (hlen : Nat.beq es.length len = true) (h0 : Nat.blt 0 len = true) (hsm : Nat.ble (len * ei.size) 16777216 = true) (hs : ∀ e ∈ es, e.cells.length = ei.size) (ho1 : (es.all V.ok) = true) (hcs : es.flatMap V.cells = cs) : Does P o env (.sb i 0 len len) [(i, none, some (.b cs))] := by
  subst hcs
  refine ⟨fun F g a w mem h1 h2 h3 h4 _ K Q hK => ?_⟩
  obtain rfl := (Nat.eq_of_beq_eq_true hlen).symm
  have h0 : 0 < es.length := Nat.le_of_ble_eq_true h0
  have hp := evp_rep (w := w) (g := g) (a := a) hv (fun x hx u hu => h1 x (by simpa [ho, Op.operands] using hx) u hu)
  obtain ⟨d1, d2, d3, d4⟩ := dense_spec hp hde
  have hpos' : 0 < ei.size := Nat.le_of_ble_eq_true hpos
  have hsm' := Nat.le_of_ble_eq_true hsm
  obtain ⟨ie, hie, hse, _, z, hz, _, hzs, _⟩ := (X.get hE).info
  have hu := (X.get hT).sl hd
  have key : ∃ xs : Array Value, (execOp a.eval o).run P w = .ok (.value (.slice (some ⟨w.heap.size, 0, none⟩) es.length es.length)) (w.alloc (.cells xs E)) ∧ xs.size = es.length * ei.size ∧ (∀ e ∈ es, e.cells.length = ei.size ∧ ∀ u ∈ e.cells, u.one = true) ∧
      ∀ (j : Nat) u y, (es.flatMap V.cells)[j]? = some u → xs[j]? = some y → Rep w g.bare u y := by
    generalize hq : (ps.map fun (i, x) => (i, a.eval x)) = qs at hp d2 d3 d4
    have hone : ∀ (j : Nat) e, es[j]? = some e → ∀ u ∈ e.cells, u.one = true := fun j e hj => by
      have hjl := (List.getElem?_eq_some_iff.1 hj).1
      have hql : j < (qs.map (·.2)).length := by simp; omega
      exact (rep_cells (d4 j e _ hj (List.getElem?_eq_getElem hql)) (List.all_eq_true.1 ho1 e (List.mem_of_getElem? hj))).2.1
    have hone' : ∀ e ∈ es, e.cells.length = ei.size ∧ ∀ u ∈ e.cells, u.one = true := fun e he => by
      obtain ⟨j, hj⟩ := List.getElem?_of_mem he
      exact ⟨hs e he, hone j e hj⟩
    have hcz : ∀ v ∈ qs.map (·.2), v.cells.size = ei.size := fun v hv' => by
      obtain ⟨j, hj⟩ := List.getElem?_of_mem hv'
      have hjl := (List.getElem?_eq_some_iff.1 hj).1
      have hje : j < es.length := by simp at hjl; omega
      have hme := List.getElem_mem hje
      obtain ⟨c1, _, _⟩ := rep_cells (d4 j _ _ (List.getElem?_eq_getElem hje) hj) (List.all_eq_true.1 ho1 _ hme)
      rw [← c1, hs _ hme]
    obtain ⟨r, r1, r2, r3⟩ := Great.fill_dense hpos' (qs.map (·.2)) 0 ((Array.range (es.length * ei.size)).map (z.cells[· % z.cells.size]!)) hcz (by simp; rw [d2, ← d1]; exact Nat.le_refl _)
    rw [← d3] at r1
    refine ⟨r, ?_, by rw [r2]; simp, hone', fun j u y hj hy => ?_⟩
    · have hb := run_buildSlice (P := P) w T E es.length (ps.toArray.map fun (i, x) => (i, a.eval x)) r ie z hu hie hz (by rw [hse]; omega) (by rw [hse]; have := Nat.mul_pos h0 hpos'; omega) (by rw [hse, ops_parts, hq]; exact r1)
      simp only [execOp, ho, Sem.run_bind, hb]
      rfl
    · obtain ⟨e, he, hue⟩ := flat_split hpos' hs hj
      have hjl := (List.getElem?_eq_some_iff.1 hj).1
      rw [flat_len hs] at hjl
      rw [r3 j] at hy
      have hel := (List.getElem?_eq_some_iff.1 he).1
      have hql : j / ei.size < (qs.map (·.2)).length := by simp; omega
      rw [if_pos ⟨by omega, by simp; rw [d2, ← d1]; exact hjl⟩, Nat.sub_zero, List.getElem?_eq_getElem hql] at hy
      exact (rep_cells (d4 _ e _ he (List.getElem?_eq_getElem hql)) (List.all_eq_true.1 ho1 e (List.mem_of_getElem? he))).2.2 _ u y hue (by simpa using hy)
  obtain ⟨xs, hrun, hxs, hs', hrep⟩ := key
  obtain ⟨g', k1, k2, k3, k4⟩ := h2.newBox h3 (i := i) (T := E) (cs := es.flatMap V.cells) (h4 _ _ _ mem_one) (by rw [flat_len hs, hxs]) (fun u hu => by obtain ⟨e, he, hu⟩ := List.mem_flatMap.1 hu; exact (hs' e he).2 u hu) (fun j u x hj hx => (hrep j u x hj hx).of_bare)
  unfold Oper.wp
  rw [hrun]
  refine hK _ g' _ k2 k3 k4 ?_
  have := Rep.sb (w := w.alloc (.cells xs E)) (off := 0) (n := es.length) (cap := es.length) k1
  simpa using this
end
end Lf
open Go.RowKit Rg
namespace Lf
inductive KindsOf : List V → List IntKind → Prop
 | nil : KindsOf [] []
 | cons {k : IntKind} {z : Int} {cs : List V} {ks : List IntKind} (h : KindsOf cs ks) : KindsOf (.k (.int k z) :: cs) (k :: ks)
theorem KindsOf.maps {α : Type} {f : α → V} {k : IntKind} {g : α → Int} (hf : ∀ a, f a = .k (.int k (g a))) {cs : List V} {ks : List IntKind} (h : KindsOf cs ks) : ∀ {l : List α} {n : Nat}, l.length = n → KindsOf (l.map f ++ cs) (List.replicate n k ++ ks)
 | [], _, hn => by subst hn; exact h
 | a :: l, _, hn => by
  subst hn
  rw [List.map_cons, List.length_cons, List.replicate_succ, List.cons_append, List.cons_append, hf]
  exact .cons (KindsOf.maps hf h rfl)
theorem KindsOf.map1 {α : Type} {f : α → V} {k : IntKind} {g : α → Int} (hf : ∀ a, f a = .k (.int k (g a))) {l : List α} {n : Nat} (hn : l.length = n) : KindsOf (l.map f) (List.replicate n k) := by
 have := KindsOf.maps hf .nil hn
 rwa [List.append_nil, List.append_nil] at this
theorem KindsOf.app {a b : List V} {ks ls : List IntKind} (h : KindsOf a ks) (k : KindsOf b ls) : KindsOf (a ++ b) (ks ++ ls) := by
 induction h with
 | nil => exact k
 | cons _ ih => exact .cons ih
theorem KindsOf.spec {cs : List V} {ks : List IntKind} (h : KindsOf cs ks) : cs.length = ks.length ∧ ∀ (j : Nat) k, ks[j]? = some k → ∃ z, cs[j]? = some (.k (.int k z)) := by
 induction h with
 | nil => exact ⟨rfl, fun j k h => by simp at h⟩
 | cons _ ih =>
  refine ⟨by simp [ih.1], fun j k hj => ?_⟩
  cases j with
  | zero => simp at hj; subst hj; exact ⟨_, rfl⟩
  | succ j => simp at hj; simpa using ih.2 j k hj
def tyK (tab : Tab) (t : Nat) : Option (List IntKind) :=
 match aget tab t with
 | some ti => match ti.d with
  | .int k => cond (Nat.beq ti.size 1) (some [k]) none
  | .arr n e => match aget tab e with
   | some ei => match ei.d with
    | .int k => cond (Nat.beq ei.size 1 && Nat.beq ti.size n) (some (List.replicate n k)) none
    | _ => none
   | none => none
  | _ => none
 | none => none
def fldK (tab : Tab) : Nat → List (Nat × Nat) → Option (List IntKind)
 | _, [] => some []
 | off, (o, t) :: r => match cond (Nat.beq o off) (tyK tab t) none with
  | some ks => match fldK tab (off + ks.length) r with
   | some ks' => some (ks ++ ks')
   | none => none
  | none => none
section
variable {P : Program}
theorem part_i {T : Nat} {ti : TI} (h : TIok P T ti) (hd : ti.d.agg = false) {xs : Array Value} {off : Nat} {v : Value} (hx : xs[off]? = some v) (w : World) : (part T xs off).run P w = .ok v w := by
 simp only [part, Sem.run_bind, h.run_agg, hd, Result.andThen_ok]
 simp [hx]
theorem eqPart (X : TOk P) {t : Nat} {ks : List IntKind} (hk : tyK X.tab t = some ks) {xs ys : Array Value} {f g : Nat → Int} {off : Nat} (hx : ∀ (j : Nat) k, ks[j]? = some k → xs[off + j]? = some (.int k (f (off + j)))) (hy : ∀ (j : Nat) k, ks[j]? = some k → ys[off + j]? = some (.int k (g (off + j)))) (d : Nat) (w : World) :
  ∃ a b r, (part t xs off).run P w = .ok a w ∧ (part t ys off).run P w = .ok b w ∧ (Op.equalIn (d + 2) t a b).run P w = .ok r w ∧ (r = true ↔ ∀ j, j < ks.length → f (off + j) = g (off + j)) := by
 unfold tyK at hk
 cases ht : aget X.tab t with
 | none => simp [ht] at hk
 | some ti =>
  simp only [ht] at hk
  have hT := X.get ht
  cases hd : ti.d with
  | int k =>
   simp only [hd] at hk
   cases hb : Nat.beq ti.size 1 with
   | false => simp [hb] at hk
   | true =>
    simp only [hb, cond_true, Option.some.injEq] at hk
    subst hk
    have h1 := hx 0 k rfl
    have h2 := hy 0 k rfl
    have hag : ti.d.agg = false := by rw [hd]; rfl
    refine ⟨_, _, _, part_i hT hag h1 w, part_i hT hag h2 w, run_equalIn_int w (d + 1) t k k _ _ (hT.int hd), ?_⟩
    rw [beq_iff_eq]
    constructor
    ·intro h j hj
     have : j = 0 := by simpa using hj
     subst this; exact h
    ·intro h; exact h 0 (by simp)
  | arr n e =>
   simp only [hd] at hk
   cases he : aget X.tab e with
   | none => simp [he] at hk
   | some ei =>
    simp only [he] at hk
    cases hde : ei.d with
    | int k =>
     simp only [hde] at hk
     cases hb : (Nat.beq ei.size 1 && Nat.beq ti.size n) with
     | false => simp [hb] at hk
     | true =>
      simp only [hb, cond_true, Option.some.injEq] at hk
      subst hk
      simp only [Bool.and_eq_true] at hb
      have e1 := Nat.eq_of_beq_eq_true hb.1
      have e2 := Nat.eq_of_beq_eq_true hb.2
      have hE := X.get he
      have hag : ti.d.agg = true := by rw [hd]; rfl
      have hget : ∀ j, j < n → (List.replicate n k)[j]? = some k := fun j hj => by simp [hj]
      have hlx : off + ti.size ≤ xs.size ∧ off + ti.size ≤ ys.size ∨ n = 0 := by
       rcases Nat.eq_zero_or_pos n with h0 | h0
       ·exact .inr h0
       ·have q1 := (Array.getElem?_eq_some_iff.1 (hx (n - 1) k (hget _ (by omega)))).1
        have q2 := (Array.getElem?_eq_some_iff.1 (hy (n - 1) k (hget _ (by omega)))).1
        exact .inl ⟨by omega, by omega⟩
      have hsz : (P.info? e).map (·.size) = some 1 := by rw [hE.size, e1]
      have hxe : ∀ i, i < n → (xs.extract off (off + ti.size))[i]? = some (.int k (f (off + i))) := fun i hi => by
       rw [Array.getElem?_extract, if_pos (by rcases hlx with h | h <;> omega)]
       exact hx i k (hget i hi)
      have hye : ∀ i, i < n → (ys.extract off (off + ti.size))[i]? = some (.int k (g (off + i))) := fun i hi => by
       rw [Array.getElem?_extract, if_pos (by rcases hlx with h | h <;> omega)]
       exact hy i k (hget i hi)
      have pa : ∀ zs : Array Value, (part t zs off).run P w = .ok (.agg (zs.extract off (off + ti.size))) w := fun zs => by
       simp only [part, Sem.run_bind, hT.run_agg, hag, Result.andThen_ok]
       simp [hT.run_size]
      refine ⟨_, _, _, pa xs, pa ys, Eq'.run_equalIn (P := P) (t := t) (e := e) (n := n) (k := k) (d + 1) (fun a b w => run_equalIn_int w d e k k a b (hE.int hde)) (hT.arr hd) (hE.int hde) hsz hxe hye w, ?_⟩
      rw [List.all_eq_true]
      simp only [List.mem_range, beq_iff_eq, List.length_replicate]
    | _ => simp [hde] at hk
  | _ => simp [hd] at hk
theorem eqFlds (X : TOk P) {xs ys : Array Value} {f g : Nat → Int} (d : Nat) (w : World) : ∀ {fs : List Field} {off : Nat} {ks : List IntKind}, (∀ x ∈ fs, x.name ≠ "_") → fldK X.tab off (fs.map fun x => (x.offset, x.type)) = some ks →
  (∀ (j : Nat) k, ks[j]? = some k → xs[off + j]? = some (.int k (f (off + j)))) → (∀ (j : Nat) k, ks[j]? = some k → ys[off + j]? = some (.int k (g (off + j)))) →
  ∃ r, (Op.eqFields (d + 2) xs ys fs).run P w = .ok r w ∧ (r = true ↔ ∀ j, j < ks.length → f (off + j) = g (off + j))
 | [], off, ks, _, hk, _, _ => by simp [fldK] at hk; subst hk; exact ⟨true, rfl, by simp⟩
 | x :: fs, off, ks, hn, hk, hx, hy => by
  simp only [List.map_cons, fldK] at hk
  cases hb : Nat.beq x.offset off with
  | false => simp [hb] at hk
  | true =>
   have ho := Nat.eq_of_beq_eq_true hb
   rw [hb] at hk
   simp only [cond_true] at hk
   cases h1 : tyK X.tab x.type with
   | none => simp [h1] at hk
   | some k1 =>
    simp only [h1] at hk
    cases h2 : fldK X.tab (off + k1.length) (fs.map fun x => (x.offset, x.type)) with
    | none => simp [h2] at hk
    | some k2 =>
     simp only [h2, Option.some.injEq] at hk
     subst hk
     have g1 : ∀ (j : Nat) k, k1[j]? = some k → (k1 ++ k2)[j]? = some k := fun j k hj => by
      have := (List.getElem?_eq_some_iff.1 hj).1
      rw [List.getElem?_append_left this]; exact hj
     have g2 : ∀ (j : Nat) k, k2[j]? = some k → (k1 ++ k2)[k1.length + j]? = some k := fun j k hj => by
      rw [List.getElem?_append_right (by omega), Nat.add_sub_cancel_left]; exact hj
     obtain ⟨a, b, r, p1, p2, p3, p4⟩ := eqPart X h1 (off := off) (f := f) (g := g) (fun j k hj => hx j k (g1 j k hj)) (fun j k hj => hy j k (g1 j k hj)) d w
     obtain ⟨r2, q1, q2⟩ := eqFlds X (xs := xs) (ys := ys) (f := f) (g := g) d w (fs := fs) (off := off + k1.length) (fun y hy' => hn y (by simp [hy'])) h2 (fun j k hj => by rw [Nat.add_assoc]; exact hx _ k (g2 j k hj)) (fun j k hj => by rw [Nat.add_assoc]; exact hy _ k (g2 j k hj))
     have hne := hn x (by simp)
     rw [← ho] at p1 p2
     simp only [Op.eqFields, if_pos hne, Sem.run_bind, p1, p2, p3, Result.andThen_ok]
     cases r with
     | false =>
      refine ⟨false, rfl, ?_⟩
      simp only [Bool.false_eq_true, false_iff] at p4 ⊢
      intro h
      exact p4 fun j hj => h j (by simp; omega)
     | true =>
      have p5 := p4.1 rfl
      refine ⟨r2, ?_, q2.trans ⟨fun h j hj => ?_, fun h j hj => ?_⟩⟩
      ·simpa using q1
      ·rcases Nat.lt_or_ge j k1.length with hlt | hge
       ·exact p5 j hlt
       ·have := h (j - k1.length) (by simp at hj; omega)
        rwa [show off + k1.length + (j - k1.length) = off + j by omega] at this
      ·have := h (k1.length + j) (by simp; omega)
       rwa [← Nat.add_assoc] at this
def intOf : V → Int
 | .k (.int _ z) => z
 | _ => 0
theorem kinds_vals {w : World} {g : Gh} {cs : List V} {ks : List IntKind} {x : Value} (h : KindsOf cs ks) (hr : Rep w g (.a cs) x) : ∃ xs : Array Value, x = .agg xs ∧ ∀ (j : Nat) k, ks[j]? = some k → xs[j]? = some (.int k (intOf (cs.getD j .nil))) := by
 obtain ⟨h1, h2⟩ := h.spec
 cases hr with
 | @a _ _ vs hl _ hc =>
  refine ⟨vs, rfl, fun j k hj => ?_⟩
  obtain ⟨z, hz⟩ := h2 j k hj
  have hjl := (List.getElem?_eq_some_iff.1 hz).1
  have hv : vs[j]? = some vs[j] := Array.getElem?_eq_getElem (by omega)
  have := rep_k (hc j _ _ hz hv)
  rw [hv, this, List.getD_eq_getElem?_getD, hz]
  rfl
theorem kinds_eq {cs ds : List V} {ks : List IntKind} (h : KindsOf cs ks) (k : KindsOf ds ks) : (∀ j, j < ks.length → intOf (cs.getD (0 + j) .nil) = intOf (ds.getD (0 + j) .nil)) ↔ cs = ds := by
 obtain ⟨h1, h2⟩ := h.spec
 obtain ⟨k1, k2⟩ := k.spec
 constructor
 ·intro hh
  apply List.ext_getElem?
  intro j
  rcases Nat.lt_or_ge j ks.length with hj | hj
  ·have hk := List.getElem?_eq_getElem hj
   obtain ⟨z, hz⟩ := h2 j _ hk
   obtain ⟨y, hy⟩ := k2 j _ hk
   have := hh j hj
   rw [Nat.zero_add, List.getD_eq_getElem?_getD, List.getD_eq_getElem?_getD, hz, hy] at this
   simp only [Option.getD_some, intOf] at this
   rw [hz, hy, this]
  ·rw [List.getElem?_eq_none (by omega), List.getElem?_eq_none (by omega)]
 ·rintro rfl j _; rfl
structure EqSt (P : Program) (T : Nat) : Prop where
 held : P.stoodInHeld T = false
 guard : P.eqGuardType P.depth T = false
 names : ((P.fieldsOf T).toList.all fun f => f.name != "_") = true
variable {o : Oper} {env : Env}
theorem run_eqSt (X : TOk P) {T : Nat} {ti : TI} {fs : List (Nat × Nat)} {ks : List IntKind} (hT : aget X.tab T = some ti) (hd : ti.d = .st fs) (hks : fldK X.tab 0 fs = some ks) (hq : EqSt P T) {cs ds : List V} (h1 : KindsOf cs ks) (h2 : KindsOf ds ks) {w : World} {g : Gh} {x y : Value} (hx : Rep w g (.a cs) x) (hy : Rep w g (.a ds) y) (a b : Operand) (ops : BinOp) :
  ∃ xs ys, x = .agg xs ∧ y = .agg ys ∧ (eqGuard ops T a b x y).run P w = .ok () w ∧ (Op.equalIn 10000 T x y).run P w = .ok (@decide (cs = ds) (Classical.propDecidable _)) w := by
 obtain ⟨xs, rfl, hxs⟩ := kinds_vals h1 hx
 obtain ⟨ys, rfl, hys⟩ := kinds_vals h2 hy
 obtain ⟨gs, hu, hg⟩ := (X.get hT).st hd
 have hf : P.fieldsOf T = gs := by unfold Program.fieldsOf; rw [hu]
 refine ⟨xs, ys, rfl, rfl, run_eqGuard_agg w ops T a b xs ys hq.guard, ?_⟩
 rw [run_equalIn_struct w 9999 T xs ys (by rw [hf]; exact hu) hq.held, hf]
 have hn : ∀ x ∈ gs.toList, x.name ≠ "_" := fun x hx => by
  have := hq.names
  rw [hf, List.all_eq_true] at this
  simpa using this x hx
 obtain ⟨r, e1, e2⟩ := eqFlds X (P := P) (xs := xs) (ys := ys) (f := fun j => intOf (cs.getD j .nil)) (g := fun j => intOf (ds.getD j .nil)) 9997 w (fs := gs.toList) (off := 0) (ks := ks) hn (by rw [hg]; exact hks) (fun j k hj => by rw [Nat.zero_add]; exact hxs j k hj) (fun j k hj => by rw [Nat.zero_add]; exact hys j k hj)
 rw [e1]
 congr 1
 rw [Bool.eq_iff_iff, e2, @decide_eq_true_iff _ (Classical.propDecidable _)]
 exact kinds_eq h1 h2
theorem Does.eqSt {T Y : Nat} {x y : Operand} {cs ds : List V} {fs : List (Nat × Nat)} {ks : List IntKind} (X : TOk P) {ti : TI} (ho : o.op = .binOp .eql T x y Y) (hx : evo env x = some (.a cs)) (hy : evo env y = some (.a ds)) (hT : aget X.tab T = some ti) (hd : ti.d = .st fs) (hks : fldK X.tab 0 fs = some ks) (hq : EqSt P T) (h1 : KindsOf cs ks) (h2 : KindsOf ds ks) {r : Bool} (hr' : @decide (cs = ds) (Classical.propDecidable _) = r) : Does P o env (.k (.bool r)) [] :=
 .pure fun F g a w mem hr _ => by
  subst hr'
  obtain ⟨xs, ys, e1, e2, e3, e4⟩ := run_eqSt X hT hd hks hq h1 h2 (hr x (by simp [ho, Op.operands]) _ hx) (hr y (by simp [ho, Op.operands]) _ hy) x y .eql
  rw [e1, e2] at e3 e4
  refine ⟨_, ?_, .k _⟩
  simp only [execOp, ho, e1, e2, Sem.run_bind, e3, Result.andThen_ok, run_eql_struct, e4]
  rfl
theorem Does.neSt {T Y : Nat} {x y : Operand} {cs ds : List V} {fs : List (Nat × Nat)} {ks : List IntKind} (X : TOk P) {ti : TI} (ho : o.op = .binOp .neq T x y Y) (hx : evo env x = some (.a cs)) (hy : evo env y = some (.a ds)) (hT : aget X.tab T = some ti) (hd : ti.d = .st fs) (hks : fldK X.tab 0 fs = some ks) (hq : EqSt P T) (h1 : KindsOf cs ks) (h2 : KindsOf ds ks) {r : Bool} (hr' : @decide (¬ cs = ds) (Classical.propDecidable _) = r) : Does P o env (.k (.bool r)) [] :=
  .pure fun F g a w mem hr _ => by
    subst hr'
    obtain ⟨xs, ys, e1, e2, e3, e4⟩ := run_eqSt X hT hd hks hq h1 h2 (hr x (by simp [ho, Op.operands]) _ hx) (hr y (by simp [ho, Op.operands]) _ hy) x y .neq
    rw [e1, e2] at e3 e4
    refine ⟨.bool (!(@decide (cs = ds) (Classical.propDecidable _))), ?_, ?_⟩
    · simp only [execOp, ho, e1, e2, Sem.run_bind, e3, Result.andThen_ok, run_neq_struct, e4]
      rfl
    · have : (!(@decide (cs = ds) (Classical.propDecidable _))) = @decide (¬ cs = ds) (Classical.propDecidable _) := by
        rw [Bool.eq_iff_iff]; simp
      rw [this]
      exact .k _
end
end Lf
open Go.RowKit Rg
namespace Lf
def put {α : Type} (l : List α) (off : Nat) (m : List α) : List α := l.take off ++ m ++ l.drop (off + m.length)
theorem splice_put {α : Type} {l m : List α} {f : α → V} {off : Nat} : splice (l.map f) off (m.map f) = (put l off m).map f := by
 simp only [splice, put, List.map_append, List.map_take, List.map_drop, List.length_map]
theorem splice_lit {cs us cs' : List V} {o n : Nat} (hl : us.length = n) (he : cs.take o ++ (us ++ cs.drop (o + n)) = cs') : splice cs o us = cs' := by rw [← he, ← hl, splice, List.append_assoc]
theorem splice_nil {es : List V} {off : Nat} : splice es off [] = es := by simp [splice]
theorem set_map {α : Type} {l : List α} {f : α → V} {off : Nat} {x : α} : (l.map f).set off (f x) = (l.set off x).map f := by rw [List.map_set]
theorem cut_mapW {α : Type} {l : List α} {f : α → V} {off n : Nat} : ((l.map f).drop off).take n = ((l.drop off).take n).map f := by rw [List.map_take, List.map_drop]
theorem flat_map1 {α : Type} {f : α → V} (hf : ∀ a, (f a).cells = [f a]) {l : List α} : (l.map f).flatMap V.cells = l.map f := by
 induction l with
 | nil => rfl
 | cons a l ih => rw [List.map_cons, List.flatMap_cons, hf, ih]; rfl
theorem app_rep {α : Type} {l : List α} {f : α → V} {k : Nat} {x : α} : l.map f ++ List.replicate k (f x) = (l ++ List.replicate k x).map f := by rw [List.map_append, List.map_replicate]
section
variable {P : Program} {o : Oper} {env : Env}
theorem Does.cutWs {T E e l h i gen off n sz : Nat} {x : Operand} {lo hi : Option Operand} {es : List V} (X : TOk P) {ti ei : TI} (ho : o.op = .slice T x lo hi none) (hx : evo env x = some (.w i gen sz off n)) (hT : aget X.tab T = some ti) (hd : ti.d = .sl e) (hE : aget X.tab e = some ei) (hsz : ei.size = sz) (hlo : Bd env 0 lo l) (hhi : Bd env n hi h)
  (h1 : l ≤ h) (h2 : h ≤ n) : Does P o env (.w i gen sz (off + l) (h - l)) [(i, some (.w E sz gen es), none)] := by
 subst hsz; exact Does.cutW X ho hx hT hd hE hlo hhi h1 h2
theorem Does.cutWz {T E e l h i gen n sz : Nat} {x : Operand} {lo hi : Option Operand} {es : List V} (X : TOk P) {ti ei : TI} (ho : o.op = .slice T x lo hi none) (hx : evo env x = some (.w i gen sz 0 n)) (hT : aget X.tab T = some ti) (hd : ti.d = .sl e) (hE : aget X.tab e = some ei) (hsz : ei.size = sz) (hlo : Bd env 0 lo l) (hhi : Bd env n hi h)
  (h1 : l ≤ h) (h2 : h ≤ n) {m : Nat} (hm : h - l = m) : Does P o env (.w i gen sz l m) [(i, some (.w E sz gen es), none)] := by
 subst hm
 have := Does.cutWs (E := E) (es := es) X ho hx hT hd hE hsz hlo hhi h1 h2
 rwa [Nat.zero_add] at this
theorem Does.idxW1 {T E e k i gen off n sz : Nat} {x ix : Operand} {kd : IntKind} {z : Int} {es : List V} (X : TOk P) {ti ei : TI} (ho : o.op = .indexAddr T x ix) (hx : evo env x = some (.w i gen sz off n)) (hi : evo env ix = some (.k (.int kd z))) (hz : z = ((k : Nat) : Int)) (hT : aget X.tab T = some ti) (hd : ti.d = .sl e) (hE : aget X.tab e = some ei) (hsz : ei.size = sz) (hs1 : Nat.beq sz 1 = true) (hk : k < n) {q : Nat} (hq : off + k = q) :
  Does P o env (.pw i gen q) [(i, some (.w E sz gen es), none)] := by
 subst hsz; subst hq
 have := Does.idxW (E := E) (es := es) X ho hx hi hz hT hd hE hk
 have e1 := Nat.eq_of_beq_eq_true hs1
 rwa [show (off + k) * ei.size = off + k by rw [e1, Nat.mul_one]] at this
theorem Does.idxWm {T E e k i gen off n sz : Nat} {x ix : Operand} {kd : IntKind} {z : Int} {es : List V} (X : TOk P) {ti ei : TI} (ho : o.op = .indexAddr T x ix) (hx : evo env x = some (.w i gen sz off n)) (hi : evo env ix = some (.k (.int kd z))) (hz : z = ((k : Nat) : Int)) (hT : aget X.tab T = some ti) (hd : ti.d = .sl e) (hE : aget X.tab e = some ei) (hsz : ei.size = sz) (hk : k < n) {q : Nat} (hq : off + k = q) :
  Does P o env (.pw i gen (q * sz)) [(i, some (.w E sz gen es), none)] := by
 subst hsz; subst hq
 exact Does.idxW (E := E) (es := es) X ho hx hi hz hT hd hE hk
end
theorem cells_k {v : Value} : (V.k v).cells = [.k v] := rfl
theorem cells_a {cs : List V} : (V.a cs).cells = cs := rfl
theorem cells_uK {n : Nat} : (uK n).cells = [uK n] := rfl
theorem cells_bK {n : UInt8} : (bK n).cells = [bK n] := rfl
theorem cells_s {o : Option Nat} {es : List V} : (V.s o es).cells = [.s o es] := rfl
theorem cells_nil : V.nil.cells = [.nil] := rfl
theorem vfill_two {z a b : List V} {k : Nat} (hz : z.length = k + k) (ha : a.length = k) (hb : b.length = k) : vfill (fun i => some (i * k, k)) z [(0, .a a), (1, .a b)] = some (a ++ b) := by
 have e1 : splice z 0 a = a ++ z.drop k := by simp [splice, ha]
 have e2 : splice (a ++ z.drop k) k b = a ++ b := by
  unfold splice
  rw [List.take_append, List.take_of_length_le (by omega), ha, Nat.sub_self, List.take_zero, List.append_nil, List.drop_of_length_le (by rw [List.length_append, List.length_drop]; omega), List.append_nil]
 simp only [vfill, V.ok, V.cells, ha, hb, Nat.zero_mul, Nat.one_mul, e1, e2, hz, Nat.beq_refl, List.length_append, List.length_drop, Nat.zero_add, Nat.add_sub_cancel]
 have h1 : Nat.ble k (k + k) = true := Nat.ble_eq_true_of_le (by omega)
 have h2 : Nat.ble (k + k) (k + k) = true := Nat.ble_eq_true_of_le (Nat.le_refl _)
 simp only [h1, h2, Bool.and_self, cond_true]
theorem bare_am2 {α : Type} {f : α → V} {l m : List α} (hf : ∀ a, (f a).bare = some (f a)) : (V.a (l.map f ++ m.map f)).bare = some (.a (l.map f ++ m.map f)) := by rw [← List.map_append]; exact bare_am hf
theorem dense4 {v v' u u' t t' s s' : V} (h : v.bare = some v') (k : u.bare = some u') (l : t.bare = some t') (m : s.bare = some s') : dense 0 [(0, v), (1, u), (2, t), (3, s)] = some [v', u', t', s'] := by simp [dense, h, k, l, m]
theorem flat_a1 {x : List V} : [V.a x].flatMap V.cells = x := by simp [V.cells]
theorem flat_a2 {x y : List V} : [V.a x, V.a y].flatMap V.cells = x ++ y := by simp [V.cells]
structure LNext5 {β γ δ ε : Type} (I : Nat → β → γ → δ → ε → Env) (J : Nat → β → γ → δ → ε → Mem) (ok : Nat → β → γ → δ → ε → Prop) (μ : Nat → Nat) (i : Nat) (env : Env) (mem : Mem) : Prop where
 ex : ∃ y b c d e, ok y b c d e ∧ μ y < μ i ∧ Sub env mem (I y b c d e) (J y b c d e)
theorem LNext5.go {β γ δ ε : Type} {I : Nat → β → γ → δ → ε → Env} {J : Nat → β → γ → δ → ε → Mem} {ok : Nat → β → γ → δ → ε → Prop} {μ : Nat → Nat} {i : Nat} {env : Env} {mem : Mem} {y : Nat} {b : β} {c : γ} {d : δ} {e : ε} (he : SubE env (I y b c d e)) (hm : SubM mem (J y b c d e)) (hk : (mem.all fun x => Nat.blt x.1 1000 || (aget (J y b c d e) x.1).isSome) = true)
  (hrE : refsE (J y b c d e) (I y b c d e) = true) (hrM : refsM (J y b c d e) (J y b c d e) = true) (hok : ok y b c d e) (hlt : μ y < μ i) : LNext5 I J ok μ i env mem := ⟨y, b, c, d, e, hok, hlt, he, hm, by rw [hk, hrE, hrM]; rfl⟩
structure RoundsOf (n : Nat) : Prop where
 t : True
theorem LC.roundsM {P : Program} {F : Fr0} {N : Nat} {Q : LQ} {c : Code} {env : Env} {mem : Mem} {n : Nat} (_ : RoundsOf n) (h : LRd P F N c Q n env mem) : LC P F N (.loop c) Q env mem := LC.rounds n h
theorem LRd.go {P : Program} {F : Fr0} {N : Nat} {Q : LQ} {c : Code} {env : Env} {mem : Mem} {n m : Nat} (hn : n = m + 1) (h : LC P F N c (LThen (LRd P F N c Q m) Q) env mem) : LRd P F N c Q n env mem := by subst hn; exact h
section
variable {P : Program} {o : Oper} {env : Env}
theorem Does.buildStN {T : Nat} {ps : List (Nat × Operand)} {fs pl : List (Nat × Nat)} {vs : List (Nat × V)} {cs cs' : List V} (X : TOk P) {ti : TI} (ho : o.op = .build T ps.toArray) (hT : aget X.tab T = some ti) (hd : ti.d = .st fs) (hpl : places X.tab fs = some pl) (hv : evp env ps = some vs) (hc : vfill (fun i => pl[i]?) (ti.zero.map Z.v) vs = some cs) (hn : cs = cs') : Does P o env (.a cs') [] := by
 subst hn; exact Does.buildSt X ho hT hd hpl hv hc
theorem Does.buildStC {T : Nat} {ps : List (Nat × Operand)} {fs pl : List (Nat × Nat)} {vs : List (Nat × V)} {cs cs' : List V} (X : TOk P) {ti : TI} (ho : o.op = .build T ps.toArray) (hT : aget X.tab T = some ti) (hd : ti.d = .st fs) (hpl : places X.tab fs = some pl) (hv : evp env ps = some vs) (hc : vfill (fun i => pl[i]?) (ti.zero.map Z.v) vs = some cs) (hn : V.cv.go (fun _ => false) true cs = cs') : Does P o env (.a cs') [] := by
 subst hn
 have h := Does.buildSt X ho hT hd hpl hv hc
 refine ⟨fun F g a w mem h1 h2 h3 h4 h5 K Q hK => h.ex F g a w mem h1 h2 h3 h4 h5 K Q fun x g' w' e1 e2 e3 e4 => hK x g' w' e1 e2 e3 e4.cv⟩
theorem Does.copyNS {T Tx E : Nat} {t : Option Nat} {x y : Operand} {ys : List V} (X : TOk P) {ti ei : TI} (ho : o.op = .call { callee := .builtin .copy, args := #[x, y], argTypes := #[T, Tx] }) (hx : evo env x = some .nil) (hy : evo env y = some (.s t ys)) (hT : aget X.tab T = some ti) (hd : ti.d = .sl E) (hE : aget X.tab E = some ei) : Does P o env (.k (.int .i64 ((0 : Nat) : Int))) [] :=
 .pure fun F g a w mem h1 _ => by
  have hrx := h1 x (by simp [ho, Op.operands, Call.operands]) _ hx
  have hry := h1 y (by simp [ho, Op.operands, Call.operands]) _ hy
  have hxx : a.eval x = .slice none 0 0 := by generalize a.eval x = v at hrx; cases hrx; rfl
  obtain ⟨ad, n, c, hyy⟩ : ∃ ad n c, a.eval y = .slice ad n c := by generalize a.eval y = v at hry; cases hry <;> exact ⟨_, _, _, rfl⟩
  have hfc : (Builtin.firstCells ei.size 0 (.slice ad n c)).run P w = .ok #[] w := by
   cases ad with
   | none => simp [Builtin.firstCells]
   | some q => exact run_firstCells_some w ei.size 0 q n c [] (by simp) (by simp)
  have hmin : (if n = 0 then n else 0) = 0 := by split; assumption; rfl
  refine ⟨_, ?_, .k (.int .i64 0)⟩
  simp [execOp, ho, resolve, invoke, builtin, hxx, hyy, Builtin.copy_, run_underlying ((X.get hT).sl hd), (X.get hE).run_size, Builtin.lenOf, goInt, Nat.min_def, hmin, hfc]
theorem Does.copyNN {T Tx E : Nat} {x y : Operand} (X : TOk P) {ti ei : TI} (ho : o.op = .call { callee := .builtin .copy, args := #[x, y], argTypes := #[T, Tx] }) (hx : evo env x = some .nil) (hy : evo env y = some .nil) (hT : aget X.tab T = some ti) (hd : ti.d = .sl E) (hE : aget X.tab E = some ei) : Does P o env (.k (.int .i64 ((0 : Nat) : Int))) [] :=
 .pure fun F g a w mem h1 _ => by
  have hrx := h1 x (by simp [ho, Op.operands, Call.operands]) _ hx
  have hry := h1 y (by simp [ho, Op.operands, Call.operands]) _ hy
  have hxx : a.eval x = .slice none 0 0 := by generalize a.eval x = v at hrx; cases hrx; rfl
  have hyy : a.eval y = .slice none 0 0 := by generalize a.eval y = v at hry; cases hry; rfl
  refine ⟨_, ?_, .k (.int .i64 0)⟩
  simp [execOp, ho, resolve, invoke, builtin, hxx, hyy, Builtin.copy_, run_underlying ((X.get hT).sl hd), (X.get hE).run_size, Builtin.lenOf, Builtin.firstCells, goInt]
end
section
variable {P : Program} {F : Fr0} {N : Nat} {ops : Array Oper} {chk : List (Nat × Tch) → Bool} {K : Env → Mem → Prop} {acc : List (Nat × Tch)} {env : Env} {mem : Mem} {i d j : Nat} {o : Oper} {rs : List (Nat × Oper)} {v : V}
theorem DR.cutz {T E e l h gen n sz : Nat} {x : Operand} {lo hi : Option Operand} {es : List V} (X : TOk P) {ti ei : TI} (ho : o.op = .slice T x lo hi none) (hg : gd ops env o = some true) (hds : o.dst = some d) (hx : evo env x = some (.w j gen sz 0 n)) (hm : aget mem j = some (.w E sz gen es)) (_hes : n ≤ es.length) (hT : aget X.tab T = some ti) (hdt : ti.d = .sl e) (hE : aget X.tab e = some ei) (hsz : ei.size = sz) (hlo : Bd env 0 lo l) (hhi : Bd env n hi h)
  (h1 : l ≤ h) (h2 : h ≤ n) {m : Nat} (hn : h - l = m) (hd : Nat.blt d N = true) (hK : DR P F N ops chk K rs ((i, [(j, some (.w E sz gen es), none)]) :: acc) ((d, .w j gen sz l m) :: env) mem) : DR P F N ops chk K ((i, o) :: rs) acc env mem :=
 DR.rr hg hds (Does.cutWz X ho hx hT hdt hE hsz hlo hhi h1 h2 hn) hm hd hK
theorem DR.cuts {T E e l h gen off n sz : Nat} {x : Operand} {lo hi : Option Operand} {es : List V} (X : TOk P) {ti ei : TI} (ho : o.op = .slice T x lo hi none) (hg : gd ops env o = some true) (hds : o.dst = some d) (hx : evo env x = some (.w j gen sz off n)) (hm : aget mem j = some (.w E sz gen es)) (_hes : off + n ≤ es.length) (hT : aget X.tab T = some ti) (hdt : ti.d = .sl e) (hE : aget X.tab e = some ei) (hsz : ei.size = sz) (hlo : Bd env 0 lo l) (hhi : Bd env n hi h)
  (h1 : l ≤ h) (h2 : h ≤ n) {m : Nat} (hn : h - l = m) (hd : Nat.blt d N = true) (hK : DR P F N ops chk K rs ((i, [(j, some (.w E sz gen es), none)]) :: acc) ((d, .w j gen sz (off + l) m) :: env) mem) : DR P F N ops chk K ((i, o) :: rs) acc env mem := by
 subst hn
 exact DR.rr hg hds (Does.cutWs X ho hx hT hdt hE hsz hlo hhi h1 h2) hm hd hK
theorem DR.ldW {T E gen sz off : Nat} {x : Operand} {es cs : List V} (X : TOk P) {ti : TI} (ho : o.op = .load T x) (hg : gd ops env o = some true) (hds : o.dst = some d) (hx : evo env x = some (.pw j gen off)) (hm : aget mem j = some (.w E sz gen es)) (hT : aget X.tab T = some ti) (hp : Nat.blt 0 ti.size = true) (hfl : es.flatMap V.cells = cs) (hv : ti.part cs off = some v) (hd : Nat.blt d N = true)
  (hK : DR P F N ops chk K rs ((i, [(j, some (.w E sz gen es), none)]) :: acc) ((d, v) :: env) mem) : DR P F N ops chk K ((i, o) :: rs) acc env mem := by
 subst hfl
 exact DR.rr hg hds (Does.loadW X ho hx hT hv hp) hm hd hK
theorem DR.stW {T E gen sz off k : Nat} {x y : Operand} {es es2 : List V} {u u' : V} (X : TOk P) {ti : TI} (ho : o.op = .store T x y) (hg : gd ops env o = some true) (hds : o.dst = none) (hx : evo env x = some (.pw j gen off)) (hy : evo env y = some u) (hm : aget mem j = some (.w E sz gen es)) (hT : aget X.tab T = some ti) (hb : u.bare = some u') (hu : u'.ok = true) (hs : u'.cells.length = sz) (hts : ti.size = sz) (hoff : off = k * sz) (hk : k < es.length) (hz : es.set k u' = es2)
  (hK : DR P F N ops chk K rs ((i, [(j, some (.w E sz gen es), some (.w E sz gen es2))]) :: acc) env ((j, .w E sz gen es2) :: mem)) : DR P F N ops chk K ((i, o) :: rs) acc env mem := by
 subst hz
 exact DR.ss hg hds (Does.storeW X ho hx hy hT hb hu hs hts hoff hk) hm hK
theorem DR.mkW {T Tx E n k sz gen : Nat} {kd kx : IntKind} {x y : Operand} {z : Int} {es es2 : List V} {zv : V} (X : TOk P) {ti xi ei : TI} (ho : o.op = .call { callee := .builtin .append, args := #[x, y], argTypes := #[T, Tx] }) (hg : gd ops env o = some true) (hds : o.dst = some d) (hx : evo env x = some (.w j gen sz 0 n)) (hy : evo env y = some (.k (.int kd z))) (hm : aget mem j = some (.w E sz gen es)) (hz : z = ((k : Nat) : Int)) (hT : aget X.tab T = some ti) (hdt : ti.d = .sl E) (hX : aget X.tab Tx = some xi) (hdx : xi.d = .int kx) (hE : aget X.tab E = some ei) (hsz : ei.size = sz)
  (hn : es.length = n) (hk : 0 < k) (hmax : n + k ≤ 140737488355328) (hb : (n + k) * ei.bytes ≤ 140737488355328) (hzv : zv.cells = ei.zero.map Z.v) {n2 : Nat} (hn2 : n + k = n2) (he : es ++ List.replicate k zv = es2) (hd : Nat.blt d N = true)
  (hK : DR P F N ops chk K rs ((i, [(j, some (.w E sz gen es), some (.w E sz (gen + 1) es2))]) :: acc) ((d, .w j (gen + 1) sz 0 n2) :: env) ((j, .w E sz (gen + 1) es2) :: mem)) : DR P F N ops chk K ((i, o) :: rs) acc env mem := by
 subst he; subst hn2
 exact DR.ww hg hds (Does.appMakeW X ho hx hy hz hT hdt hX hdx hE hsz hn hk hmax hb hzv) hm hd hK
theorem DR.cpS {T Tx E Ex gen off n m sz : Nat} {x y : Operand} {t : Option Nat} {es ys es2 : List V} (X : TOk P) {ti xi ei : TI} (ho : o.op = .call { callee := .builtin .copy, args := #[x, y], argTypes := #[T, Tx] }) (hg : gd ops env o = some true) (hds : o.dst = some d) (hx : evo env x = some (.w j gen sz off n)) (hy : evo env y = some (.s t ys)) (hm : aget mem j = some (.w E sz gen es)) (hT : aget X.tab T = some ti) (hdt : ti.d = .sl E) (hE : aget X.tab E = some ei) (hsz : ei.size = sz) (hX : aget X.tab Tx = some xi) (hdx : xi.d = .sl Ex) (hys : ∀ e ∈ ys, e.cells.length = sz) (hl : ys.length = m) (hmn : m ≤ n) (hle : off + m ≤ es.length) (hz : splice es off ys = es2) (hd : Nat.blt d N = true)
  (hK : DR P F N ops chk K rs ((i, [(j, some (.w E sz gen es), some (.w E sz gen es2))]) :: acc) ((d, .k (.int .i64 (m : Int))) :: env) ((j, .w E sz gen es2) :: mem)) : DR P F N ops chk K ((i, o) :: rs) acc env mem := by
 subst hsz; subst hz
 exact DR.step hg (Does.copyW X ho hx (SrcOk.sl X hy hX hdx hys) rfl hT hdt hE hys hl hmn hle) (tpre_one hm) (by rw [hds]; exact hd) (by rw [hds]; exact hK)
theorem DR.cpN {T Tx E Ex gen off n sz : Nat} {x y : Operand} {es : List V} (X : TOk P) {ti xi ei : TI} (ho : o.op = .call { callee := .builtin .copy, args := #[x, y], argTypes := #[T, Tx] }) (hg : gd ops env o = some true) (hds : o.dst = some d) (hx : evo env x = some (.w j gen sz off n)) (hy : evo env y = some .nil) (hm : aget mem j = some (.w E sz gen es)) (hT : aget X.tab T = some ti) (hdt : ti.d = .sl E) (hE : aget X.tab E = some ei) (hsz : ei.size = sz) (hX : aget X.tab Tx = some xi) (hdx : xi.d = .sl Ex) (hle : off ≤ es.length) (hd : Nat.blt d N = true)
  (hK : DR P F N ops chk K rs ((i, [(j, some (.w E sz gen es), some (.w E sz gen es))]) :: acc) ((d, .k (.int .i64 ((0 : Nat) : Int))) :: env) ((j, .w E sz gen es) :: mem)) : DR P F N ops chk K ((i, o) :: rs) acc env mem := by
 subst hsz
 have h := Does.copyW (E := E) (i := j) (es := es) X ho hx (SrcOk.nil X hy hX hdx) rfl hT hdt hE (by simp) (m := 0) rfl (Nat.zero_le _) hle
 rw [splice_nil] at h
 exact DR.step hg h (tpre_one hm) (by rw [hds]; exact hd) (by rw [hds]; exact hK)
theorem DR.cpB {α : Type} {f : α → V} {T Tx E Ex gen off n m sz jb ob cap : Nat} {x y : Operand} {es es2 cs : List V} {l : List α} (X : TOk P) {ti xi ei : TI} (ho : o.op = .call { callee := .builtin .copy, args := #[x, y], argTypes := #[T, Tx] }) (hg : gd ops env o = some true) (hds : o.dst = some d) (hx : evo env x = some (.w j gen sz off n)) (hy : evo env y = some (.sb jb ob m cap)) (hm : aget mem j = some (.w E sz gen es)) (hb2 : aget mem jb = some (.b cs)) (hT : aget X.tab T = some ti) (hdt : ti.d = .sl E) (hE : aget X.tab E = some ei) (hsz : ei.size = sz) (hs1 : Nat.beq sz 1 = true) (hX : aget X.tab Tx = some xi) (hdx : xi.d = .sl Ex)
  (hcs : (cs.drop ob).take m = l.map f) (hf : ∀ a, (f a).cells = [f a]) (hr : ∀ a, (f a).bare = some (f a)) (hlm : l.length = m) (hbl : ob + m ≤ cs.length) (hmn : m ≤ n) (hle : off + m ≤ es.length) (hz : splice es off (l.map f) = es2) (hd : Nat.blt d N = true)
  (hK : DR P F N ops chk K rs ((i, [(j, some (.w E sz gen es), some (.w E sz gen es2)), (jb, some (.b cs), none)]) :: acc) ((d, .k (.int .i64 (m : Int))) :: env) ((j, .w E sz gen es2) :: mem)) : DR P F N ops chk K ((i, o) :: rs) acc env mem := by
 have e1 := Nat.eq_of_beq_eq_true hs1
 subst hsz; subst hz
 have hlen : (l.map f).length = m := by rw [List.length_map]; exact hlm
 refine DR.step hg (Does.copyW X ho hx (SrcOk.box X hy hX hdx e1 hcs hbl (cells1_map hf l) fun u hu => by obtain ⟨a, _, rfl⟩ := List.mem_map.1 hu; exact hr a) rfl hT hdt hE (fun e he => ?_) hlen hmn hle) (tpre_two hm hb2) (by rw [hds]; exact hd) (by rw [hds]; exact hK)
 obtain ⟨a, _, rfl⟩ := List.mem_map.1 he
 rw [hf, e1]; rfl
theorem DR.cpW {T Tx E E2 Ex gen gen2 off n m sz jb ob : Nat} {x y : Operand} {es es2 fs ys : List V} (X : TOk P) {ti xi ei : TI} (ho : o.op = .call { callee := .builtin .copy, args := #[x, y], argTypes := #[T, Tx] }) (hg : gd ops env o = some true) (hds : o.dst = some d) (hx : evo env x = some (.w j gen sz off n)) (hy : evo env y = some (.w jb gen2 sz ob m)) (hm : aget mem j = some (.w E sz gen es)) (hb2 : aget mem jb = some (.w E2 sz gen2 fs)) (hT : aget X.tab T = some ti) (hdt : ti.d = .sl E) (hE : aget X.tab E = some ei) (hsz : ei.size = sz) (hX : aget X.tab Tx = some xi) (hdx : xi.d = .sl Ex)
  (hcs : (fs.drop ob).take m = ys) (hys : ∀ e ∈ ys, e.cells.length = sz) (hbl : ob + m ≤ fs.length) (hmn : m ≤ n) (hle : off + m ≤ es.length) (hz : splice es off ys = es2) (hd : Nat.blt d N = true)
  (hK : DR P F N ops chk K rs ((i, [(j, some (.w E sz gen es), some (.w E sz gen es2)), (jb, some (.w E2 sz gen2 fs), none)]) :: acc) ((d, .k (.int .i64 (m : Int))) :: env) ((j, .w E sz gen es2) :: mem)) : DR P F N ops chk K ((i, o) :: rs) acc env mem := by
 subst hsz; subst hz
 have hlen : ys.length = m := by rw [← hcs]; simp; omega
 exact DR.step hg (Does.copyW X ho hx (SrcOk.buf X hy hX hdx hcs hbl) rfl hT hdt hE hys hlen hmn hle) (tpre_two hm hb2) (by rw [hds]; exact hd) (by rw [hds]; exact hK)
theorem DR.crk {fx E sz n : Nat} {xs : List Operand} {ts : Array Nat} {us args es : List V} (ho : o.op = .call { callee := .value (.func fx), args := xs.toArray, argTypes := ts }) (hg : gd ops env o = some true) (hds : o.dst = some d) (hx : evs env xs = some us) (hc : ∀ k, LM P fx args [] fun o m => o = .ret (.s (some k) es) ∧ m = [(k, .r E sz n)]) (hu : Fits us args) (hr : V.refs.go [] args = true) (ht : aget mem d = none) (hd : Nat.blt d N = true)
  (hK : DR P F N ops chk K rs ((i, callT [] [(d, .r E sz n)]) :: acc) ((d, .s (some d) es) :: env) ((d, .r E sz n) :: mem)) : DR P F N ops chk K ((i, o) :: rs) acc env mem :=
 DR.cm hg hds (Does.callM (hc d) ho hx hu (by rw [hr]; rfl)) ⟨ht, trivial⟩ hd hK
theorem DR.cvw {fx E gen sz off n : Nat} {xs : List Operand} {ts : Array Nat} {es es' : List V} (ho : o.op = .call { callee := .value (.func fx), args := xs.toArray, argTypes := ts }) (hg : gd ops env o = some true) (hds : o.dst = some d) (hx : evs env xs = some [.w j gen sz off n]) (hm : aget mem j = some (.w E sz gen es)) (h0 : 0 < n) (hl : off + n ≤ es.length) (hcs : (es.drop off).take n = es') (hc : LM P fx [.s none es'] [] fun o m => o = .ret v ∧ m = []) (hp : v.pure = true) (hd : Nat.blt d N = true)
  (hK : DR P F N ops chk K rs ((i, [(j, some (.w E sz gen es), none)]) :: acc) ((d, v) :: env) mem) : DR P F N ops chk K ((i, o) :: rs) acc env mem :=
 DR.rr hg hds (Does.callV [(j, .w E sz gen es)] hc ho hx (.cons (.w (E := E) (es := es) (aget_self j _ _) hl h0 hcs) .nil) hp) hm hd hK
end
end Lf
open Go.RowKit Rg
namespace Lf
theorem madeCells_get {z : Array Value} {n j : Nat} {x : Value} (h : (madeCells z n)[j]? = some x) (hz : 0 < z.size) : j < n ∧ z[j % z.size]? = some x := by
 have hj : j < n := by have := (Array.getElem?_eq_some_iff.1 h).1; rwa [size_madeCells] at this
 refine ⟨hj, ?_⟩
 have hlt := Nat.mod_lt j hz
 simp [madeCells, hj] at h
 rw [Array.getElem?_eq_getElem hlt]
 rw [← h]
 simp [hlt]
theorem rep_mapF {α : Type} {f : α → V} {x : α} {l : Nat} : List.replicate l (f x) = (List.replicate l x).map f := by rw [List.map_replicate]
section
variable {P : Program} {o : Oper} {env : Env}
theorem Does.makeW {T E i l c sz : Nat} {kl kc : IntKind} {x y : Operand} {zl zc : Int} {zv : V} (X : TOk P) {ti ei : TI} (ho : o.op = .makeSlice T x y) (hx : evo env x = some (.k (.int kl zl))) (hy : evo env y = some (.k (.int kc zc))) (hzl : zl = ((l : Nat) : Int)) (hzc : zc = ((c : Nat) : Int)) (hT : aget X.tab T = some ti) (hd : ti.d = .sl E) (hE : aget X.tab E = some ei) (hsz : ei.size = sz) (hpos : Nat.blt 0 sz = true)
    (hlc : l ≤ c) (hmax : c ≤ 140737488355328) (hb : c * ei.bytes ≤ 140737488355328) (hzv : zv.cells = ei.zero.map Z.v) {es : List V} (hes : List.replicate l zv = es) : Does P o env (.w i 0 sz 0 l) [(i, none, some (.w E sz 0 es))] := by
  subst hzl; subst hzc; subst hsz; subst hes
  refine ⟨fun F g a w mem h1 h2 h3 h4 _ K Q hK => ?_⟩
  have hi := h4 _ _ _ mem_one
  have hrx := rep_k (h1 x (by simp [ho, Op.operands]) _ hx)
  have hry := rep_k (h1 y (by simp [ho, Op.operands]) _ hy)
  obtain ⟨inf, hinf, hsz, hby, z, hz, hzl, hzs, hzz, _⟩ := (X.get hE).info
  have hpos' : 0 < ei.size := Nat.le_of_ble_eq_true hpos
  have hrun := run_make (P := P) w T E inf z ((X.get hT).sl hd) hinf hz kl kc (l : Int) (c : Int) (by omega) (by omega) (by
    rw [hby]
    have : (ei.bytes : Int) * (c : Int) = ((c * ei.bytes : Nat) : Int) := by rw [Int.natCast_mul, Int.mul_comm]
    rw [this]; omega) (by omega)
  simp only [Int.toNat_natCast, hsz] at hrun
  have hzc : zv.cells.length = ei.size := by rw [hzv, List.length_map, hzl, hzs]
  have hms : (madeCells z.cells (c * ei.size)).size = c * ei.size := size_madeCells _ _
  have hrw : (g.newR i w.heap.size 0 0 c).rw i = some (some w.heap.size, 0, c) := by simp [Gh.newR]
  have hle : l * ei.size ≤ c * ei.size := Nat.mul_le_mul_right _ hlc
  have hown : (w.alloc (.cells (madeCells z.cells (c * ei.size)) E)).oRow 0 E ei.size (.slice (some ⟨w.heap.size, 0, none⟩) l c) l ((madeCells z.cells (c * ei.size)).toList.take (l * ei.size)) :=
    ⟨by rw [List.length_take, Array.length_toList, hms]; omega, .inr ⟨w.heap.size, c, _, _, rfl, Nat.zero_le _, heap_alloc_new w _, hlc, by simp only [maxLen]; omega, hms, rfl, .inl rfl⟩⟩
  have hlen : (List.replicate l zv).length = l := List.length_replicate
  obtain ⟨e1, e2, e3⟩ := h2.newR h3 (i := i) (n := 0) (l := 0) (c := c) (m' := .w E ei.size 0 (List.replicate l zv)) (o := .cells (madeCells z.cells (c * ei.size)) E) hi (.w hrw ⟨hpos', fun e he => by
      rw [List.eq_of_mem_replicate he]
      refine ⟨hzc, fun u hu => ?_⟩
      rw [hzv] at hu
      obtain ⟨zz, _, rfl⟩ := List.mem_map.1 hu
      exact Z.one zz, ⟨_, by rw [hlen]; exact hown, fun j u x hu hx' => by
        have hu' := flat_rep hzc hpos' hu
        have hx2 : (madeCells z.cells (c * ei.size))[j]? = some x := by
          rw [List.getElem?_take] at hx'
          split at hx'
          · simpa using hx'
          · cases hx'
        obtain ⟨_, h5⟩ := madeCells_get hx2 (by rw [hzs]; exact hpos')
        rw [hzs] at h5
        rw [hzv, List.getElem?_map] at hu'
        obtain ⟨zz, q1, rfl⟩ := Option.map_eq_some_iff.1 hu'
        obtain ⟨x2, q2, q3⟩ := hzz _ _ q1
        rw [Array.getElem?_toList, h5] at q2
        cases q2
        exact Z.rep q3⟩, fun b hb o hS => by cases hb; have := hS.2 rfl; omega⟩) fun b o' ⟨l', c', hp'⟩ => by rw [hrw] at hp'; cases hp'; rfl
  unfold Oper.wp
  have hrun' : (execOp a.eval o).run P w = .ok (.value (.slice (some ⟨w.heap.size, 0, none⟩) l c)) (w.alloc (.cells (madeCells z.cells (c * ei.size)) E)) := by
    simp [execOp, ho, hrx, hry, hrun]
  rw [hrun']
  exact hK _ _ _ e1 e2 e3 (.w ⟨_, _, _, hrw, Nat.le_refl _, fun _ => ⟨by omega, by omega, fun _ => by simp⟩⟩)
structure ZvAt (zv : V) : Prop where
theorem Does.makeWz {T E i l c sz : Nat} {kl kc : IntKind} {x y : Operand} {zl zc : Int} {zv : V} (X : TOk P) {ti ei : TI} (_hzw : ZvAt zv) (ho : o.op = .makeSlice T x y) (hx : evo env x = some (.k (.int kl zl))) (hy : evo env y = some (.k (.int kc zc))) (hzl : zl = ((l : Nat) : Int)) (hzc : zc = ((c : Nat) : Int)) (hT : aget X.tab T = some ti) (hd : ti.d = .sl E) (hE : aget X.tab E = some ei) (hsz : ei.size = sz) (hpos : Nat.blt 0 sz = true)
  (hlc : l ≤ c) (hmax : c ≤ 140737488355328) (hb : c * ei.bytes ≤ 140737488355328) (hzv : zv.cells = ei.zero.map Z.v) {es : List V} (hes : List.replicate l zv = es) : Does P o env (.w i 0 sz 0 l) [(i, none, some (.w E sz 0 es))] := Does.makeW X ho hx hy hzl hzc hT hd hE hsz hpos hlc hmax hb hzv hes
end
theorem set_mapL {l : List UInt8} {off n : Nat} (h : n < 256) : (l.map bK).set off (.k (.int .u8 (OfNat.ofNat n))) = (l.set off (UInt8.ofNat n)).map bK := by
 rw [List.map_set]
 congr 1
 have e : (UInt8.ofNat n).toNat = n := UInt8.toNat_ofNat_of_lt (by simpa using h)
 unfold bK
 rw [e]
 rfl
structure FrzAt (t r : Nat) : Prop where
section
variable {P : Program} {F : Fr0} {N : Nat} {Q : LQ} {env : Env} {mem : Mem}
theorem LC.frzR {es es' : List V} {gen off n E sz t r : Nat} (_h : FrzAt t r) (ht : aget env t = some (.w r gen sz off n)) (hr : aget mem r = some (.w E sz gen es)) (hn : off + n ≤ es.length) (he : (es.drop off).take n = es') (h : LC P F N .ret Q ((t, .s none es') :: env) ((r, .x) :: mem)) : LC P F N .ret Q env mem := LC.frztmp t r ht hr hn he h
end
theorem all_wV {es : List V} {n : Nat} (h : es.length = n) : (es.drop 0).take n = es := by
 rw [List.drop_zero]; exact List.take_of_length_le (by omega)
structure FrzBuf (id i j r : Nat) : Prop where
section
variable {P : Program} {F : Fr0} {N : Nat} {Q : LQ} {env : Env} {mem : Mem}
theorem LC.frzBufAt {id i j r : Nat} {ops : Array Oper} {d : Bool} {cs es es' : List V} {gen off n E sz : Nat} (_h : FrzBuf id i j r) (hi : aget mem i = some (.b cs)) (hj : cs[j]? = some (.w r gen sz off n)) (hr : aget mem r = some (.w E sz gen es)) (hne : Nat.beq r i = false) (hn : off + n ≤ es.length) (he : (es.drop off).take n = es') (h : LC P F N (.region id ops d) Q env ((i, .b (cs.set j (.s none es'))) :: (r, .x) :: mem)) : LC P F N (.region id ops d) Q env mem :=
 LC.frzbuf i j r hi hj hr (fun e => by subst e; rw [Nat.beq_refl] at hne; cases hne) hn he h
end
theorem all_w {α : Type} {l : List α} {f : α → V} {n : Nat} (h : l.length = n) : ((l.map f).drop 0).take n = l.map f := by
 rw [List.drop_zero]; exact List.take_of_length_le (by rw [List.length_map]; omega)
end Lf
open Go.RowKit Rg
namespace Lf
section
variable {P : Program} {o : Oper} {env : Env}
theorem Does.appSW {T Tx E i n m sz gen : Nat} {x y : Operand} {es ys : List V} {t : Tch} (X : TOk P) {ti ei : TI} (ho : o.op = .call { callee := .builtin .append, args := #[x, y], argTypes := #[T, Tx] }) (hx : evo env x = some (.w i gen sz 0 n)) (hS : SrcOk P sz Tx y env ys t) (hq : quiet t = true)
  (hT : aget X.tab T = some ti) (hd : ti.d = .sl E) (hE : aget X.tab E = some ei) (hsz : ei.size = sz) (hys : ∀ e ∈ ys, e.cells.length = sz) (hn : es.length = n) (hm : n + ys.length = m) (hmax : m ≤ 140737488355328) (hb : m * ei.bytes ≤ 140737488355328) :
  Does P o env (.w i (gen + 1) sz 0 m) ((i, some (.w E sz gen es), some (.w E sz (gen + 1) (es ++ ys))) :: t) := by
 subst hsz; subst hn; subst hm
 refine ⟨fun F g a w mem h1 h2 h3 h4 _ K Q hK => ?_⟩
 have hi := h4 _ _ _ (List.mem_cons_self ..)
 have hrx := h1 x (by simp [ho, Op.operands, Call.operands]) _ hx
 obtain ⟨news, hsrc, hone2, hfl2, hrep2⟩ := hS F g a w mem (fun u hu => h1 y (by simp [ho, Op.operands, Call.operands]) _ hu) h2 (fun j m m' hj => h4 j m m' (List.mem_cons_of_mem _ hj))
 obtain ⟨ao, c, ad, e1, hB, hxx, e3, e4⟩ := rep_w h2 hi hrx
 have had := e4 (.inr rfl)
 simp only [Nat.zero_mul] at had
 subst had
 rw [Nat.sub_zero] at hxx
 obtain ⟨xs, hown, hrep⟩ := hB.own
 obtain ⟨v', w', hrun, hown', hg, hv⟩ := run_app (P := P) (ty := o.type) ((X.get hT).sl hd) (X.get hE) hB.pos hown hsrc hmax hb
 have hcl : ∀ e ∈ es ++ ys, e.cells.length = ei.size ∧ ∀ u ∈ e.cells, u.one = true := fun e he => by
  rcases List.mem_append.1 he with he | he
  ·exact hB.cells e he
  ·exact ⟨hys e he, hone2 e he⟩
 have hfl := flat_len fun e he => (hB.cells e he).1
 obtain ⟨g', a', c', rfl, k1, k2, k3, k4⟩ := h2.growW h3 (n := es.length) (m := ys.length) (es' := es ++ ys) (xs := xs) (news := news) hi e1 (by simp) hcl hown' hg (fun g' he j u z hj hz => by
  rw [List.flatMap_append] at hj
  rcases Nat.lt_or_ge j xs.length with hlt | hge
  ·rw [List.getElem?_append_left (by rw [hfl, ← hown.1]; exact hlt)] at hj
   rw [List.getElem?_append_left hlt] at hz
   exact (hrep j u z hj hz).mono he.bare
  ·rw [List.getElem?_append_right (by rw [hfl, ← hown.1]; exact hge), hfl, ← hown.1] at hj
   rw [List.getElem?_append_right hge] at hz
   exact (hrep2 _ u z hj hz).mono he.bare) hv
 unfold Oper.wp
 have hrun' : (execOp a.eval o).run P w = .ok (.value (.slice (Option.map (fun b => ⟨b, 0, none⟩) a') (es.length + ys.length) c')) w' := by
  simp [execOp, ho, resolve, invoke, builtin, hxx, hrun]
 rw [hrun']
 refine hK _ g' w' k2 (by rw [tset_head hq]; exact k3) k4 (.w ⟨a', gen + 1, c', k1, Nat.le_refl _, fun _ => ⟨?_, by omega, fun _ => by simp⟩⟩)
 obtain ⟨a2, c2, q1, q2⟩ := k3.buf (i := i) (aget_self _ _ _)
 rw [k1] at q1; cases q1
 have := (buf_le q2).1
 simp at this; omega
theorem Does.weak {v' : V} {v : V} {t : Tch} (h : Does P o env v t) (hw : ∀ (w : World) (g : Gh) (x : Value), Rep w g v x → Rep w g v' x) : Does P o env v' t :=
 ⟨fun F g a w mem h1 h2 h3 h4 h5 K Q hK => h.ex F g a w mem h1 h2 h3 h4 h5 K Q fun x g' w' k1 k2 k3 k4 => hK x g' w' k1 k2 k3 (hw _ _ _ k4)⟩
structure NilElt : Prop where
 on : True
theorem rep_nilE {w : World} {g : Gh} {x : Value} (h : Rep w g .nil x) : Rep w g (.s none []) x := by
 cases h
 exact .s0 fun r hr => by cases hr
theorem rep_nilS {w : World} {g : Gh} {o : Option Nat} {x : Value} (h : Rep w g (.s o [.nil]) x) : Rep w g (.s o [.s none []]) x := by
  cases h with
  | @s _ _ _ b off cap size xs hn hm hp hs hx hc ht =>
    refine .s xs hn hm hp (fun e he => ?_) (fun j u hj => ?_) (fun j u hj => ?_) ht
    · rw [List.mem_singleton] at he; subst he
      have := hs .nil (by simp)
      exact ⟨this.1, fun u hu => by simp [V.cells] at hu; subst hu; rfl⟩
    · have hj0 : j = 0 := by
        cases j with
        | zero => rfl
        | succ j => simp [V.cells] at hj
      subst hj0
      exact hx 0 .nil rfl
    · have hj0 : j = 0 := by
        cases j with
        | zero => rfl
        | succ j => simp [V.cells] at hj
      subst hj0
      have e : u = .s none [] := by simpa [V.cells] using hj.symm
      subst e
      exact rep_nilE (hc 0 .nil rfl)
structure NilElts (cs cs' : List V) : Prop where
 eq : V.cv.go (fun _ => false) true cs = cs'
theorem rep_aS {w : World} {g : Gh} {o : Option Nat} {cs cs' : List V} {x : Value} (he : V.cv.go (fun _ => false) true cs = cs') (h : Rep w g (.s o [.a cs]) x) : Rep w g (.s o [.a cs']) x := by
 subst he
 cases h with
 | @s _ _ _ b off cap size xs hn hm hp hs hx hc ht =>
  have hf : ∀ (j : Nat) u, ([V.a (V.cv.go (fun _ => false) true cs)].flatMap V.cells)[j]? = some u → ∃ u0, ([V.a cs].flatMap V.cells)[j]? = some u0 ∧ u = u0.cv (fun _ => false) true := fun j u hj => by
   simp only [List.flatMap_cons, List.flatMap_nil, List.append_nil, V.cells] at hj ⊢
   rw [cv_go, List.getElem?_map] at hj
   obtain ⟨u0, h1, h2⟩ := Option.map_eq_some_iff.1 hj
   exact ⟨u0, h1, h2.symm⟩
  refine .s xs hn hm hp (fun e he => ?_) (fun j u hj => ?_) (fun j u hj => ?_) ht
  ·rw [List.mem_singleton] at he; subst he
   have := hs (.a cs) (by simp)
   refine ⟨?_, fun u hu => ?_⟩
   ·show (V.cv.go _ _ cs).length = size
    rw [cv_go, List.length_map]; exact this.1
   ·have hu' : u ∈ V.cv.go (fun _ => false) true cs := hu
    rw [cv_go] at hu'
    obtain ⟨u0, h0, rfl⟩ := List.mem_map.1 hu'
    rw [cv_one]; exact this.2 u0 h0
  ·obtain ⟨u0, h1, _⟩ := hf j u hj
   exact hx j u0 h1
  ·obtain ⟨u0, h1, rfl⟩ := hf j u hj
   exact (hc j u0 h1).cv
theorem Does.buildSliceY {T E i : Nat} {ps : List (Nat × Operand)} {cs cs' : List V} (X : TOk P) {ti ei : TI} (_hz : NilElts cs cs') (ho : o.op = .buildSlice T 1 ps.toArray) (hT : aget X.tab T = some ti) (hd : ti.d = .sl E) (hE : aget X.tab E = some ei) (hpos : Nat.blt 0 ei.size = true) (hv : evp env ps = some [(0, .a cs)]) (hb : (V.a cs).bare = some (.a cs)) (hsm : Nat.ble (1 * ei.size) 16777216 = true) (hs : Nat.beq cs.length ei.size = true) (hok : (V.a cs).ok = true) : Does P o env (.s (some i) [.a cs']) [(i, none, some (.r E ei.size 1))] := by
 refine Does.weak (Does.buildSlice (es := [.a cs]) X ho hT hd hE hpos hv (dense1 hb) rfl hsm (fun e he => ?_) (by simp [hok])) fun w g x h => rep_aS _hz.eq h
 rw [List.mem_singleton] at he; subst he; exact Nat.eq_of_beq_eq_true hs
theorem Does.buildSliceZ {T E i : Nat} {ps : List (Nat × Operand)} (X : TOk P) {ti ei : TI} (_hz : NilElt) (ho : o.op = .buildSlice T 1 ps.toArray) (hT : aget X.tab T = some ti) (hd : ti.d = .sl E) (hE : aget X.tab E = some ei) (hv : evp env ps = some [(0, .nil)]) (hs : Nat.beq ei.size 1 = true) : Does P o env (.s (some i) [.s none []]) [(i, none, some (.r E ei.size 1))] := by
 have h1 := Nat.eq_of_beq_eq_true hs
 refine Does.weak (Does.buildSlice (es := [.nil]) X ho hT hd hE (by rw [h1]; rfl) hv rfl rfl (by rw [h1]; rfl) (fun e he => ?_) rfl) fun w g x h => rep_nilS h
 rw [List.mem_singleton] at he; subst he; rw [h1]; rfl
end
section
variable {P : Program} {F : Fr0} {N : Nat} {ops : Array Oper} {chk : List (Nat × Tch) → Bool} {K : Env → Mem → Prop} {acc : List (Nat × Tch)} {env : Env} {mem : Mem} {i d j : Nat} {o : Oper} {rs : List (Nat × Oper)} {v : V}
theorem DR.apW {T Tx E Ex gen n m sz : Nat} {x y : Operand} {t : Option Nat} {es ys es2 : List V} (X : TOk P) {ti xi ei : TI} (ho : o.op = .call { callee := .builtin .append, args := #[x, y], argTypes := #[T, Tx] }) (hg : gd ops env o = some true) (hds : o.dst = some d) (hx : evo env x = some (.w j gen sz 0 n)) (hy : evo env y = some (.s t ys)) (hm : aget mem j = some (.w E sz gen es)) (hT : aget X.tab T = some ti) (hdt : ti.d = .sl E) (hE : aget X.tab E = some ei) (hsz : ei.size = sz) (hX : aget X.tab Tx = some xi) (hdx : xi.d = .sl Ex)
  (hn : es.length = n) (hys : ∀ e ∈ ys, e.cells.length = sz) (hl : n + ys.length = m) (hmax : m ≤ 140737488355328) (hb : m * ei.bytes ≤ 140737488355328) (hz : es ++ ys = es2) (hd : Nat.blt d N = true)
  (hK : DR P F N ops chk K rs ((i, [(j, some (.w E sz gen es), some (.w E sz (gen + 1) es2))]) :: acc) ((d, .w j (gen + 1) sz 0 m) :: env) ((j, .w E sz (gen + 1) es2) :: mem)) : DR P F N ops chk K ((i, o) :: rs) acc env mem := by
 subst hz; subst hsz
 exact DR.ww hg hds (Does.appSW X ho hx (fun F g a w mem h1 _ _ => rep_src ((X.get hX).sl hdx) (h1 _ hy) hys) rfl hT hdt hE rfl hys hn hl hmax hb) hm hd hK
end
structure NilBuf (id i j r E sz : Nat) : Prop where
 on : True
section
variable {P : Program} {F : Fr0} {N : Nat} {Q : LQ} {env : Env} {mem : Mem}
theorem LC.nilbufAt {id i j r E sz : Nat} {ops : Array Oper} {d : Bool} {cs : List V} (_h : NilBuf id i j r E sz) (hi : aget mem i = some (.b cs)) (hj : cs[j]? = some .nil) (hr : aget mem r = none) (hne : Nat.beq r i = false) (hp : Nat.blt 0 sz = true) (h : LC P F N (.region id ops d) Q env ((i, .b (cs.set j (.w r 0 sz 0 0))) :: (r, .w E sz 0 []) :: mem)) : LC P F N (.region id ops d) Q env mem :=
 LC.nilbuf i j r E sz hi hj hr (Nat.ne_of_beq_eq_false hne) hp h
end
end Lf
end Go.Proofs.YtpaafpmofhajfaaGreatDoor
