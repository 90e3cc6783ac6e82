/- Package word over the lifted state: its contracts, told by numbers. -/
import Derived.Test.YtpecjhjpdaifoaaTab
import Derived.Test.YtpecjhjpdaifoaaWord5
import Derived.Test.YtpecjhjpdaifoaaOpenW
namespace Go.Proofs.Ytpecjhjpdaifoaa
open Go.RowKit Rg Wm Ar
namespace Lf
def u64K (n : Nat) : V := .k (.int .u64 (n : Int))
def wordC (x : Nat) : List V := [u64K (limb x 0), u64K (limb x 1), u64K (limb x 2), u64K (limb x 3)]
def wordV (x : Nat) : V := .a (wordC x)
/-- v reads as x and as nothing else. -/
def Exact (v : V) (x : Value) : Prop := (∀ w g, Rep w g v x) ∧ ∀ w g y, Rep w g v y → y = x
theorem exact_k (x : Value) : Exact (.k x) x := ⟨fun _ _ => .k x, fun _ _ _ h => rep_k h⟩
theorem wordA_list (x : Nat) : wordA x = #[.int .u64 (limb x 0 : Int), .int .u64 (limb x 1 : Int), .int .u64 (limb x 2 : Int), .int .u64 (limb x 3 : Int)] := rfl
theorem exact_word (x : Nat) : Exact (wordV x) (.agg (wordA x)) := by
  rw [wordA_list]
  refine ⟨fun w g => .a rfl (fun u hu => ?_) (fun j u y hj hy => ?_), fun w g y h => ?_⟩
  · simp only [wordC, List.mem_cons, List.not_mem_nil, or_false] at hu
    rcases hu with rfl | rfl | rfl | rfl <;> rfl
  · match j with
    | 0 => simp [wordC] at hj hy; subst hj; subst hy; exact .k _
    | 1 => simp [wordC] at hj hy; subst hj; subst hy; exact .k _
    | 2 => simp [wordC] at hj hy; subst hj; subst hy; exact .k _
    | 3 => simp [wordC] at hj hy; subst hj; subst hy; exact .k _
    | j + 4 => simp [wordC] at hj
  · unfold wordV at h
    cases h with
    | @a _ _ vs hl h1 hc =>
      have hs : vs.size = 4 := by simpa [wordC] using hl.symm
      congr 1
      apply Array.ext
      · simpa using hs
      · intro i h1 h2
        have hv : vs[i]? = some vs[i] := Array.getElem?_eq_getElem h1
        match i with
        | 0 => exact rep_k (hc 0 _ _ rfl hv)
        | 1 => exact rep_k (hc 1 _ _ rfl hv)
        | 2 => exact rep_k (hc 2 _ _ rfl hv)
        | 3 => exact rep_k (hc 3 _ _ rfl hv)
        | i + 4 => omega
theorem exact_pair {a b : V} {x y : Value} (ha : Exact a x) (hb : Exact b y) : Exact (.t [a, b]) (.tuple #[x, y]) := by
  refine ⟨fun w g => .t rfl (fun j u z hj hz => ?_), fun w g z h => ?_⟩
  · match j with
    | 0 => simp at hj hz; subst hj; subst hz; exact ha.1 w g
    | 1 => simp at hj hz; subst hj; subst hz; exact hb.1 w g
    | j + 2 => simp at hj
  · cases h with
    | @t _ _ vs hl hc =>
      have hs : vs.size = 2 := by simpa using hl.symm
      congr 1
      apply Array.ext
      · simpa using hs
      · intro i h1 h2
        have hv : vs[i]? = some vs[i] := Array.getElem?_eq_getElem h1
        match i with
        | 0 => exact ha.2 w g _ (hc 0 _ _ rfl hv)
        | 1 => exact hb.2 w g _ (hc 1 _ _ rfl hv)
        | i + 2 => omega
theorem args_exact {args : List V} {xs : List Value} (h : args.length = xs.length) (he : ∀ (j : Nat) u x, args[j]? = some u → xs[j]? = some x → Exact u x) {w : World} {g : Gh} {vals : Array Value} (hl : args.length = vals.size) (hr : ∀ (j : Nat) u x, args[j]? = some u → vals[j]? = some x → Rep w g u x) : vals = xs.toArray := by
  apply Array.ext
  · simp; omega
  · intro i h1 h2
    have hv : vals[i]? = some vals[i] := Array.getElem?_eq_getElem h1
    have ha : args[i]? = some args[i] := List.getElem?_eq_getElem (by omega)
    have hx : xs[i]? = some xs[i] := List.getElem?_eq_getElem (by simpa using h2)
    have := (he i _ _ ha hx).2 w g _ (hr i _ _ ha hv)
    rw [this]; rfl
/-- From a contract on plain values. -/
theorem LF.of_calls {P : Program} {f : Nat} {args : List V} {xs : List Value} {out : V} {y : Value} (hok : callOk P f = true) (h : args.length = xs.length) (he : ∀ (j : Nat) u x, args[j]? = some u → xs[j]? = some x → Exact u x) (ho : Exact out y)
    (hc : ∀ w, Calls P f xs.toArray w fun e w' => e = .returned y ∧ Ext w w') : LF P f args (fun _ => out) none := by
  refine ⟨hok, fun S w vals hS hl hr => ?_⟩
  rw [args_exact h he hl hr]
  refine (hc w).mono fun e w' ⟨he, hx⟩ => ⟨y, _, none, he, ⟨rfl, rfl⟩, hx, S, fun _ _ _ => Iff.rfl, fun b o hb => hS b o (Nat.le_trans hx.size hb), ho.1 _ _⟩
theorem ex1 {a : V} {x : Value} (ha : Exact a x) : ∀ (j : Nat) u y, [a][j]? = some u → [x][j]? = some y → Exact u y := fun j u y hj hy => by
  match j with
  | 0 => simp at hj hy; subst hj; subst hy; exact ha
  | j + 1 => simp at hj
theorem ex2 {a b : V} {x y : Value} (ha : Exact a x) (hb : Exact b y) : ∀ (j : Nat) u z, [a, b][j]? = some u → [x, y][j]? = some z → Exact u z := fun j u z hj hz => by
  match j with
  | 0 => simp at hj hz; subst hj; subst hz; exact ha
  | 1 => simp at hj hz; subst hj; subst hz; exact hb
  | j + 2 => simp at hj
theorem ex3 {a b c : V} {x y z : Value} (ha : Exact a x) (hb : Exact b y) (hc : Exact c z) : ∀ (j : Nat) u t, [a, b, c][j]? = some u → [x, y, z][j]? = some t → Exact u t := fun j u t hj hz => by
  match j with
  | 0 => simp at hj hz; subst hj; subst hz; exact ha
  | 1 => simp at hj hz; subst hj; subst hz; exact hb
  | 2 => simp at hj hz; subst hj; subst hz; exact hc
  | j + 3 => simp at hj
theorem wordV_eq {x y : Nat} (h : x % M256 = y % M256) : wordV x = wordV y := by
  have := wordA_eq h
  rw [wordA_list, wordA_list] at this
  simp at this
  simp only [wordV, wordC, u64K]
  obtain ⟨h1, h2, h3, h4⟩ := this
  rw [h1, h2, h3, h4]
theorem mlt (x : Nat) : x % M256 < M256 := Nat.mod_lt _ M256_pos
theorem wordV_mod (x : Nat) : wordV (x % M256) = wordV x := wordV_eq (Nat.mod_mod _ _)

def qW (x y : Nat) : Nat := if y % M256 = 0 then 0 else x % M256 / (y % M256)
def rW (x y : Nat) : Nat := if y % M256 = 0 then 0 else x % M256 % (y % M256)
def amW (x y m : Nat) : Nat := if m % M256 = 0 then 0 else (x % M256 + y % M256) % (m % M256)
def mmW (x y m : Nat) : Nat := if m % M256 = 0 then 0 else x % M256 * (y % M256) % (m % M256)
namespace Wo
theorem Int (n : Nat) (h : n < m64) : LF Try.prog 25 [u64K n] (fun _ => wordV n) none := .of_calls (by kernel_rfl) rfl (ex1 (exact_k _)) (exact_word n) fun w => Wd.IntW n h w
theorem Add (x y : Nat) : LF Try.prog 30 [wordV x, wordV y] (fun _ => wordV (x + y)) none := .of_calls (by kernel_rfl) rfl (ex2 (exact_word x) (exact_word y)) (exact_word _) fun w => Wd.Add x y w
theorem Sub (x y : Nat) : LF Try.prog 33 [wordV x, wordV y] (fun _ => wordV (dif x y)) none := .of_calls (by kernel_rfl) rfl (ex2 (exact_word x) (exact_word y)) (exact_word _) fun w => Wd.Sub x y w
theorem Mul (x y : Nat) : LF Try.prog 27 [wordV x, wordV y] (fun _ => wordV (x * y)) none := .of_calls (by kernel_rfl) rfl (ex2 (exact_word x) (exact_word y)) (exact_word _) fun w => Wd.Mul x y w
theorem Cmp (x y : Nat) : LF Try.prog 23 [wordV x, wordV y] (fun _ => .k (.int .i64 (Wd.cmp x y))) none := .of_calls (by kernel_rfl) rfl (ex2 (exact_word x) (exact_word y)) (exact_k _) fun w => Wd.Cmp x y w
theorem Exp (x y : Nat) : LF Try.prog 24 [wordV x, wordV y] (fun _ => wordV (x ^ (y % M256))) none := by
  rw [← wordV_mod y]
  exact .of_calls (by kernel_rfl) rfl (ex2 (exact_word x) (exact_word _)) (exact_word _) fun w => Wd.Exp x (y % M256) (mlt y) w
theorem DivMod (x y : Nat) : LF Try.prog 29 [wordV x, wordV y] (fun _ => .t [wordV (qW x y), wordV (rW x y)]) none := by
  rw [← wordV_mod x, ← wordV_mod y]
  by_cases h : y % M256 = 0
  · rw [h]
    have e1 : qW x y = 0 := by simp [qW, h]
    have e2 : rW x y = 0 := by simp [rW, h]
    rw [e1, e2]
    exact .of_calls (by kernel_rfl) rfl (ex2 (exact_word _) (exact_word _)) (exact_pair (exact_word _) (exact_word _)) fun w => Wd.DivMod_zero _ w
  · have e1 : qW x y = x % M256 / (y % M256) := by simp [qW, h]
    have e2 : rW x y = x % M256 % (y % M256) := by simp [rW, h]
    rw [e1, e2]
    exact .of_calls (by kernel_rfl) rfl (ex2 (exact_word _) (exact_word _)) (exact_pair (exact_word _) (exact_word _)) fun w => Wd.DivMod _ _ (mlt x) (mlt y) (Nat.pos_of_ne_zero h) w
end Wo
section
variable {o : Oper} {env : Env}
theorem eqW_cells {y : Nat} {cs : List V} (h : wordC y = cs) : V.a cs = wordV y := by rw [wordV, h]
theorem Does.eqW {Y : Nat} {x y : Operand} {a b : Nat} (ho : o.op = .binOp .eql 24 x y Y) (hx : evo env x = some (wordV a)) (hy : evo env y = some (wordV b)) {r : Bool} (hr' : decide (a % M256 = b % M256) = r) : Does Try.prog o env (.k (.bool r)) [] :=
  .pure fun F g ac w mem hr _ => by
    subst hr'
    have e1 := (exact_word a).2 w g _ (hr x (by simp [ho, Op.operands]) _ hx)
    have e2 := (exact_word b).2 w g _ (hr y (by simp [ho, Op.operands]) _ hy)
    refine ⟨_, ?_, .k _⟩
    have hg : (eqGuard .eql 24 x y (.agg (wordA a)) (.agg (wordA b))).run Try.prog w = .ok () w := by
      unfold eqGuard
      have : Try.prog.eqGuardType Try.prog.depth 24 = false := by kernel_rfl
      simp [this, program, Sem.run]
    simp only [execOp, ho, e1, e2, Sem.run_bind, hg, Result.andThen_ok, Eq'.eqlW]
    rfl
theorem Does.neW {Y : Nat} {x y : Operand} {a b : Nat} (ho : o.op = .binOp .neq 24 x y Y) (hx : evo env x = some (wordV a)) (hy : evo env y = some (wordV b)) {r : Bool} (hr' : decide (a % M256 = b % M256) = r) : Does Try.prog o env (.k (.bool (!r))) [] :=
  .pure fun F g ac w mem hr _ => by
    subst hr'
    have e1 := (exact_word a).2 w g _ (hr x (by simp [ho, Op.operands]) _ hx)
    have e2 := (exact_word b).2 w g _ (hr y (by simp [ho, Op.operands]) _ hy)
    refine ⟨_, ?_, .k _⟩
    have hg : (eqGuard .neq 24 x y (.agg (wordA a)) (.agg (wordA b))).run Try.prog w = .ok () w := by
      unfold eqGuard
      have : Try.prog.eqGuardType Try.prog.depth 24 = false := by kernel_rfl
      simp [this, program, Sem.run]
    have hq := Eq'.eqlW a b w
    have hn : (binOp .neq 24 (.agg (wordA a)) (.agg (wordA b))).run Try.prog w = .ok (.bool (!decide (a % M256 = b % M256))) w := by
      simp only [binOp, Sem.run_bind] at hq ⊢
      generalize (Op.equal 24 (.agg (wordA a)) (.agg (wordA b))).run Try.prog w = r at hq ⊢
      cases r with
      | ok v w' => simp at hq ⊢; exact ⟨by rw [hq.1], hq.2⟩
      | halt h w' => simp [Result.andThen] at hq
    simp only [execOp, ho, e1, e2, Sem.run_bind, hg, Result.andThen_ok, hn]
    rfl
end
/-- From a law's lifted contract to its walk. -/
theorem LF.truth {P : Program} {f : Nat} {args : List V} (h : LF P f args (fun _ => .k (.bool true)) none) (W : World) (vals : Array Value) (hl : args.length = vals.size) (hr : ∀ (j : Nat) u x, args[j]? = some u → vals[j]? = some x → Rep W ⟨fun _ _ => True, fun _ => none, fun _ => none⟩ u x) :
    Calls P f vals W fun e W' => e = .returned (.bool true) ∧ Ext W W' := by
  refine (h.calls (fun _ _ => True) W vals (fun _ _ _ => trivial) hl hr).mono ?_
  rintro e w' ⟨x, out, row, rfl, ⟨rfl, rfl⟩, hx, hret⟩
  obtain ⟨S', _, _, hrep⟩ := hret
  rw [rep_k hrep]
  exact ⟨rfl, hx⟩
/-- Arguments and what they read. -/
def RepAll (W : World) (g : Gh) : List V → List Value → Prop
  | [], [] => True
  | u :: us, x :: xs => Rep W g u x ∧ RepAll W g us xs
  | _, _ => False
theorem RepAll.spec {W : World} {g : Gh} : ∀ {us : List V} {xs : List Value}, RepAll W g us xs → us.length = xs.length ∧ ∀ (j : Nat) u x, us[j]? = some u → xs[j]? = some x → Rep W g u x
  | [], [], _ => ⟨rfl, fun j u x h => by simp at h⟩
  | u :: us, x :: xs, h => by
    obtain ⟨h1, h2⟩ := RepAll.spec h.2
    refine ⟨by simp [h1], fun j a b ha hb => ?_⟩
    cases j with
    | zero => simp at ha hb; subst ha; subst hb; exact h.1
    | succ j => simp at ha hb; exact h2 j a b ha hb
  | [], _ :: _, h => h.elim
  | _ :: _, [], h => h.elim
def allS : Gh := ⟨fun _ _ => True, fun _ => none, fun _ => none⟩
theorem LF.holds {P : Program} {f : Nat} {args : List V} (h : LF P f args (fun _ => .k (.bool true)) none) (W : World) (xs : List Value) (hr : RepAll W allS args xs) : Calls P f xs.toArray W fun e W' => e = .returned (.bool true) ∧ Ext W W' :=
  LF.truth h W xs.toArray (by simpa using hr.spec.1) fun j u x hu hx => hr.spec.2 j u x hu (by simpa using hx)
theorem qr_eq (x y : Nat) (h : ¬ y % M256 = 0) : (qW x y * y + rW x y) % M256 = x % M256 := by
  simp only [qW, rW, if_neg h]
  have e : (x % M256 / (y % M256) * y + x % M256 % (y % M256)) % M256 = (x % M256 / (y % M256) * (y % M256) + x % M256 % (y % M256)) % M256 := by
    rw [Nat.add_mod, Nat.mul_mod, Nat.add_mod (x % M256 / (y % M256) * (y % M256)), Nat.mul_mod (x % M256 / (y % M256)) (y % M256), Nat.mod_mod y]
  rw [e, Nat.mul_comm, Nat.div_add_mod, Nat.mod_mod]
theorem cmp_lt0 {x y : Nat} (h : x % M256 < y % M256) : Wd.cmp x y < 0 := by unfold Wd.cmp; rw [if_pos h]; omega
theorem cmp_le0 {x y : Nat} (h : x % M256 ≤ y % M256) : Wd.cmp x y ≤ 0 := by
  unfold Wd.cmp
  split
  · omega
  · rw [if_neg (by omega)]; omega
theorem cmp_ge0 {x y : Nat} (h : y % M256 ≤ x % M256) : 0 ≤ Wd.cmp x y := by
  unfold Wd.cmp
  rw [if_neg (by omega)]
  split <;> omega
end Lf
end Go.Proofs.Ytpecjhjpdaifoaa
