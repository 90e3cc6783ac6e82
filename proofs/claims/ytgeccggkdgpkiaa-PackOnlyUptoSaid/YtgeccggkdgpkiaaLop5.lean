/- More of the lifted walk: bits of unsigned numbers, shifts, quotients; calls of functions' values; boxes that stay from now on; slices of what stays. -/
import Derived.Test.YtgeccggkdgpkiaaLr
namespace Go.Proofs.Ytgeccggkdgpkiaa
open Go.RowKit Rg
namespace Lf

/-! ### Numbers -/
theorem wrap_uns {k : IntKind} (hk : k.signed = false) (z : Int) : k.wrap z = z % 2 ^ k.bits := by
  unfold IntKind.wrap
  simp [hk]
theorem wrap_unsN {k : IntKind} (hk : k.signed = false) (n : Nat) : k.wrap (n : Int) = ((n % 2 ^ k.bits : Nat) : Int) := by
  rw [wrap_uns hk]; norm_cast
theorem wrap_fit {k : IntKind} (hk : k.signed = false) {n : Nat} (h : n < 2 ^ k.bits) : k.wrap (n : Int) = (n : Int) := by
  rw [wrap_unsN hk, Nat.mod_eq_of_lt h]
theorem ofInt_nat (w n : Nat) : (BitVec.ofInt w (n : Int)).toNat = n % 2 ^ w := by
  rw [BitVec.ofInt_natCast, BitVec.toNat_ofNat]
theorem and_lt {a b n : Nat} (h : a < 2 ^ n) : a &&& b < 2 ^ n := Nat.lt_of_le_of_lt Nat.and_le_left h
theorem and_nat {k : IntKind} (hk : k.signed = false) {a b : Nat} (ha : a < 2 ^ k.bits) (hb : b < 2 ^ k.bits) : k.wrap (((BitVec.ofInt k.bits (a : Int) &&& BitVec.ofInt k.bits (b : Int)).toNat : Nat) : Int) = ((a &&& b : Nat) : Int) := by
  rw [BitVec.toNat_and, ofInt_nat, ofInt_nat, Nat.mod_eq_of_lt ha, Nat.mod_eq_of_lt hb, wrap_fit hk (and_lt ha)]
theorem or_nat {k : IntKind} (hk : k.signed = false) {a b : Nat} (ha : a < 2 ^ k.bits) (hb : b < 2 ^ k.bits) : k.wrap (((BitVec.ofInt k.bits (a : Int) ||| BitVec.ofInt k.bits (b : Int)).toNat : Nat) : Int) = ((a ||| b : Nat) : Int) := by
  rw [BitVec.toNat_or, ofInt_nat, ofInt_nat, Nat.mod_eq_of_lt ha, Nat.mod_eq_of_lt hb, wrap_fit hk (Nat.or_lt_two_pow ha hb)]
theorem xor_nat {k : IntKind} (hk : k.signed = false) {a b : Nat} (ha : a < 2 ^ k.bits) (hb : b < 2 ^ k.bits) : k.wrap (((BitVec.ofInt k.bits (a : Int) ^^^ BitVec.ofInt k.bits (b : Int)).toNat : Nat) : Int) = ((a ^^^ b : Nat) : Int) := by
  rw [BitVec.toNat_xor, ofInt_nat, ofInt_nat, Nat.mod_eq_of_lt ha, Nat.mod_eq_of_lt hb, wrap_fit hk (Nat.xor_lt_two_pow ha hb)]
theorem shr_nat {k : IntKind} {a s : Nat} (h : s ≤ k.bits) : ((a : Nat) : Int).fdiv (2 ^ (min ((s : Nat) : Int).toNat k.bits)) = ((a / 2 ^ s : Nat) : Int) := by
  rw [Int.toNat_natCast, Nat.min_eq_left h]
  rw [Int.fdiv_eq_ediv_of_nonneg _ (Int.le_of_lt (Int.pow_pos (by decide)))]
  norm_cast
theorem shl_nat {k : IntKind} (hk : k.signed = false) {a s : Nat} (h : s ≤ k.bits) : k.wrap (((a : Nat) : Int) * 2 ^ (min ((s : Nat) : Int).toNat k.bits)) = ((a * 2 ^ s % 2 ^ k.bits : Nat) : Int) := by
  rw [Int.toNat_natCast, Nat.min_eq_left h, wrap_uns hk]
  norm_cast
theorem quo_nat {a b : Nat} : ((a : Nat) : Int).tdiv ((b : Nat) : Int) = ((a / b : Nat) : Int) := rfl
theorem rem_nat {a b : Nat} : ((a : Nat) : Int).tmod ((b : Nat) : Int) = ((a % b : Nat) : Int) := rfl
theorem quo_i64 {a b : Nat} (h : a ≤ 9223372036854775807) : IntKind.i64.wrap (((a : Nat) : Int).tdiv ((b : Nat) : Int)) = ((a / b : Nat) : Int) := by
  have := Nat.div_le_self a b
  rw [quo_nat]
  generalize a / b = c at this
  exact wrap_i64 (by omega)
theorem quo_u64 {a b : Nat} (h : a ≤ 18446744073709551615) : IntKind.u64.wrap (((a : Nat) : Int).tdiv ((b : Nat) : Int)) = ((a / b : Nat) : Int) := by
  have := Nat.div_le_self a b
  rw [quo_nat]
  generalize a / b = c at this
  exact wrap_u64 (by omega)
theorem quo_i64r {a b : Nat} (h : a ≤ 9223372036854775807) : IntKind.i64.wrap (((a : Nat) : Int).tdiv (OfNat.ofNat b)) = ((a / OfNat.ofNat b : Nat) : Int) := quo_i64 (b := b) h
theorem quo_u64r {a b : Nat} (h : a ≤ 18446744073709551615) : IntKind.u64.wrap (((a : Nat) : Int).tdiv (OfNat.ofNat b)) = ((a / OfNat.ofNat b : Nat) : Int) := quo_u64 (b := b) h
theorem rem_r {a b : Nat} : ((a : Nat) : Int).tmod (OfNat.ofNat b) = ((a % OfNat.ofNat b : Nat) : Int) := rfl
theorem shr_u64r {a s : Nat} (h : OfNat.ofNat s ≤ 64) : ((a : Nat) : Int).fdiv (2 ^ (min (OfNat.ofNat s : Int).toNat IntKind.u64.bits)) = ((a / 2 ^ OfNat.ofNat s : Nat) : Int) := shr_nat (k := .u64) (s := s) h
theorem shl_u64r {a s : Nat} (h : OfNat.ofNat s ≤ 64) : IntKind.u64.wrap (((a : Nat) : Int) * 2 ^ (min (OfNat.ofNat s : Int).toNat IntKind.u64.bits)) = ((a * 2 ^ OfNat.ofNat s % 2 ^ 64 : Nat) : Int) := shl_nat (k := .u64) (s := s) rfl h
theorem shr_u64 {a s : Nat} (h : s ≤ 64) : ((a : Nat) : Int).fdiv (2 ^ (min ((s : Nat) : Int).toNat IntKind.u64.bits)) = ((a / 2 ^ s : Nat) : Int) := shr_nat (k := .u64) h
theorem shl_u64 {a s : Nat} (h : s ≤ 64) : IntKind.u64.wrap (((a : Nat) : Int) * 2 ^ (min ((s : Nat) : Int).toNat IntKind.u64.bits)) = ((a * 2 ^ s % 2 ^ 64 : Nat) : Int) := shl_nat (k := .u64) rfl h
theorem to_u8 {a : Nat} : IntKind.u8.wrap ((a : Nat) : Int) = ((a % 2 ^ 8 : Nat) : Int) := wrap_unsN (k := .u8) rfl a
theorem to_u64 {a : Nat} : IntKind.u64.wrap ((a : Nat) : Int) = ((a % 2 ^ 64 : Nat) : Int) := wrap_unsN (k := .u64) rfl a
theorem and_u64 {a b : Nat} (ha : a < 18446744073709551616) (hb : b < 18446744073709551616) : IntKind.u64.wrap (((BitVec.ofInt IntKind.u64.bits (a : Int) &&& BitVec.ofInt IntKind.u64.bits (b : Int)).toNat : Nat) : Int) = ((a &&& b : Nat) : Int) := and_nat (k := .u64) rfl ha hb
theorem or_u64 {a b : Nat} (ha : a < 18446744073709551616) (hb : b < 18446744073709551616) : IntKind.u64.wrap (((BitVec.ofInt IntKind.u64.bits (a : Int) ||| BitVec.ofInt IntKind.u64.bits (b : Int)).toNat : Nat) : Int) = ((a ||| b : Nat) : Int) := or_nat (k := .u64) rfl ha hb
theorem xor_u64 {a b : Nat} (ha : a < 18446744073709551616) (hb : b < 18446744073709551616) : IntKind.u64.wrap (((BitVec.ofInt IntKind.u64.bits (a : Int) ^^^ BitVec.ofInt IntKind.u64.bits (b : Int)).toNat : Nat) : Int) = ((a ^^^ b : Nat) : Int) := xor_nat (k := .u64) rfl ha hb
section
variable {P : Program} {o : Oper} {env : Env} {v : V}
theorem Does.and' {T Y : Nat} {x y : Operand} {k : IntKind} {m n r : Int} (ho : o.op = .binOp .and T x y Y) (hx : evo env x = some (.k (.int k m))) (hy : evo env y = some (.k (.int k n))) (hr : k.wrap (BitVec.ofInt k.bits m &&& BitVec.ofInt k.bits n).toNat = r) : Does P o env (.k (.int k r)) [] :=
  .arith ho hx hy (by rw [← hr]; rfl)
theorem Does.or' {T Y : Nat} {x y : Operand} {k : IntKind} {m n r : Int} (ho : o.op = .binOp .or T x y Y) (hx : evo env x = some (.k (.int k m))) (hy : evo env y = some (.k (.int k n))) (hr : k.wrap (BitVec.ofInt k.bits m ||| BitVec.ofInt k.bits n).toNat = r) : Does P o env (.k (.int k r)) [] :=
  .arith ho hx hy (by rw [← hr]; rfl)
theorem Does.xor' {T Y : Nat} {x y : Operand} {k : IntKind} {m n r : Int} (ho : o.op = .binOp .xor T x y Y) (hx : evo env x = some (.k (.int k m))) (hy : evo env y = some (.k (.int k n))) (hr : k.wrap (BitVec.ofInt k.bits m ^^^ BitVec.ofInt k.bits n).toNat = r) : Does P o env (.k (.int k r)) [] :=
  .arith ho hx hy (by rw [← hr]; rfl)

/-! ### Calls of functions' values -/
theorem exec_callF {o : Oper} {fx : Nat} {f : Operand} {xs : List Operand} {ts : Array Nat} {fi ca : Array Value} (ho : o.op = .call { callee := .value f, args := xs.toArray, argTypes := ts }) (hok : callOk P fx = true) (a : Act) (w : World) (hf : a.eval f = .func (.func fx) fi ca) :
    (execOp a.eval o).run P w = .ok (.enter fx (fi ++ (xs.map a.eval).toArray ++ ca)) w := by
  unfold callOk at hok
  split at hok
  · rename_i fn hfn
    simp only [Bool.and_eq_true, Bool.not_eq_true'] at hok
    have hn : ¬ fn.body = none := by cases hb : fn.body <;> simp_all
    have hm : ¬ fn.name = "runtime.NumGoroutine" := by simpa using hok.1
    simp [execOp, ho, resolve, hf, Deferred.ofValue, invoke, callFunc, hfn, hm, hn]
  · cases hok
theorem Does.callFM {fx : Nat} {f : Operand} {xs : List Operand} {ts : Array Nat} {us args fi ca : List V} {mi mo : Mem} {v : V} (hc : LM P fx args mi fun o m => o = .ret v ∧ m = mo) (ho : o.op = .call { callee := .value f, args := xs.toArray, argTypes := ts }) (hf : evo env f = some (.f (.func fx) fi ca)) (hx : evs env xs = some us) (hu : Fits (fi ++ us ++ ca) args)
    (hr : (V.refs.go mi args && (refsM mi mi && keysOk mi mo)) = true) : Does P o env v (callT mi mo) := by
  refine ⟨fun F g a w mem h1 h2 h3 h4 _ K Q hK => ?_⟩
  simp only [Bool.and_eq_true] at hr
  have hf' := h1 f (by simp [ho, Op.operands, Call.operands]) _ hf
  generalize hy : a.eval f = y at hf'
  cases hf' with
  | @f _ _ _ _ vs us' l1 l2 r1 r2 =>
    obtain ⟨e1, e2⟩ := evs_get hx
    obtain ⟨f1, f2⟩ := fits_rep (w := w) (g := g) hu
    obtain ⟨t1, t2⟩ := tpre_call h4 hr.2.2
    unfold Oper.wp
    rw [exec_callF ho hc.ok a w hy]
    have hl : args.length = (vs ++ (xs.map a.eval).toArray ++ us').size := by simp at f1 ⊢; omega
    refine Calls.mono (call_ends hc h2 h3 hr.2.1 hr.1 t1 hl fun j u x hj hxj => ?_) ?_
    · obtain ⟨u0, hu0, hb⟩ := f2 hj
      refine hb _ ?_
      rw [Array.append_assoc] at hxj
      rw [List.append_assoc] at hu0
      rcases Nat.lt_or_ge j fi.length with h | h
      · rw [List.getElem?_append_left h] at hu0
        rw [Array.getElem?_append_left (by omega)] at hxj
        exact r1 j u0 x hu0 hxj
      · rw [List.getElem?_append_right h] at hu0
        rw [Array.getElem?_append_right (by omega)] at hxj
        rw [← l1] at hxj
        rcases Nat.lt_or_ge (j - fi.length) us.length with h' | h'
        · rw [List.getElem?_append_left h'] at hu0
          rw [Array.getElem?_append_left (by simp; omega)] at hxj
          obtain ⟨y, hy, hev⟩ := e2 _ u0 hu0
          have : x = a.eval y := by simp [hy] at hxj; exact hxj.symm
          subst this
          exact h1 y (by simp [ho, Op.operands, Call.operands]; exact .inr (List.mem_of_getElem? hy)) u0 hev
        · rw [List.getElem?_append_right h'] at hu0
          rw [Array.getElem?_append_right (by simp; omega)] at hxj
          simp at hxj
          rw [e1] at hxj
          exact r2 _ u0 x hu0 hxj
    · rintro e w' ⟨o', mo', ⟨rfl, rfl⟩, hq⟩
      obtain ⟨g2, k1, k2, k3, x, rfl, k4⟩ := hq hr.2.2 t2
      exact hK x g2 w' k1 (by rw [tset_call]; exact k2) k3 k4
theorem Does.callF {fx : Nat} {f : Operand} {xs : List Operand} {ts : Array Nat} {us args fi ca : List V} {out : V} (hc : LM P fx args [] fun o m => o = .ret out ∧ m = []) (ho : o.op = .call { callee := .value f, args := xs.toArray, argTypes := ts }) (hf : evo env f = some (.f (.func fx) fi ca)) (hx : evs env xs = some us) (hu : Fits (fi ++ us ++ ca) args) (hr : V.refs.go [] args = true) :
    Does P o env out [] := Does.callFM hc ho hf hx hu (by rw [hr]; rfl)
theorem Does.mkFunc {fn : Fn} {fi ca : List Operand} {fs cs : List V} (ho : o.op = .makeFunc fn fi.toArray ca.toArray) (h1 : evs env fi = some fs) (h2 : evs env ca = some cs) : Does P o env (.f fn fs cs) [] :=
  .pure fun F g a w mem hr _ => by
    obtain ⟨e1, e2⟩ := evs_get h1
    obtain ⟨f1, f2⟩ := evs_get h2
    refine ⟨.func fn (fi.map a.eval).toArray (ca.map a.eval).toArray, ?_, .f (by simp; omega) (by simp; omega) (fun j u x hj hx => ?_) (fun j u x hj hx => ?_)⟩
    · simp [execOp, ho, Instr.makeFunc]
    · obtain ⟨y, hy, hev⟩ := e2 j u hj
      have : x = a.eval y := by simp [hy] at hx; exact hx.symm
      subst this
      exact hr y (by simp [ho, Op.operands]; exact .inl (List.mem_of_getElem? hy)) u hev
    · obtain ⟨y, hy, hev⟩ := f2 j u hj
      have : x = a.eval y := by simp [hy] at hx; exact hx.symm
      subst this
      exact hr y (by simp [ho, Op.operands]; exact .inr (List.mem_of_getElem? hy)) u hev

/-! ### What lies in a slice that is told by a map -/
theorem getM {α β : Type} [Inhabited α] {f : α → β} {l : List α} {k : Nat} (h : k < l.length) : (l.map f)[k]? = some (f (l.getD k default)) := by rw [List.getElem?_map, List.getElem?_eq_getElem h, List.getD_eq_getElem?_getD, List.getElem?_eq_getElem h]; rfl

/-! ### What stays -/
theorem Does.cutAQ {T e l h n : Nat} {x : Operand} {lo hi : Option Operand} {cs es : List V} (X : TOk P) {ti ei : TI} (ho : o.op = .slice T x lo hi none) (hx : evo env x = some (.q cs)) (hT : aget X.tab T = some ti) (hd : ti.d = .arr n e) (hE : aget X.tab e = some ei) (hlo : Bd env 0 lo l) (hhi : Bd env n hi h)
    (h1 : l ≤ h) (h2 : h ≤ n) (h3 : l < n) (hm : n ≤ maxLen) (hp : Nat.blt 0 ei.size = true) (hc : (cs.drop (l * ei.size)).take ((h - l) * ei.size) = es.flatMap V.cells) (hl : es.length = h - l) (hs : ∀ e ∈ es, e.cells.length = ei.size) : Does P o env (.s none es) [] :=
  .pure fun F g a w mem hr _ => by
    have hr0 := hr x (by simp [ho, Op.operands]) _ hx
    have b1 := hlo.val (a := a) (fun y hy u hu => hr y (by subst hy; simp [ho, Op.operands]) u hu)
    have b2 := hhi.val (a := a) (fun y hy u hu => hr y (by subst hy; simp [ho, Op.operands]) u hu)
    generalize hy : a.eval x = y at hr0
    cases hr0 with
    | @q _ _ b off xs k1 hx' hc' =>
      have := run_cutA (P := P) (b := b) (off := off) ((X.get hT).arr hd) (X.get hE).run_size b1 b2 h1 h2 h3 w
      have hin : ∀ (j : Nat) u, (es.flatMap V.cells)[j]? = some u → cs[l * ei.size + j]? = some u := fun j u hj => by
        rw [← hc, List.getElem?_take] at hj
        split at hj
        · rw [List.getElem?_drop] at hj; exact hj
        · cases hj
      refine ⟨.slice (some ⟨b, off + l * ei.size, none⟩) (h - l) (n - l), by simp [execOp, ho, hy, this], ?_⟩
      rw [← hl]
      refine .s (size := ei.size) (fun j => xs (l * ei.size + j)) (by omega) (by omega) (by simpa using hp) (fun e he => ⟨hs e he, fun u hu => ?_⟩) (fun j u hj => ?_) (fun j u hj => hc' _ u (hin j u hj)) (fun _ h => by cases h)
      · obtain ⟨j, hj⟩ := List.getElem?_of_mem (List.mem_flatMap.2 ⟨e, he, hu⟩)
        exact k1 u (List.mem_of_getElem? (hin j u hj))
      · obtain ⟨a1, a2, a3⟩ := hx' _ u (hin j u hj)
        rw [Nat.add_assoc]
        exact ⟨a1, a2, a3⟩
end
def V.frz (i : Nat) (cs : List V) : V → V
  | .p j off => cond (Nat.beq j i) (.q (cs.drop off)) (.p j off)
  | v => v
def frzE (i : Nat) (cs : List V) : Env → Env
  | [] => []
  | (t, v) :: r => (t, v.frz i cs) :: frzE i cs r
theorem frzE_get {i : Nat} {cs : List V} {t : Nat} {v : V} : ∀ {env : Env}, aget (frzE i cs env) t = some v → ∃ u, aget env t = some u ∧ v = u.frz i cs
  | [], h => by cases h
  | (n, u) :: r, h => by
    simp only [frzE, aget_cons] at h ⊢
    split at h
    · rename_i e; cases h; rw [if_pos e]; exact ⟨u, rfl, rfl⟩
    · rename_i e; rw [if_neg e]; exact frzE_get h
/-- The ghost in which cells stay. -/
def Gh.frz (g : Gh) (b off n : Nat) : Gh := ⟨fun b' o => g.S b' o ∨ (b' = b ∧ off ≤ o ∧ o < off + n), g.bx, g.rw⟩
/-- An object whose cells stay from now on is no more one of the call's. -/
theorem RelM.frz {F : Fr0} {g : Gh} {w : World} {mem : Mem} (h : RelM F g mem w) (hk : Kept F g w) {i b off n : Nat} {m : M} (hi : aget mem i = some m) (hin : ∀ o, off ≤ o → o < off + n → fp g i m b o) :
    Ev g w (g.frz b off n) w ∧ RelM F (g.frz b off n) ((i, .x) :: mem) w ∧ Kept F (g.frz b off n) w := by
  have hev : Ev g w (g.frz b off n) w := ⟨Nat.le_refl _, fun _ _ _ hs => ⟨.inl hs, rfl⟩, fun _ _ h => h, fun _ a l c h => ⟨a, l, c, h, Nat.le_refl _, fun _ => ⟨rfl, rfl⟩⟩⟩
  refine ⟨hev, h.step hk hev rfl rfl rfl (fun b' o _ hn => ⟨rfl, rfl, fun hs => hs.elim id fun ⟨e, h1, h2⟩ => ?_⟩) (fun _ _ _ => rfl) (fun _ _ => rfl) (fun _ _ => rfl) .x (fun _ _ hp => hp.elim) fun b' o hb' => .inl (h.fut b' o hb')⟩
  subst e
  exact absurd ⟨m, hi, hin o h1 h2⟩ hn
theorem Rel.frz {F : Fr0} {N : Nat} {g : Gh} {env : Env} {mem : Mem} {a : Act} {w : World} {i : Nat} {cs cs' : List V} (h : Rel F N g env mem a w) (hi : aget mem i = some (.b cs)) (hb : V.bare.go cs = some cs') : ∃ g', Rel F N g' (frzE i cs' env) ((i, .x) :: mem) a w := by
  obtain ⟨b, off, hbx, hlt, hB⟩ := h.mem.box hi
  obtain ⟨hl, hbare⟩ := bare_go hb
  obtain ⟨hev, h1, h2⟩ := h.mem.frz h.kept (n := cs.length) hi fun o q1 q2 => ⟨off, hbx, q1, q2⟩
  have hq : ∀ o, Rep w (g.frz b off cs.length) (.q (cs'.drop o)) (.pointer (some ⟨b, off + o, none⟩)) := fun o => by
    obtain ⟨xs, hxl, hx⟩ := cells_choose (p := fun j x => w.cell? ⟨b, off + j, none⟩ = some x ∧ ∀ u, cs[j]? = some u → Rep w g u x) cs.length fun j hj => by
      obtain ⟨_, _, x, hc, hr⟩ := hB.at_ j cs[j] (List.getElem?_eq_getElem hj)
      exact ⟨x, hc, fun u hu => by rw [List.getElem?_eq_getElem hj] at hu; cases hu; exact hr⟩
    have h0 : Rep w (g.frz b off cs.length) (.q cs') (.pointer (some ⟨b, off, none⟩)) := by
      refine .q (fun j => xs.getD j undef) (fun u hu => ?_) (fun j u hj => ?_) (fun j u hj => ?_)
      · obtain ⟨j, hj⟩ := List.getElem?_of_mem hu
        obtain ⟨u0, hu0, hb0⟩ := hbare j u hj
        rw [bare_one hb0]; exact hB.one u0 (List.mem_of_getElem? hu0)
      · have hj' : j < cs.length := by have := (List.getElem?_eq_some_iff.1 hj).1; omega
        have hxj : xs[j]? = some xs[j] := List.getElem?_eq_getElem (by omega)
        refine ⟨hlt, .inr ⟨rfl, by omega, by omega⟩, ?_⟩
        rw [List.getD_eq_getElem?_getD, hxj]
        exact (hx j _ hxj).1
      · obtain ⟨u0, hu0, hb0⟩ := hbare j u hj
        have hj' : j < cs.length := (List.getElem?_eq_some_iff.1 hu0).1
        have hxj : xs[j]? = some xs[j] := List.getElem?_eq_getElem (by omega)
        rw [List.getD_eq_getElem?_getD, hxj]
        exact (((hx j _ hxj).2 u0 hu0).to_bare hb0).mono hev.bare
    exact rep_q_drop o h0
  refine ⟨g.frz b off cs.length, fun t v ht => ?_, h1, h2, h.defers, h.size, h.big⟩
  obtain ⟨u, hu, rfl⟩ := frzE_get ht
  obtain ⟨x, hx, hr⟩ := h.env t u hu
  refine ⟨x, hx, ?_⟩
  cases u with
  | p j o' =>
    simp only [V.frz]
    cases hji : Nat.beq j i with
    | false => exact hr.mono hev
    | true =>
      obtain rfl := Nat.eq_of_beq_eq_true hji
      cases hr with
      | p hp =>
        rw [hbx] at hp; cases hp
        exact hq o'
  | _ => exact hr.mono hev
theorem LC.same {P : Program} {F : Fr0} {N : Nat} {Q : LQ} {env : Env} {mem : Mem} {c : Code} (h : LC P F N c Q env mem) : LC P F N c Q env mem := h
/-- From now on the box i stays as it is. -/
theorem LC.freeze {P : Program} {F : Fr0} {N : Nat} {Q : LQ} {env : Env} {mem : Mem} {c : Code} (i : Nat) {cs cs' : List V} (hi : aget mem i = some (.b cs)) (hb : V.bare.go cs = some cs') (h : LC P F N c Q (frzE i cs' env) ((i, .x) :: mem)) : LC P F N c Q env mem := ⟨fun _ a w hr => by
  obtain ⟨g', hr'⟩ := hr.frz hi hb
  exact h.go g' a w hr'⟩
end Lf
end Go.Proofs.Ytgeccggkdgpkiaa
