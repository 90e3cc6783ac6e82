/- PriceSome: the law's function answers true at every input of bulk at most 1048576, and touches no old memory; from its walk to the given statement. Conditions: the statement's own bound, nothing else. -/
import Derived.Test.YtclkpjefklahfaaDoorCards
import Derived.Test.YtclkpjefklahfaaDoorTie
import Derived.WalkKit
import Derived.ProofKit
import Derived.OpenShut
import Derived.Deep.DeepHandedRow
import Derived.Lib.LaidTab
import Derived.Test.YtclkpjefklahfaaDoorQ767e761
/- Package price: Words, Room, Intrinsic; what is alive. -/
namespace Go.Proofs.YtclkpjefklahfaaDoor
open Go.RowKit Rg
set_option maxRecDepth 100000
namespace Pr
def words (n : Nat) : Nat := (n + 31) / 32
def room (l a : Nat) : Nat := min a (l - l / 64)
def base (made : Bool) : Nat := if made then 1200 else 500
def data : List UInt8 → Nat
  | [] => 0
  | x :: l => (if x = 0 then 4 else 16) + data l
def intrinsic (l : List UInt8) (made : Bool) : Nat := base made + data l
theorem data_app : ∀ a b, data (a ++ b) = data a + data b
  | [], _ => by simp [data]
  | x :: a, b => by simp only [List.cons_append, data, data_app a b]; omega
theorem data_le : ∀ l, data l ≤ 16 * l.length
  | [] => by simp [data]
  | x :: l => by
    have := data_le l
    simp only [data, List.length_cons]
    split <;> omega
theorem data_take {l : List UInt8} {i : Nat} {x : UInt8} (h : l[i]? = some x) : data (l.take (i + 1)) = data (l.take i) + if x = 0 then 4 else 16 := by
  rw [List.take_add_one, h, data_app]
  simp [data]
end Pr
namespace Lf
namespace Prw
theorem Words (n : Nat) (hn : n < 18446744073709551616) : LF Tryd.prog 11 [uK n] (fun _ => uK (Pr.words n)) none := by
  by_cases h : n % 32 > 0
  · have e : Pr.words n = n / 32 + 1 := by unfold Pr.words; omega
    rw [e]
    refine LFx.mk' tt Tryd.func11 rfl rfl rfl (by kernel_rfl) rfl rfl fun F => ?_
    exact wk trueW trueW trueW
  · have e : Pr.words n = n / 32 := by unfold Pr.words; omega
    rw [e]
    refine LFx.mk' tt Tryd.func11 rfl rfl rfl (by kernel_rfl) rfl rfl fun F => ?_
    exact wk trueW trueW trueW
theorem Room (l a : Nat) (hl : l < 18446744073709551616) (ha : a < 18446744073709551616) : LF Tryd.prog 10 [uK l, uK a] (fun _ => uK (Pr.room l a)) none := by
  have hm : (if ((l - l / 64 : Nat) : Int) < (a : Int) then ((l - l / 64 : Nat) : Int) else (a : Int)) = ((Pr.room l a : Nat) : Int) := by
    unfold Pr.room
    split
    · rw [Nat.min_eq_right (by omega)]
    · rw [Nat.min_eq_left (by omega)]
  have hw : IntKind.u64.wrap ((l : Int) - ((l / 64 : Nat) : Int)) = ((l - l / 64 : Nat) : Int) := by rw [wrap_u64 (by omega)]; omega
  refine LFx.mk' tt Tryd.func10 rfl rfl rfl (by kernel_rfl) rfl rfl fun F => ?_
  exact wk trueW trueW trueW
set_option maxHeartbeats 2000000 in
theorem Intrinsic (l : List UInt8) (made : Bool) (hl : l.length < 1073741824) : LF Tryd.prog 12 [.s none (l.map bK), .k (.bool made)] (fun _ => uK (Pr.intrinsic l made)) none := by
  have hd := Pr.data_le l
  cases made
  · refine LFx.mk' tt Tryd.func12 rfl rfl rfl (by kernel_rfl) rfl rfl fun F => ?_
    refine wk ?_ trueW trueW
    refine LC.loop2 (fun i S => [(0, .s none (l.map bK)), (5, uK S), (11, .s none (l.map bK)), (12, .k (.int .i64 ((l.length : Nat) : Int))), (13, .k (.int .i64 ((i : Nat) : Int)))]) (fun i S => []) (fun i S => i ≤ l.length ∧ S = Pr.intrinsic (l.take i) false ∧ S ≤ 1200 + 16 * i) ((l.length - ·)) (0) (500) ⟨by omega, rfl, by omega⟩ ⟨rfl, rfl, rfl, rfl, rfl, trivial⟩ trivial rfl (by first | exact rfl | (simp only [V.cells, refsE, refsM, V.refs, V.refs.go, V.pure, V.pure.go, pure_mapq, pure_mapb, pure_mapu, refs_mapq, refs_mapb, refs_mapu, refs_append, Bool.and_true, Bool.true_and, Bool.and_self] <;> exact rfl) | (simp only [V.cells, refsE, refsM, V.refs, V.refs.go, V.pure, V.pure.go, pure_mapq, pure_mapb, pure_mapu, refs_mapq, refs_mapb, refs_mapu, refs_append, Bool.and_true, Bool.true_and, Bool.and_self, hrf] <;> exact rfl) | (simp only [V.cells, refsE, refsM, V.refs, V.refs.go, V.pure, V.pure.go, pure_mapq, pure_mapb, pure_mapu, refs_mapq, refs_mapb, refs_mapu, refs_append, Bool.and_true, Bool.true_and, Bool.and_self, hrf, hrg] <;> exact rfl) | exact lz) (by first | exact rfl | (simp only [V.cells, refsE, refsM, V.refs, V.refs.go, V.pure, V.pure.go, pure_mapq, pure_mapb, pure_mapu, refs_mapq, refs_mapb, refs_mapu, refs_append, Bool.and_true, Bool.true_and, Bool.and_self] <;> exact rfl) | (simp only [V.cells, refsE, refsM, V.refs, V.refs.go, V.pure, V.pure.go, pure_mapq, pure_mapb, pure_mapu, refs_mapq, refs_mapb, refs_mapu, refs_append, Bool.and_true, Bool.true_and, Bool.and_self, hrf] <;> exact rfl) | (simp only [V.cells, refsE, refsM, V.refs, V.refs.go, V.pure, V.pure.go, pure_mapq, pure_mapb, pure_mapu, refs_mapq, refs_mapb, refs_mapu, refs_append, Bool.and_true, Bool.true_and, Bool.and_self, hrf, hrg] <;> exact rfl) | exact lz) ?_
    rintro i S ⟨hi, hS, hb⟩
    rcases Nat.lt_or_ge i l.length with h | h
    · have hli : l[i]? = some (l.getD i default) := by rw [List.getD_eq_getElem?_getD, List.getElem?_eq_getElem h]; rfl
      have ht := Pr.data_take hli
      by_cases h0 : l.getD i default = 0
      · rw [if_pos h0] at ht
        have hz : (((l.getD i default).toNat : Nat) : Int) = 0 := by rw [h0]; rfl
        have hok : i + 1 ≤ l.length ∧ S + 4 = Pr.intrinsic (l.take (i + 1)) false ∧ S + 4 ≤ 1200 + 16 * (i + 1) := ⟨by omega, by unfold Pr.intrinsic at hS ⊢; omega, by omega⟩
        clear hS ht h0
        exact wk trueW trueW trueW
      · rw [if_neg h0] at ht
        have hz : ¬ (((l.getD i default).toNat : Nat) : Int) = 0 := fun e => h0 (UInt8.toNat_inj.1 (by show (l.getD i default).toNat = 0; omega))
        have hok : i + 1 ≤ l.length ∧ S + 16 = Pr.intrinsic (l.take (i + 1)) false ∧ S + 16 ≤ 1200 + 16 * (i + 1) := ⟨by omega, by unfold Pr.intrinsic at hS ⊢; omega, by omega⟩
        clear hS ht h0
        exact wk trueW trueW trueW
    · obtain rfl : i = l.length := by omega
      rw [List.take_length] at hS
      subst hS
      exact wk trueW trueW trueW
  · refine LFx.mk' tt Tryd.func12 rfl rfl rfl (by kernel_rfl) rfl rfl fun F => ?_
    refine wk ?_ trueW trueW
    refine LC.loop2 (fun i S => [(0, .s none (l.map bK)), (5, uK S), (11, .s none (l.map bK)), (12, .k (.int .i64 ((l.length : Nat) : Int))), (13, .k (.int .i64 ((i : Nat) : Int)))]) (fun i S => []) (fun i S => i ≤ l.length ∧ S = Pr.intrinsic (l.take i) true ∧ S ≤ 1200 + 16 * i) ((l.length - ·)) (0) (1200) ⟨by omega, rfl, by omega⟩ ⟨rfl, rfl, rfl, rfl, rfl, trivial⟩ trivial rfl (by first | exact rfl | (simp only [V.cells, refsE, refsM, V.refs, V.refs.go, V.pure, V.pure.go, pure_mapq, pure_mapb, pure_mapu, refs_mapq, refs_mapb, refs_mapu, refs_append, Bool.and_true, Bool.true_and, Bool.and_self] <;> exact rfl) | (simp only [V.cells, refsE, refsM, V.refs, V.refs.go, V.pure, V.pure.go, pure_mapq, pure_mapb, pure_mapu, refs_mapq, refs_mapb, refs_mapu, refs_append, Bool.and_true, Bool.true_and, Bool.and_self, hrf] <;> exact rfl) | (simp only [V.cells, refsE, refsM, V.refs, V.refs.go, V.pure, V.pure.go, pure_mapq, pure_mapb, pure_mapu, refs_mapq, refs_mapb, refs_mapu, refs_append, Bool.and_true, Bool.true_and, Bool.and_self, hrf, hrg] <;> exact rfl) | exact lz) (by first | exact rfl | (simp only [V.cells, refsE, refsM, V.refs, V.refs.go, V.pure, V.pure.go, pure_mapq, pure_mapb, pure_mapu, refs_mapq, refs_mapb, refs_mapu, refs_append, Bool.and_true, Bool.true_and, Bool.and_self] <;> exact rfl) | (simp only [V.cells, refsE, refsM, V.refs, V.refs.go, V.pure, V.pure.go, pure_mapq, pure_mapb, pure_mapu, refs_mapq, refs_mapb, refs_mapu, refs_append, Bool.and_true, Bool.true_and, Bool.and_self, hrf] <;> exact rfl) | (simp only [V.cells, refsE, refsM, V.refs, V.refs.go, V.pure, V.pure.go, pure_mapq, pure_mapb, pure_mapu, refs_mapq, refs_mapb, refs_mapu, refs_append, Bool.and_true, Bool.true_and, Bool.and_self, hrf, hrg] <;> exact rfl) | exact lz) ?_
    rintro i S ⟨hi, hS, hb⟩
    rcases Nat.lt_or_ge i l.length with h | h
    · have hli : l[i]? = some (l.getD i default) := by rw [List.getD_eq_getElem?_getD, List.getElem?_eq_getElem h]; rfl
      have ht := Pr.data_take hli
      by_cases h0 : l.getD i default = 0
      · rw [if_pos h0] at ht
        have hz : (((l.getD i default).toNat : Nat) : Int) = 0 := by rw [h0]; rfl
        have hok : i + 1 ≤ l.length ∧ S + 4 = Pr.intrinsic (l.take (i + 1)) true ∧ S + 4 ≤ 1200 + 16 * (i + 1) := ⟨by omega, by unfold Pr.intrinsic at hS ⊢; omega, by omega⟩
        clear hS ht h0
        exact wk trueW trueW trueW
      · rw [if_neg h0] at ht
        have hz : ¬ (((l.getD i default).toNat : Nat) : Int) = 0 := fun e => h0 (UInt8.toNat_inj.1 (by show (l.getD i default).toNat = 0; omega))
        have hok : i + 1 ≤ l.length ∧ S + 16 = Pr.intrinsic (l.take (i + 1)) true ∧ S + 16 ≤ 1200 + 16 * (i + 1) := ⟨by omega, by unfold Pr.intrinsic at hS ⊢; omega, by omega⟩
        clear hS ht h0
        exact wk trueW trueW trueW
    · obtain rfl : i = l.length := by omega
      rw [List.take_length] at hS
      subst hS
      exact wk trueW trueW trueW
theorem eqS (a b : List UInt8) : arithS .eql ⟨a.toArray⟩ ⟨b.toArray⟩ = some (.bool (decide (a = b))) := by
  simp only [arithS, ByteArray.toList_mk]
  by_cases h : a = b
  · subst h; simp
  · simp [h]
set_option maxHeartbeats 2000000 in
theorem alive13 : LF Tryd.prog 7 [] (fun _ => .k (.bool true)) none := by
  have c1 := Op 1 (by decide)
  have c2 := Words 33 (by decide)
  have c3 := Room 640 1000 (by decide) (by decide)
  have c4 := Intrinsic [0, 1] false (by decide)
  have c5 := Cw.Name 1 (by decide)
  rw [show Pr.opN 1 = 3 by decide] at c1
  rw [show Pr.words 33 = 2 by decide] at c2
  rw [show Pr.room 640 1000 = 630 by decide] at c3
  rw [show Pr.intrinsic [0, 1] false = 520 by decide] at c4
  rw [show Cn.name 1 = [97, 100, 100] by decide] at c5
  refine LFx.mk' tt Tryd.func7 rfl rfl rfl (by kernel_rfl) rfl rfl fun F => ?_
  exact wk trueW trueW trueW
end Prw
end Lf
end Go.Proofs.YtclkpjefklahfaaDoor

/- A slice held against nil; a fresh row that a call hands back; Clone. -/
namespace Go.Proofs.YtclkpjefklahfaaDoor
open Go.RowKit Rg
namespace Lf
section
variable {P : Program} {F : Fr0} {N : Nat} {Q : LQ} {env : Env} {mem : Mem} {ops : Array Oper} {o : Oper} {rs : List Oper} {d : Nat}
/-- Whether a slice is nil is not told: both ways are walked. -/
theorem LS.eqNil {T Y e : Nat} {x : Operand} {t : Option Nat} {es : List V} (X : TOk P) {ti : TI} (hg : gd ops env o = some true) (hds : o.dst = some d) (ho : o.op = .binOp .eql T x (.const (.slice none 0 0)) Y) (hx : evo env x = some (.s t es)) (hT : aget X.tab T = some ti) (hdt : ti.d = .sl e) (hd : Nat.blt d N = true)
    (h1 : es = [] → LS P F N ops rs Q ((d, .k (.bool true)) :: env) mem) (h2 : LS P F N ops rs Q ((d, .k (.bool false)) :: env) mem) : LS P F N ops (o :: rs) Q env mem := ⟨fun g a w hr => by
  have hu := (X.get hT).sl hdt
  have hgt : P.eqGuardType P.depth T = false := by
    obtain ⟨m, hm⟩ : ∃ m, P.depth = m + 1 := ⟨2 * (P.types.size + Made.depth) + 1, rfl⟩
    rw [hm]
    simp [Program.eqGuardType, hu]
  have hrun : ∀ (ad : Option Addr) (n c : Nat), a.eval x = .slice ad n c → (execOp a.eval o).run P w = .ok (.value (.bool ad.isNone)) w := fun ad n c h => by
    have q1 : (eqGuard .eql T x (.const (.slice none 0 0)) (.slice ad n c) (.slice none 0 0)).run P w = .ok () w := by
      unfold eqGuard
      simp [hgt, program, Sem.run]
    have q2 : (binOp .eql T (.slice ad n c) (.slice none 0 0)).run P w = .ok (.bool ad.isNone) w := by
      have e : Op.equal T (.slice ad n c) (.slice none 0 0) = Op.equalIn (9999 + 1) T (.slice ad n c) (.slice none 0 0) := rfl
      have q3 : (Op.equalIn (9999 + 1) T (.slice ad n c) (.slice none 0 0)).run P w = .ok ad.isNone w := by
        rw [Op.equalIn, Sem.run_bind, run_underlying hu w]
        cases ad <;> rfl
      simp only [binOp, e, Sem.run_bind, q3, Result.andThen_ok]
      rfl
    have hx2 : a.eval (.const (.slice none 0 0)) = .slice none 0 0 := rfl
    simp only [execOp, ho, h, hx2, Sem.run_bind, q1, Result.andThen_ok, q2]
    rfl
  have hdd : dok o.dst N = true := by rw [hds]; exact hd
  have hrep := hr.evo hx
  refine wpList_step fun K hK => ?_
  rw [gd_wanted hr hg, if_pos rfl]
  have go : ∀ b : Bool, (execOp a.eval o).run P w = .ok (.value (.bool b)) w → LS P F N ops rs Q ((d, .k (.bool b)) :: env) mem → o.wp P a w K (liftQ F N Q) := fun b hb hl => by
    unfold Oper.wp
    rw [hb]
    refine hK _ _ (hl.go g _ w ?_)
    have := hr.put (Ev.refl g w) hr.mem hr.kept (Rep.k (w := w) (g := g) (.bool b)) hdd
    rw [hds] at this
    rw [hds]
    exact this
  generalize hv : a.eval x = v at hrep
  cases hrep with
  | s0 => exact go true (hrun _ _ _ hv) (h1 rfl)
  | se => exact go false (hrun _ _ _ hv) h2
  | s => exact go false (hrun _ _ _ hv) h2⟩
end
theorem LM.row1 {P : Program} {f : Nat} {args es : List V} {E sz n k0 : Nat} (hA : ∀ (ρ : Nat → Nat), args.map (V.ren ρ) = args) (h : LM P f args [] fun o m => o = .ret (.s (some k0) es) ∧ m = [(k0, .r E sz n)]) (k : Nat) : LM P f args [] fun o m => o = .ret (.s (some k) es) ∧ m = [(k, .r E sz n)] :=
  LM.gen [k0] [k] (by simp) (by simp) rfl h fun ρ hρ => by
    simp at hρ
    refine ⟨hA _, rfl, ?_, ?_⟩
    · simp [Out.ren, V.ren, hρ]
    · simp [Mem.ren, M.ren, hρ]
/-- A call that hands back a fresh row. -/
theorem DR.cr {P : Program} {N : Nat} {ops : Array Oper} {chk : List (Nat × Tch) → Bool} {K : Env → Mem → Prop} {acc : List (Nat × Tch)} {env : Env} {mem : Mem} {i d : Nat} {o : Oper} {rs : List (Nat × Oper)} {fx E sz n : Nat} {xs : List Operand} {ts : Array Nat} {us args es : List V}
    (ho : o.op = .call { callee := .value (.func fx), args := xs.toArray, argTypes := ts }) (hg : gd ops env o = some true) (hds : o.dst = some d) (hx : evs env xs = some us) (hc : ∀ k, LM P fx args [] fun o m => o = .ret (.s (some k) es) ∧ m = [(k, .r E sz n)]) (hu : Fits us args) (hr : V.refs.go [] args = true) (ht : aget mem d = none) (hd : Nat.blt d N = true)
    (hK : DR P N ops chk K rs ((i, callT [] [(d, .r E sz n)]) :: acc) ((d, .s (some d) es) :: env) ((d, .r E sz n) :: mem)) : DR P N ops chk K ((i, o) :: rs) acc env mem :=
  DR.cm hg hds (Does.callM (hc d) ho hx hu (by rw [hr]; rfl)) ⟨ht, trivial⟩ hd hK
end Lf
end Go.Proofs.YtclkpjefklahfaaDoor

/- Room made ahead (append of make onto nil, cut back to nothing): slices.Grow; Concat. -/
namespace Go.Proofs.YtclkpjefklahfaaDoor
open Go.RowKit Rg
namespace Lf
section
variable {P : Program} {o : Oper} {env : Env}
theorem run_appMake {T Tx E ty n : Nat} {kd kx : IntKind} {ei : TI} {w : World} (hu : P.underlying T = some (.slice E)) (hx : P.underlying Tx = some (.int kx)) (hE : TIok P E ei) (hn : 0 < n) (hmax : n ≤ 140737488355328) (hb : n * ei.bytes ≤ 140737488355328) :
    ∃ cs : Array Value, (Builtin.append_ #[T, Tx] ty #[.slice none 0 0, .int kd (n : Int)]).run P w = .ok (.slice (some ⟨w.heap.size, 0, none⟩) n (grownCap w n 0 E)) (w.drew.alloc (.cells cs E)) ∧ cs.size = grownCap w n 0 E * ei.size ∧ n ≤ grownCap w n 0 E ∧ grownCap w n 0 E ≤ maxLen := by
  obtain ⟨i, hi, hsz, hby, z, hz, _, hzs, _⟩ := hE.info
  rw [← hby] at hb
  rw [← hsz] at hzs ⊢
  have hge := grownCap_ge w n 0 E
  have h63 : n ≤ maxLen := by simp only [maxLen]; omega
  have hcm : grownCap w n 0 E ≤ maxLen := grownCap_le_maxLen w n 0 E h63
  have hw : IntKind.i64.wrap (n : Int) = (n : Int) := wrap_i64 (by omega)
  have hfit : Builtin.nextslicecap n 0 * i.bytes ≤ 281474976710656 := by have := growslice_fits (old := 0) (need := n) (by omega) hb; simpa using this
  have h1 : ¬ n = 0 := by omega
  have h2 : ¬ (9223372036854775807 < (n : Int)) := by omega
  have h3 : ¬ (281474976710656 < Builtin.nextslicecap n 0 * i.bytes) := by omega
  have h4 : ¬ (281474976710656 < (n : Int) * (i.bytes : Int)) := by
    have : (n : Int) * (i.bytes : Int) = ((n * i.bytes : Nat) : Int) := by rw [Int.natCast_mul]
    rw [this]; omega
  have h5 : ¬ ((n : Int) < 0) := by omega
  refine ⟨#[] ++ Builtin.zeroCells z.cells n ++ Builtin.zeroCells z.cells (grownCap w n 0 E - n), ?_, ?_, hge, hcm⟩
  · simp [Builtin.append_, run_underlying hu, run_underlying hx, sizeOf, typeInfo, zeroValue, hi, hz, asInt, asIntOf, hw, h1, h2, h3, h4, h5, Question.forced, newRow, grownCap, Builtin.firstCells]
    intro h
    have : Builtin.zeroCells z.cells n = #[] := Array.eq_empty_of_size_eq_zero (by rw [size_zeroCells, hzs]; exact h)
    rw [this]
    simp
  · simp only [Array.size_append, List.size_toArray, List.length_nil, size_zeroCells, hzs, Nat.zero_add, ← Nat.add_mul]
    congr 1
    omega
theorem drew_rel {F : Fr0} {g : Gh} {w : World} {mem : Mem} (h : RelM F g mem w) (hk : Kept F g w) : Ev g w g w.drew ∧ RelM F g mem w.drew ∧ Kept F g w.drew :=
  h.ext hk (Below.refl w.heap.size w).drew (fun _ _ _ => Iff.rfl) rfl rfl fun b o hb => h.fut b o hb
/-- append of so many noughts onto nil: room. -/
theorem Does.appMake {T Tx E i n : Nat} {kd kx : IntKind} {x y : Operand} {z : Int} (X : TOk P) {ti xi ei : TI} (ho : o.op = .call { callee := .builtin .append, args := #[x, y], argTypes := #[T, Tx] }) (hx : evo env x = some .nil) (hy : evo env y = some (.k (.int kd z))) (hz : z = ((n : Nat) : Int)) (hT : aget X.tab T = some ti) (hd : ti.d = .sl E) (hX : aget X.tab Tx = some xi) (hdx : xi.d = .int kx) (hE : aget X.tab E = some ei) (hpos : Nat.blt 0 ei.size = true)
    (hn : 0 < n) (hmax : n ≤ 140737488355328) (hb : n * ei.bytes ≤ 140737488355328) : Does P o env (.w i 0 ei.size 0 n) [(i, none, some (.w E ei.size 0 []))] := by
  subst hz
  refine ⟨fun F g a w mem h1 h2 h3 h4 _ K Q hK => ?_⟩
  have hi := h4 _ _ _ mem_one
  have hrx := h1 x (by simp [ho, Op.operands, Call.operands]) _ hx
  have hry := rep_k (h1 y (by simp [ho, Op.operands, Call.operands]) _ hy)
  have hxe : a.eval x = .slice none 0 0 := by generalize a.eval x = v at hrx; cases hrx; rfl
  obtain ⟨cs, hrun, hcs, hle, hcm⟩ := run_appMake (P := P) (ty := o.type) (kd := kd) (w := w) ((X.get hT).sl hd) ((X.get hX).int hdx) (X.get hE) hn hmax hb
  obtain ⟨d1, d2, d3⟩ := drew_rel h2 h3
  have hpos' : 0 < ei.size := Nat.le_of_ble_eq_true hpos
  have hH : w.drew.heap.size = w.heap.size := rfl
  have hrw : (g.newR i w.drew.heap.size 0 0 (grownCap w n 0 E)).rw i = some (some w.drew.heap.size, 0, grownCap w n 0 E) := by simp [Gh.newR]
  have hown : (w.drew.alloc (.cells cs E)).oRow 0 E ei.size (.slice (some ⟨w.drew.heap.size, 0, none⟩) 0 (grownCap w n 0 E)) 0 [] :=
    ⟨by simp, .inr ⟨w.drew.heap.size, grownCap w n 0 E, cs, _, rfl, Nat.zero_le _, heap_alloc_new w.drew _, Nat.zero_le _, hcm, hcs, by simp, .inl rfl⟩⟩
  obtain ⟨e1, e2, e3⟩ := d2.newR d3 (i := i) (n := 0) (l := 0) (c := grownCap w n 0 E) (m' := .w E ei.size 0 []) (o := .cells cs E) hi (.w hrw ⟨hpos', by simp, ⟨[], hown, by simp⟩, fun b hb o hS => by cases hb; have := hS.2 rfl; omega⟩) fun b o' ⟨l, c', hp'⟩ => by rw [hrw] at hp'; cases hp'; rfl
  unfold Oper.wp
  have hrun' : (execOp a.eval o).run P w = .ok (.value (.slice (some ⟨w.heap.size, 0, none⟩) n (grownCap w n 0 E))) (w.drew.alloc (.cells cs E)) := by
    simp [execOp, ho, resolve, invoke, builtin, hxe, hry, hrun]
  rw [hrun']
  exact hK _ _ _ (d1.trans e1) e2 e3 (.w ⟨_, _, _, hrw, Nat.le_refl _, fun _ => ⟨by omega, by omega, fun _ => by simp [hH]⟩⟩)
/-- Room cut back to nothing: the beginning of a row. -/
theorem Does.cutW0 {T E i n e : Nat} {x : Operand} {hi : Option Operand} {es : List V} (X : TOk P) {ti ei : TI} (ho : o.op = .slice T x none hi none) (hx : evo env x = some (.w i 0 ei.size 0 n)) (hT : aget X.tab T = some ti) (hd : ti.d = .sl e) (hE : aget X.tab e = some ei) (hhi : Bd env n hi 0) :
    Does P o env (.s (some i) []) [(i, some (.w E ei.size 0 es), some (.r E ei.size 0))] := by
  refine ⟨fun F g a w mem h1 h2 h3 h4 _ K Q hK => ?_⟩
  have hi' := h4 _ _ _ mem_one
  have hrx := h1 x (by simp [ho, Op.operands]) _ hx
  have b2 := hhi.val (a := a) (fun y hy u hu => h1 y (by subst hy; simp [ho, Op.operands]) u hu)
  obtain ⟨ao, c, hrw, hB⟩ := h2.buf hi'
  obtain ⟨xs, hown, _⟩ := hB.own
  generalize hv : a.eval x = v at hrx
  cases hrx with
  | @w _ _ _ _ _ _ ad cap h =>
    obtain ⟨a', l, c', k1, k2, k3⟩ := h
    rw [hrw] at k1; cases k1
    obtain ⟨w1, w2, w3⟩ := k3 rfl
    have hcap : cap = c := by omega
    subst hcap
    have had := w3 (.inr rfl)
    simp only [Nat.zero_mul] at had
    have hcut := run_cutG (P := P) (a := ad) (n := n) (cap := cap) ((X.get hT).sl hd) (X.get hE).run_size (.inl ⟨rfl, rfl⟩) b2 (Nat.zero_le _) (Nat.zero_le _) w
    have hres : (if cap = 0 then ad else ad.map (·.add (0 * ei.size))) = ad := by
      split
      · rfl
      · rw [had]; cases ao <;> simp [Addr.add_lit]
    have hown0 : w.oRow 0 E ei.size (.slice (ao.map fun b => ⟨b, 0, none⟩) 0 cap) 0 [] := by
      refine ⟨by simp, ?_⟩
      rcases hown.2 with ⟨hv', _⟩ | ⟨q, cp, cur, fz, hv', hb0, hq, hnc, hcm, hcs, htk, hfz⟩
      · cases ao with
        | none => simp at hv'; exact .inl ⟨by simp [hv'.2], rfl⟩
        | some b => simp at hv'
      · cases ao with
        | none => simp at hv'
        | some b =>
          simp at hv'
          obtain ⟨rfl, rfl⟩ := hv'
          exact .inr ⟨b, cap, cur, fz, rfl, hb0, hq, Nat.zero_le _, hcm, hcs, by simp, hfz⟩
    obtain ⟨k1, k2⟩ := h2.step h3 (i := i) (m' := .r E ei.size 0) (Ev.refl g w) rfl rfl rfl (fun _ _ _ _ => ⟨rfl, rfl, fun h => h⟩) (fun _ _ _ => rfl) (fun _ _ => rfl) (fun _ _ => rfl) (.r hrw ⟨hB.pos, ⟨[], hown0⟩, fun b hb o _ => hB.free b hb o⟩) (fun b o hp => .inl ⟨_, hi', hp⟩) h2.fut
    unfold Oper.wp
    have hrun' : (execOp a.eval o).run P w = .ok (.value (.slice ad 0 cap)) w := by
      rw [hres] at hcut
      simp [execOp, ho, hv, hcut]
    rw [hrun']
    refine hK _ g w (Ev.refl g w) k1 k2 ?_
    have := Rep.row (es := []) (n := 0) (i := i) rfl hB.pos hrw hown0 (fun b hb => ?_) (by simp) (by simp)
    · rw [had]; exact this
    · subst hb; exact ⟨hB.lt rfl, fun o ho => by omega⟩
end
end Lf
end Go.Proofs.YtclkpjefklahfaaDoor

/- Grow from nil, and Concat, of bytes. -/
namespace Go.Proofs.YtclkpjefklahfaaDoor
open Go.RowKit Rg
namespace Lf
theorem Does.capNil {P : Program} {o : Oper} {env : Env} {x : Operand} {T : Nat} {ts : Array Nat} {e : Nat} (X : TOk P) {ti : TI} (ho : o.op = .call { callee := .builtin .cap, args := #[x], argTypes := ts }) (hts : ts[0]? = some T) (hx : evo env x = some .nil) (hT : aget X.tab T = some ti) (hd : ti.d = .sl e) : Does P o env (.k (.int .i64 ((0 : Nat) : Int))) [] :=
  .pure fun F g a w mem hr _ => by
    have hr0 := hr x (by simp [ho, Op.operands, Call.operands]) _ hx
    have hxe : a.eval x = .slice none 0 0 := by generalize a.eval x = v at hr0; cases hr0; rfl
    exact ⟨.int .i64 ((0 : Nat) : Int), by simp [execOp, ho, resolve, invoke, builtin, hxe, Builtin.cap_, hts, run_underlying ((X.get hT).sl hd), goInt], .k _⟩
theorem Does.cutNil {P : Program} {o : Oper} {env : Env} {T e : Nat} {x : Operand} {hi : Option Operand} (X : TOk P) {ti ei : TI} (ho : o.op = .slice T x none hi none) (hx : evo env x = some .nil) (hT : aget X.tab T = some ti) (hd : ti.d = .sl e) (hE : aget X.tab e = some ei) (hhi : Bd env 0 hi 0) : Does P o env .nil [] :=
  .pure fun F g a w mem hr _ => by
    have hr0 := hr x (by simp [ho, Op.operands]) _ hx
    have hxe : a.eval x = .slice none 0 0 := by generalize a.eval x = v at hr0; cases hr0; rfl
    have b2 := hhi.val (a := a) (fun y hy u hu => hr y (by subst hy; simp [ho, Op.operands]) u hu)
    have := run_cutG (P := P) (a := none) (n := 0) (cap := 0) ((X.get hT).sl hd) (X.get hE).run_size (.inl ⟨rfl, rfl⟩) b2 (Nat.zero_le _) (Nat.zero_le _) w
    rw [hxe] at hr0
    refine ⟨.slice none 0 0, ?_, hr0⟩
    simp [execOp, ho, hxe, this]
/-- A contract that hands back nil hands back the beginning of a row. -/
theorem LM.nilrow {P : Program} {f : Nat} {args : List V} (E sz k : Nat) (hp : Nat.blt 0 sz = true) (h : LM P f args [] fun o m => o = .ret .nil ∧ m = []) : LM P f args [] fun o m => o = .ret (.s (some k) []) ∧ m = [(k, .r E sz 0)] :=
  ⟨h.ok, fun g w vals h1 h2 h3 => Calls.mono (h.go g w vals h1 h2 h3) fun e w' ⟨o, mo, g', ⟨ho, hm⟩, hev, hrel, hk, hat⟩ => by
    subst ho; subst hm
    have hown0 : w'.oRow 0 E sz (.slice (Option.map (fun b => (⟨b, 0, none⟩ : Addr)) none) 0 0) 0 [] := oRow_nil w' 0 E sz
    have hgi : (g'.addRow k (none, 0, 0)).rw k = some (none, 0, 0) := by simp [Gh.addRow]
    obtain ⟨he, r2, r3⟩ := hrel.nilRow hk (i := k) (m := .r E sz 0) rfl (.r hgi ⟨Nat.le_of_ble_eq_true hp, ⟨_, hown0⟩, fun _ h => by cases h⟩) fun b o ⟨l, c, hp⟩ => by rw [hgi] at hp; cases hp
    obtain ⟨x, hx, hrep⟩ := hat
    cases hrep
    exact ⟨_, _, _, ⟨rfl, rfl⟩, hev.trans he, r2, r3, ⟨_, hx, .s0 fun r hr' => by cases hr'; exact ⟨none, 0, 0, hgi, Nat.le_refl _, fun _ => .inl rfl⟩⟩⟩⟩
namespace Sl4
set_option maxHeartbeats 1000000 in
theorem GrowB (n : Nat) (hn : n < 1073741824) (k : Nat) : LM Tryd.prog 19 [.nil, .k (.int .i64 (n : Int))] [] fun o m => o = .ret (.s (some k) []) ∧ m = [(k, .r 5 1 0)] := by
  rcases Nat.eq_zero_or_pos n with h0 | h0
  · subst h0
    refine LM.nilrow _ _ k rfl ?_
    refine LFx.mk' tt Tryd.func19 rfl rfl rfl (by kernel_rfl) rfl rfl fun F => ?_
    refine wk ?_ trueW trueW
    refine DR.pp rfl rfl (Does.capNil tt rfl rfl rfl rfl rfl) rfl ?_
    exact wk trueW trueW trueW
  · refine LM.row1 (k0 := 22) (fun _ => rfl) ?_ k
    refine LFx.mk' tt Tryd.func19 rfl rfl rfl (by kernel_rfl) rfl rfl fun F => ?_
    refine wk ?_ trueW trueW
    refine DR.pp rfl rfl (Does.capNil tt rfl rfl rfl rfl rfl) rfl ?_
    refine wk ?_ trueW trueW
    refine DR.pp rfl rfl (Does.capNil tt rfl rfl rfl rfl rfl) rfl ?_
    refine DR.pp rfl rfl (Does.cutNil tt rfl rfl rfl rfl rfl (.some rfl rfl)) rfl ?_
    refine wk ?_ trueW trueW
    refine DR.nn rfl rfl (Does.appMake (n := n) tt rfl rfl rfl rfl rfl rfl rfl rfl rfl rfl h0 (by omega) (by show n * 1 ≤ _; omega)) rfl rfl ?_
    refine wk ?_ trueW trueW
    refine DR.ww rfl rfl (Does.cutW0 tt rfl rfl rfl rfl rfl (.some rfl rfl)) rfl rfl ?_
    exact wk trueW trueW trueW
end Sl4
end Lf
end Go.Proofs.YtclkpjefklahfaaDoor

/- Concat of bytes. -/
namespace Go.Proofs.YtclkpjefklahfaaDoor
open Go.RowKit Rg
namespace Lf
abbrev bV (l : List UInt8) : V := .s none (l.map bK)
theorem flat_take {α : Type} {ls : List (List α)} {i : Nat} (h : i < ls.length) : (ls.take (i + 1)).flatten = (ls.take i).flatten ++ ls.getD i default := by
  rw [List.take_succ_eq_append_getElem h, List.flatten_append]
  simp [List.getD, h]
theorem flat_takeL {α : Type} {ls : List (List α)} {i : Nat} (h : i < ls.length) : (ls.take (i + 1)).flatten.length = (ls.take i).flatten.length + (ls.getD i default).length := by rw [flat_take h, List.length_append]
theorem flat_le {α : Type} {ls : List (List α)} {i : Nat} : (ls.take i).flatten.length ≤ ls.flatten.length := by
  have e : ls = ls.take i ++ ls.drop i := (List.take_append_drop i ls).symm
  have : ls.flatten.length = (ls.take i).flatten.length + (ls.drop i).flatten.length := by
    rw [← List.length_append, ← List.flatten_append, List.take_append_drop]
  omega
namespace Sl5
set_option maxHeartbeats 1000000 in
theorem ConcatB (ls : List (List UInt8)) (h1 : ls.length < 1073741824) (h2 : ls.flatten.length < 1073741824) (k : Nat) : LM Tryd.prog 13 [.s none (ls.map bV)] [] fun o m => o = .ret (.s (some k) (ls.flatten.map bK)) ∧ m = [(k, .r 5 1 ls.flatten.length)] := by
  refine LM.row1 (k0 := 24) (fun ρ => by simp [V.ren]) ?_ k
  have c1 := Sl4.GrowB ls.flatten.length h2 24
  refine LFx.mk' tt Tryd.func13 rfl rfl rfl (by kernel_rfl) rfl rfl fun F => ?_
  refine wk ?_ trueW trueW
  refine LC.loopN (fun i => [(0, .s none (ls.map bV)), (2, .nil), (3, .k (.int .i64 (((ls.take i).flatten.length : Nat) : Int))), (9, .s none (ls.map bV)), (10, .k (.int .i64 ((ls.length : Nat) : Int))), (11, .k (.int .i64 ((i : Nat) : Int)))]) (fun i => []) (fun i => i ≤ ls.length) ((ls.length - ·)) (0) (by omega) ⟨rfl, rfl, rfl, rfl, rfl, rfl, trivial⟩ trivial rfl (by first | exact rfl | (simp only [V.cells, refsE, refsM, V.refs, V.refs.go, V.pure, V.pure.go, pure_mapq, pure_mapb, pure_mapu, refs_mapq, refs_mapb, refs_mapu, refs_append, Bool.and_true, Bool.true_and, Bool.and_self] <;> exact rfl) | (simp only [V.cells, refsE, refsM, V.refs, V.refs.go, V.pure, V.pure.go, pure_mapq, pure_mapb, pure_mapu, refs_mapq, refs_mapb, refs_mapu, refs_append, Bool.and_true, Bool.true_and, Bool.and_self, hrf] <;> exact rfl) | (simp only [V.cells, refsE, refsM, V.refs, V.refs.go, V.pure, V.pure.go, pure_mapq, pure_mapb, pure_mapu, refs_mapq, refs_mapb, refs_mapu, refs_append, Bool.and_true, Bool.true_and, Bool.and_self, hrf, hrg] <;> exact rfl) | exact lz) (by first | exact rfl | (simp only [V.cells, refsE, refsM, V.refs, V.refs.go, V.pure, V.pure.go, pure_mapq, pure_mapb, pure_mapu, refs_mapq, refs_mapb, refs_mapu, refs_append, Bool.and_true, Bool.true_and, Bool.and_self] <;> exact rfl) | (simp only [V.cells, refsE, refsM, V.refs, V.refs.go, V.pure, V.pure.go, pure_mapq, pure_mapb, pure_mapu, refs_mapq, refs_mapb, refs_mapu, refs_append, Bool.and_true, Bool.true_and, Bool.and_self, hrf] <;> exact rfl) | (simp only [V.cells, refsE, refsM, V.refs, V.refs.go, V.pure, V.pure.go, pure_mapq, pure_mapb, pure_mapu, refs_mapq, refs_mapb, refs_mapu, refs_append, Bool.and_true, Bool.true_and, Bool.and_self, hrf, hrg] <;> exact rfl) | exact lz) ?_
  intro i hi
  have q1 := flat_le (ls := ls) (i := i)
  rcases Nat.lt_or_ge i ls.length with h3 | h3
  · have hok : i + 1 ≤ ls.length := h3
    have q2 := flat_takeL h3
    have q3 := flat_le (ls := ls) (i := i + 1)
    refine wk ?_ trueW trueW
    rw [← q2]
    exact wk trueW trueW trueW
  · obtain rfl : i = ls.length := by omega
    rw [List.take_length]
    refine wk ?_ trueW trueW
    refine LC.loopN (fun j => [(2, .nil), (6, .s (some 24) ((ls.take j).flatten.map bK)), (25, .s none (ls.map bV)), (26, .k (.int .i64 ((ls.length : Nat) : Int))), (27, .k (.int .i64 ((j : Nat) : Int)))]) (fun j => [(24, .r 5 1 (ls.take j).flatten.length)]) (fun j => j ≤ ls.length) ((ls.length - ·)) (0) (by omega) ⟨rfl, rfl, rfl, rfl, rfl, trivial⟩ ⟨rfl, trivial⟩ rfl (by first | exact rfl | (simp only [V.cells, refsE, refsM, V.refs, V.refs.go, V.pure, V.pure.go, pure_mapq, pure_mapb, pure_mapu, refs_mapq, refs_mapb, refs_mapu, refs_append, Bool.and_true, Bool.true_and, Bool.and_self] <;> exact rfl) | (simp only [V.cells, refsE, refsM, V.refs, V.refs.go, V.pure, V.pure.go, pure_mapq, pure_mapb, pure_mapu, refs_mapq, refs_mapb, refs_mapu, refs_append, Bool.and_true, Bool.true_and, Bool.and_self, hrf] <;> exact rfl) | (simp only [V.cells, refsE, refsM, V.refs, V.refs.go, V.pure, V.pure.go, pure_mapq, pure_mapb, pure_mapu, refs_mapq, refs_mapb, refs_mapu, refs_append, Bool.and_true, Bool.true_and, Bool.and_self, hrf, hrg] <;> exact rfl) | exact lz) (by first | exact rfl | (simp only [V.cells, refsE, refsM, V.refs, V.refs.go, V.pure, V.pure.go, pure_mapq, pure_mapb, pure_mapu, refs_mapq, refs_mapb, refs_mapu, refs_append, Bool.and_true, Bool.true_and, Bool.and_self] <;> exact rfl) | (simp only [V.cells, refsE, refsM, V.refs, V.refs.go, V.pure, V.pure.go, pure_mapq, pure_mapb, pure_mapu, refs_mapq, refs_mapb, refs_mapu, refs_append, Bool.and_true, Bool.true_and, Bool.and_self, hrf] <;> exact rfl) | (simp only [V.cells, refsE, refsM, V.refs, V.refs.go, V.pure, V.pure.go, pure_mapq, pure_mapb, pure_mapu, refs_mapq, refs_mapb, refs_mapu, refs_append, Bool.and_true, Bool.true_and, Bool.and_self, hrf, hrg] <;> exact rfl) | exact lz) ?_
    intro j hj
    have q1 := flat_le (ls := ls) (i := j)
    have q0 : ((ls.take j).flatten.map bK).length = (ls.take j).flatten.length := List.length_map _
    rcases Nat.lt_or_ge j ls.length with h4 | h4
    · have hok : j + 1 ≤ ls.length := h4
      have q2 := flat_takeL h4
      have q4 := flat_take h4
      have q3 := flat_le (ls := ls) (i := j + 1)
      refine wk ?_ trueW trueW
      rw [← q4]
      exact wk trueW trueW trueW
    · obtain rfl : j = ls.length := by omega
      rw [List.take_length]
      exact wk trueW trueW trueW
end Sl5
end Lf
end Go.Proofs.YtclkpjefklahfaaDoor

/- What the given statement tells of an argument: a lifted value by a datum of one's own, and a bound of its bulk. -/
namespace Go.Proofs.YtclkpjefklahfaaDoor
open Go.RowKit Rg Rp Go.WideShapes Go.ChangeShapes
namespace Lf
/-- Cells and what they read. -/
def RO (W : World) : List V → List Value → Prop
  | [], [] => True
  | u :: us, c :: cs => (u.one = true ∧ Rep W allS u c) ∧ RO W us cs
  | _, _ => False
theorem RO.append {W : World} : ∀ {us : List V} {cs : List Value} {vs : List V} {ds : List Value}, RO W us cs → RO W vs ds → RO W (us ++ vs) (cs ++ ds)
  | [], [], _, _, _, h => h
  | u :: us, c :: cs, _, _, h, k => ⟨h.1, RO.append h.2 k⟩
  | [], _ :: _, _, _, h, _ => h.elim
  | _ :: _, [], _, _, h, _ => h.elim
theorem RO.spec {W : World} : ∀ {us : List V} {cs : List Value}, RO W us cs → us.length = cs.length ∧ ∀ (j : Nat) u c, us[j]? = some u → cs[j]? = some c → u.one = true ∧ Rep W allS u c
  | [], [], _ => ⟨rfl, fun j u c h => by simp at h⟩
  | u :: us, c :: cs, h => by
    obtain ⟨h1, h2⟩ := RO.spec h.2
    refine ⟨by simp [h1], fun j a b ha hb => ?_⟩
    cases j with
    | zero => simp at ha hb; subst ha; subst hb; exact h.1
    | succ j => simp at ha hb; exact h2 j a b ha hb
  | [], _ :: _, h => h.elim
  | _ :: _, [], h => h.elim
theorem RO.flatten {W : World} : ∀ {uss : List (List V)} {css : List (List Value)}, uss.length = css.length → (∀ (j : Nat) us cs, uss[j]? = some us → css[j]? = some cs → RO W us cs) → RO W uss.flatten css.flatten
  | [], [], _, _ => trivial
  | us :: uss, cs :: css, hl, h => by
    rw [List.flatten_cons, List.flatten_cons]
    exact (h 0 us cs rfl rfl).append (RO.flatten (by simpa using hl) fun j a b ha hb => h (j + 1) a b (by simpa using ha) (by simpa using hb))
  | [], _ :: _, hl, _ => by simp at hl
  | _ :: _, [], hl, _ => by simp at hl
theorem mapM_some {α β : Type} {f : α → Option β} : ∀ {l : List α} {r : List β}, l.mapM f = some r → r.length = l.length ∧ ∀ (j : Nat) a, l[j]? = some a → ∃ b, r[j]? = some b ∧ f a = some b
  | [], r, h => by simp at h; subst h; simp
  | a :: l, r, h => by
    simp only [List.mapM_cons, Option.bind_eq_bind, Option.pure_def] at h
    obtain ⟨b, hb, h⟩ := Option.bind_eq_some_iff.1 h
    obtain ⟨bs, hbs, h⟩ := Option.bind_eq_some_iff.1 h
    cases h
    obtain ⟨h1, h2⟩ := mapM_some hbs
    refine ⟨by simp [h1], fun j x hj => ?_⟩
    cases j with
    | zero => simp at hj; subst hj; exact ⟨b, rfl, hb⟩
    | succ j => simp at hj; exact h2 j x hj
theorem list_choose {α : Type} {p : Nat → α → Prop} : ∀ (n : Nat), (∀ j, j < n → ∃ x, p j x) → ∃ xs : List α, xs.length = n ∧ ∀ j x, xs[j]? = some x → p j x
  | 0, _ => ⟨[], rfl, by simp⟩
  | n + 1, h => by
    obtain ⟨xs, hl, hx⟩ := list_choose n fun j hj => h j (by omega)
    obtain ⟨x, hp⟩ := h n (by omega)
    refine ⟨xs ++ [x], by simp [hl], fun j y hj => ?_⟩
    rcases Nat.lt_or_ge j xs.length with hlt | hge
    · rw [List.getElem?_append_left hlt] at hj; exact hx j y hj
    · rw [List.getElem?_append_right hge] at hj
      have : j - xs.length = 0 := by
        rcases Nat.eq_zero_or_pos (j - xs.length) with h0 | h0
        · exact h0
        · rw [List.getElem?_eq_none (by simp; omega)] at hj; cases hj
      rw [this] at hj
      simp at hj; subst hj
      obtain rfl : j = n := by omega
      exact hp
theorem range_flatten {s : Nat} : ∀ {n : Nat} {cs : List Value}, cs.length = n * s → ((List.range n).map fun i => (cs.drop (i * s)).take s).flatten = cs
  | 0, cs, h => by simp at h; subst h; rfl
  | n + 1, cs, h => by
    rw [List.range_succ_eq_map, List.map_cons, List.flatten_cons, List.map_map, Nat.zero_mul, List.drop_zero]
    have e := range_flatten (s := s) (n := n) (cs := cs.drop s) (by rw [List.length_drop, h, Nat.succ_mul]; omega)
    have e2 : ((List.range n).map ((fun i => (cs.drop (i * s)).take s) ∘ Nat.succ)) = (List.range n).map fun i => ((cs.drop s).drop (i * s)).take s := by
      refine List.map_congr_left fun i _ => ?_
      simp only [Function.comp, List.drop_drop, Nat.succ_mul]
      rw [Nat.add_comm]
    rw [e2, e]
    exact List.take_append_drop _ _
theorem flat_inv {α : Type} {f : α → List V} {k : Nat} (hk : 0 < k) : ∀ {l : List α} {J : Nat} {u : V}, (∀ a ∈ l, (f a).length = k) → (l.flatMap f)[J]? = some u → ∃ a, l[J / k]? = some a ∧ (f a)[J % k]? = some u
  | [], J, u, _, h => by simp at h
  | a :: l, J, u, hf, h => by
    rw [List.flatMap_cons] at h
    have ha := hf a (by simp)
    rcases Nat.lt_or_ge J k with hlt | hge
    · rw [List.getElem?_append_left (by omega)] at h
      exact ⟨a, by rw [Nat.div_eq_of_lt hlt]; rfl, by rw [Nat.mod_eq_of_lt hlt]; exact h⟩
    · rw [List.getElem?_append_right (by omega), ha] at h
      obtain ⟨b, h1, h2⟩ := flat_inv hk (fun a ha => hf a (by simp [ha])) h
      obtain ⟨J', rfl⟩ : ∃ J', J = J' + k := ⟨J - k, by omega⟩
      rw [Nat.add_sub_cancel] at h1 h2
      exact ⟨b, by rw [Nat.add_div_right _ hk]; exact h1, by rw [Nat.add_mod_right]; exact h2⟩
theorem sum_le {α β : Type} {f : α → Nat} {g : β → Nat} : ∀ {l : List α} {m : List β}, l.length = m.length → (∀ (j : Nat) a b, l[j]? = some a → m[j]? = some b → f a ≤ g b) → (l.map f).sum ≤ (m.map g).sum
  | [], [], _, _ => Nat.le_refl _
  | a :: l, b :: m, hl, h => by
    simp only [List.map_cons, List.sum_cons]
    exact Nat.add_le_add (h 0 a b rfl rfl) (sum_le (by simpa using hl) fun j x y hx hy => h (j + 1) x y (by simpa using hx) (by simpa using hy))
  | [], _ :: _, hl, _ => by simp at hl
  | _ :: _, [], hl, _ => by simp at hl
section
variable {H : Type} {enc : TypeId × Value → H} {P : Program} {W : World}
theorem sum_bulk (xs : List (DataW H × List MemPlace)) : (xs.map fun x => Rows.uptoBulk x.1).sum = Rows.uptoBulkAll (xs.map (·.1)) := by
  induction xs with
  | nil => simp [Rows.uptoBulkAll]
  | cons x r ih => simp [Rows.uptoBulkAll, ih]
/-- Cells of a type, as the given reader takes them: lifted by a datum of one's own. -/
structure Opn (enc : TypeId × Value → H) (P : Program) (W : World) (n T : Nat) {α : Type} (f : α → List V) (ok : α → Prop) (sz : α → Nat) : Prop where
  go : ∀ cs x, DataW.trod enc P W 0 (fun _ => true) true n T cs = some x → ∃ a, RO W (f a) cs ∧ ok a ∧ sz a ≤ Rows.uptoBulk x.1
theorem Opn.zero {T : Nat} {α : Type} {f : α → List V} {ok : α → Prop} {sz : α → Nat} : Opn enc P W 0 T f ok sz := ⟨fun cs x h => by simp [DataW.trod] at h⟩
theorem Opn.map {n T : Nat} {α β : Type} {f : α → List V} {ok : α → Prop} {sz : α → Nat} {f' : β → List V} {ok' : β → Prop} {sz' : β → Nat} (g : α → β) (h : Opn enc P W n T f ok sz) (hf : ∀ a, ok a → f' (g a) = f a) (hok : ∀ a, ok a → ok' (g a)) (hs : ∀ a, ok a → sz' (g a) ≤ sz a) : Opn enc P W n T f' ok' sz' :=
  ⟨fun cs x hx => by
    obtain ⟨a, h1, h2, h3⟩ := h.go cs x hx
    exact ⟨g a, by rw [hf a h2]; exact h1, hok a h2, Nat.le_trans (hs a h2) h3⟩⟩
theorem Opn.bool {n T : Nat} (hT : P.underlying T = some .bool) : Opn enc P W n T (fun b : Bool => [.k (.bool b)]) (fun _ => True) (fun _ => 1) := ⟨fun cs x h => by
  cases n with
  | zero => simp [DataW.trod] at h
  | succ n =>
    unfold DataW.trod at h
    rw [hT] at h
    split at h <;> rename_i hu <;> first | (cases hu; done) | skip
    all_goals first | (cases h; exact ⟨_, ⟨⟨rfl, .k _⟩, trivial⟩, trivial, by simp [Rows.uptoBulk]⟩) | cases h⟩
theorem Opn.int {n T : Nat} {k : IntKind} (hT : P.underlying T = some (.int k)) : Opn enc P W n T (fun z : Int => [.k (.int k z)]) (fun z => k.min ≤ z ∧ z ≤ k.max) (fun _ => 1) := ⟨fun cs x h => by
  cases n with
  | zero => simp [DataW.trod] at h
  | succ n =>
    unfold DataW.trod at h
    rw [hT] at h
    split at h <;> rename_i hu <;> first | (cases hu; done) | skip
    all_goals first | cases h | skip
    cases hu
    split at h
    · rename_i hw
      cases h
      obtain ⟨rfl, hw⟩ := hw
      exact ⟨_, ⟨⟨rfl, .k _⟩, trivial⟩, by simpa [Lit.wf] using hw, by simp [Rows.uptoBulk]⟩
    · cases h⟩
theorem Opn.str {n T : Nat} (hT : P.underlying T = some .string) : Opn enc P W n T (fun s : ByteArray => [.k (.string s)]) (fun s => s.size ≤ maxLen) (fun s => s.size + 1) := ⟨fun cs x h => by
  cases n with
  | zero => simp [DataW.trod] at h
  | succ n =>
    unfold DataW.trod at h
    rw [hT] at h
    split at h <;> rename_i hu <;> first | (cases hu; done) | skip
    all_goals first | cases h | skip
    split at h
    · rename_i hw
      cases h
      exact ⟨_, ⟨⟨rfl, .k _⟩, trivial⟩, hw, by simp [Rows.uptoBulk]⟩
    · cases h⟩
/-- A slice. -/
theorem Opn.sl {n T e k : Nat} {α : Type} {f : α → List V} {ok : α → Prop} {sz : α → Nat} (p : α → V) (hT : P.underlying T = some (.slice e)) (hc : P.cellsOf e = k) (hk : 0 < k) (hp : ∀ a, (p a).cells = f a) (h : Opn enc P W (n - 1) e f ok sz) :
    Opn enc P W n T (fun l : List α => [.s none (l.map p)]) (fun l => ∀ a ∈ l, ok a) (fun l => (l.map sz).sum + 1) := ⟨fun cs x hx => by
  cases n with
  | zero => simp [DataW.trod] at hx
  | succ n =>
    unfold DataW.trod at hx
    rw [hT] at hx
    split at hx <;> rename_i hu <;> first | (cases hu; done) | skip
    all_goals first | (cases hx; exact ⟨[], ⟨⟨rfl, .s0 (fun _ h => by cases h)⟩, trivial⟩, by simp, by simp [Rows.uptoBulk]⟩) | skip
    all_goals first | cases hx | skip
    cases hu
    rename_i a len cap
    simp only [hc] at hx
    split at hx
    · rename_i hb
      obtain ⟨_, hlc, hcm⟩ := hb
      obtain ⟨elems, he, hx⟩ := Option.bind_eq_some_iff.1 hx
      obtain ⟨rest, hr, hx⟩ := Option.map_eq_some_iff.1 hx
      subst hx
      obtain ⟨e1, e2⟩ := mapM_some he
      rw [List.length_range] at e1
      have key : ∀ j, j < len → ∃ y : α, (∃ b, elems[j]? = some b ∧ ok y ∧ sz y ≤ Rows.uptoBulk b.1) ∧ (f y).length = k ∧ ∀ i, i < k → ∃ u c, (f y)[i]? = some u ∧ W.cell? ((a.add (j * k)).add i) = some c ∧ u.one = true ∧ Rep W allS u c := fun j hj => by
        obtain ⟨b, h1, h2⟩ := e2 j j (by rw [List.getElem?_range hj])
        obtain ⟨ds, h3, h4⟩ := Option.bind_eq_some_iff.1 h2
        obtain ⟨y, k1, k2, k3⟩ := h.go ds b h4
        unfold World.cells? at h3
        split at h3
        · obtain ⟨m1, m2⟩ := mapM_some h3
          rw [List.length_range] at m1
          obtain ⟨l1, l2⟩ := k1.spec
          refine ⟨y, ⟨b, h1, k2, k3⟩, by omega, fun i hi => ?_⟩
          obtain ⟨c, c1, c2⟩ := m2 i i (by rw [List.getElem?_range hi])
          have hu : (f y)[i]? = some (f y)[i] := List.getElem?_eq_getElem (by omega)
          exact ⟨_, c, hu, c2, l2 i _ c hu c1⟩
        · cases h3
      obtain ⟨ys, hyl, hys⟩ := list_choose len key
      have hspot : 0 < cap → a.spot = none := fun h0 => by
        have : ∃ v : DataW H × List MemPlace, ((W.cells? 0 (a.add (0 * k)) k).bind (DataW.trod enc P W 0 (fun _ => true) true n e)) = some v := by
          rcases Nat.eq_zero_or_pos len with hl | hl
          · subst hl
            simp only [if_true] at hr
            obtain ⟨_, r2⟩ := mapM_some hr
            obtain ⟨v, _, hv⟩ := r2 0 0 (by rw [List.getElem?_range (by omega)])
            exact ⟨v, by simpa using hv⟩
          · obtain ⟨v, _, hv⟩ := e2 0 0 (by rw [List.getElem?_range hl])
            exact ⟨v, hv⟩
        obtain ⟨v, hv⟩ := this
        obtain ⟨ds, h3, _⟩ := Option.bind_eq_some_iff.1 hv
        unfold World.cells? at h3
        split at h3
        · obtain ⟨_, m2⟩ := mapM_some h3
          obtain ⟨c, _, c2⟩ := m2 0 0 (by rw [List.getElem?_range hk])
          obtain ⟨b, o, s⟩ := a
          cases s with
          | none => rfl
          | some s =>
            exfalso
            simp only [Addr.add, Nat.zero_mul] at c2
            simp [World.cell?] at c2
            split at c2 <;> simp at c2
        · cases h3
      refine ⟨ys, ⟨⟨rfl, ?_⟩, trivial⟩, fun y hy => ?_, ?_⟩
      · rcases Nat.eq_zero_or_pos cap with h0 | h0
        · obtain rfl : len = 0 := by omega
          subst h0
          have : ys = [] := List.eq_nil_of_length_eq_zero hyl
          subst this
          exact .se a (fun _ h => by cases h)
        · have hsp := hspot h0
          obtain ⟨b, o, s⟩ := a
          simp only at hsp
          subst hsp
          have hfl : ∀ y ∈ ys, (f y).length = k := fun y hy => by
            obtain ⟨j, hj⟩ := List.getElem?_of_mem hy
            exact (hys j y hj).2.1
          have hfe : (ys.map p).flatMap V.cells = ys.flatMap f := by
            rw [List.flatMap_map]
            congr 1
            funext y; exact hp y
          have hat : ∀ (J : Nat) u, (ys.flatMap f)[J]? = some u → ∃ c, W.cell? ⟨b, o + J, none⟩ = some c ∧ u.one = true ∧ Rep W allS u c := fun J u hu => by
            obtain ⟨y, h1, h2⟩ := flat_inv hk hfl hu
            obtain ⟨_, _, h3⟩ := hys _ y h1
            obtain ⟨u', c, k1, k2, k3⟩ := h3 (J % k) (Nat.mod_lt _ hk)
            rw [k1] at h2; cases h2
            rw [Addr.add_lit, Addr.add_lit, Nat.add_assoc, Nat.mul_comm, Nat.div_add_mod] at k2
            exact ⟨c, k2, k3⟩
          have hlen : (ys.map p).length = len := by simpa using hyl
          rw [← hlen]
          refine .s (size := k) (fun J => (W.cell? ⟨b, o + J, none⟩).getD undef) (by omega) hcm hk (fun v hv => ?_) (fun J u hu => ?_) (fun J u hu => ?_) (fun _ h => by cases h)
          · obtain ⟨y, hy, rfl⟩ := List.mem_map.1 hv
            rw [hp]
            refine ⟨hfl y hy, fun u hu => ?_⟩
            obtain ⟨J, hJ⟩ := List.getElem?_of_mem (List.mem_flatMap.2 ⟨y, hy, hu⟩)
            obtain ⟨_, _, h1, _⟩ := hat J u hJ
            exact h1
          · rw [hfe] at hu
            obtain ⟨c, h1, _⟩ := hat J u hu
            exact ⟨World.block_lt_of_cell? W ⟨b, o + J, none⟩ (by rw [h1]), trivial, by rw [h1]; rfl⟩
          · rw [hfe] at hu
            obtain ⟨c, h1, _, h2⟩ := hat J u hu
            rw [h1]
            exact h2
      · obtain ⟨j, hj⟩ := List.getElem?_of_mem hy
        obtain ⟨⟨b, _, h1, _⟩, _⟩ := hys j y hj
        exact h1
      · have := sum_le (f := sz) (g := fun x : DataW H × List MemPlace => Rows.uptoBulk x.1) (l := ys) (m := elems) (by omega) fun j y b hy hb => by
          obtain ⟨⟨b', hb', _, h1⟩, _⟩ := hys j y hy
          rw [hb] at hb'; cases hb'
          exact h1
        rw [sum_bulk] at this
        simp only [Rows.uptoBulk]
        omega
    · cases hx⟩
/-- A struct's fields, from a place on. -/
def tileB (P : Program) (total : Nat) : Nat → List Field → Bool
  | off, [] => Nat.beq off total
  | off, f :: r => Nat.beq f.offset off && tileB P total (off + P.cellsOf f.type) r
structure OpnFs (enc : TypeId × Value → H) (P : Program) (W : World) (n : Nat) (fs : List Field) {α : Type} (f : α → List V) (ok : α → Prop) (sz : α → Nat) : Prop where
  go : ∀ (total off : Nat) (cs : List Value) (xs : List (DataW H × List MemPlace)), tileB P total off fs = true → cs.length = total → (fs.mapM fun fl => DataW.trod enc P W 0 (fun _ => true) true n fl.type ((cs.drop fl.offset).take (P.cellsOf fl.type))) = some xs → ∃ a, RO W (f a) (cs.drop off) ∧ ok a ∧ sz a ≤ Rows.uptoBulkAll (xs.map (·.1))
theorem OpnFs.nil {n : Nat} : OpnFs enc P W n [] (fun _ : Unit => []) (fun _ => True) (fun _ => 0) := ⟨fun total off cs xs ht hl hx => by
  have : off = total := Nat.eq_of_beq_eq_true ht
  refine ⟨(), ?_, trivial, Nat.zero_le _⟩
  rw [List.drop_of_length_le (by omega)]
  trivial⟩
theorem OpnFs.cons {n : Nat} {fl : Field} {fs : List Field} {α β : Type} {f : α → List V} {ok : α → Prop} {sz : α → Nat} {f' : β → List V} {ok' : β → Prop} {sz' : β → Nat} (h : Opn enc P W n fl.type f ok sz) (k : OpnFs enc P W n fs f' ok' sz') :
    OpnFs enc P W n (fl :: fs) (fun x : α × β => f x.1 ++ f' x.2) (fun x => ok x.1 ∧ ok' x.2) (fun x => sz x.1 + sz' x.2) := ⟨fun total off cs xs ht hl hx => by
  simp only [tileB, Bool.and_eq_true] at ht
  have ho : fl.offset = off := Nat.eq_of_beq_eq_true ht.1
  simp only [List.mapM_cons, Option.bind_eq_bind, Option.pure_def] at hx
  obtain ⟨b, hb, hx⟩ := Option.bind_eq_some_iff.1 hx
  obtain ⟨bs, hbs, hx⟩ := Option.bind_eq_some_iff.1 hx
  cases hx
  obtain ⟨a, a1, a2, a3⟩ := h.go _ _ hb
  obtain ⟨c, c1, c2, c3⟩ := k.go _ _ _ _ ht.2 hl hbs
  refine ⟨(a, c), ?_, ⟨a2, c2⟩, by simp only [List.map_cons, Rows.uptoBulkAll]; omega⟩
  have := a1.append c1
  rw [ho, ← List.drop_drop, List.take_append_drop] at this
  exact this⟩
theorem Opn.st {n T : Nat} {fs : Array Field} {α : Type} {f : α → List V} {ok : α → Prop} {sz : α → Nat} (hT : P.underlying T = some (.struct fs)) (ht : tileB P (P.cellsOf T) 0 fs.toList = true) (h : OpnFs enc P W (n - 1) fs.toList f ok sz) :
    Opn enc P W n T f ok (fun a => sz a + 1) := ⟨fun cs x hx => by
  cases n with
  | zero => simp [DataW.trod] at hx
  | succ n =>
    have hx : (if cs.length = P.cellsOf T then (fs.toList.mapM fun fl => DataW.trod enc P W 0 (fun _ => true) true n fl.type ((cs.drop fl.offset).take (P.cellsOf fl.type))).map fun xs => (DataW.agg (xs.map (·.1)), xs.flatMap (·.2)) else none) = some x := by
      unfold DataW.trod at hx
      rw [hT] at hx
      exact hx
    split at hx
    · rename_i hl
      obtain ⟨xs, hxs, hx⟩ := Option.map_eq_some_iff.1 hx
      subst hx
      obtain ⟨a, h1, h2, h3⟩ := h.go _ _ _ _ ht hl hxs
      rw [List.drop_zero] at h1
      exact ⟨a, h1, h2, by simp only [Rows.uptoBulk]; omega⟩
    · cases hx⟩
/-- An array. -/
theorem Opn.ar {n T m e : Nat} {α : Type} {f : α → List V} {ok : α → Prop} {sz : α → Nat} (hT : P.underlying T = some (.array m e)) (hc : P.cellsOf T = m * P.cellsOf e) (h : Opn enc P W (n - 1) e f ok sz) :
    Opn enc P W n T (fun l : List α => l.flatMap f) (fun l => l.length = m ∧ ∀ a ∈ l, ok a) (fun l => (l.map sz).sum + 1) := ⟨fun cs x hx => by
  cases n with
  | zero => simp [DataW.trod] at hx
  | succ n =>
    have hx : (if cs.length = P.cellsOf T then ((List.range m).mapM fun i => DataW.trod enc P W 0 (fun _ => true) true n e ((cs.drop (i * P.cellsOf e)).take (P.cellsOf e))).map fun xs => (DataW.agg (xs.map (·.1)), xs.flatMap (·.2)) else none) = some x := by
      unfold DataW.trod at hx
      rw [hT] at hx
      exact hx
    split at hx
    · rename_i hl
      obtain ⟨xs, hxs, hx⟩ := Option.map_eq_some_iff.1 hx
      subst hx
      obtain ⟨e1, e2⟩ := mapM_some hxs
      rw [List.length_range] at e1
      obtain ⟨ys, hyl, hys⟩ := list_choose (p := fun j (y : α) => (∃ b, xs[j]? = some b ∧ ok y ∧ sz y ≤ Rows.uptoBulk b.1) ∧ RO W (f y) ((cs.drop (j * P.cellsOf e)).take (P.cellsOf e))) m fun j hj => by
        obtain ⟨b, h1, h2⟩ := e2 j j (by rw [List.getElem?_range hj])
        obtain ⟨y, k1, k2, k3⟩ := h.go _ b h2
        exact ⟨y, ⟨b, h1, k2, k3⟩, k1⟩
      refine ⟨ys, ?_, ⟨hyl, fun y hy => ?_⟩, ?_⟩
      · have hrf := range_flatten (s := P.cellsOf e) (n := m) (cs := cs) (by rw [hl, hc])
        rw [← hrf, List.flatMap]
        refine RO.flatten (by simp [hyl]) fun j us ds h1 h2 => ?_
        rw [List.getElem?_map] at h1 h2
        obtain ⟨y, hy, rfl⟩ := Option.map_eq_some_iff.1 h1
        obtain ⟨i, hi, rfl⟩ := Option.map_eq_some_iff.1 h2
        have hjl : j < m := by have := (List.getElem?_eq_some_iff.1 hy).1; omega
        rw [List.getElem?_range hjl] at hi
        cases hi
        exact (hys j y hy).2
      · obtain ⟨j, hj⟩ := List.getElem?_of_mem hy
        obtain ⟨⟨b, _, h1, _⟩, _⟩ := hys j y hj
        exact h1
      · have := sum_le (f := sz) (g := fun x : DataW H × List MemPlace => Rows.uptoBulk x.1) (l := ys) (m := xs) (by omega) fun j y b hy hb => by
          obtain ⟨⟨b', hb', _, h1⟩, _⟩ := hys j y hy
          rw [hb] at hb'; cases hb'
          exact h1
        rw [sum_bulk] at this
        simp only [Rows.uptoBulk]
        omega
    · cases hx⟩
/-! ### Arguments -/
/-- A struct or an array. -/
def aggT (P : Program) (t : Nat) : Bool :=
  match P.underlying t with
  | some (.struct _) | some (.array _ _) => true
  | _ => false
theorem Opn.argA {T base : Nat} {α : Type} {f : α → List V} {ok : α → Prop} {sz : α → Nat} {v : Value} {d : DataW H} {ps : List MemPlace} (h : ∀ n, Opn enc P W n T f ok sz) (ha : aggT P T = true) (hv : Value.okWide P W .any base T v) (ht : DataW.Trod enc P W 0 (fun _ => true) true T v d ps) :
    ∃ a, Rep W allS (.a (f a)) v ∧ ok a ∧ sz a ≤ Rows.uptoBulk d := by
  obtain ⟨n, hn⟩ := ht
  obtain ⟨a, h1, h2, h3⟩ := (h n).go _ _ hn
  obtain ⟨cs, rfl⟩ : ∃ cs, v = .agg cs := by
    unfold Value.okWide at hv
    unfold aggT at ha
    split at hv
    · obtain ⟨cs, rfl, _⟩ := hv; exact ⟨cs, rfl⟩
    · obtain ⟨cs, rfl, _⟩ := hv; exact ⟨cs, rfl⟩
    · rename_i k1 k2
      split at ha
      · rename_i fs hu; exact absurd hu (k1 fs)
      · rename_i m e hu; exact absurd hu (k2 m e)
      · cases ha
  obtain ⟨l1, l2⟩ := h1.spec
  refine ⟨a, .a (by simpa [Value.cells] using l1) (fun u hu => ?_) (fun j u x hj hx => ?_), h2, h3⟩
  · obtain ⟨j, hj⟩ := List.getElem?_of_mem hu
    have hjl := (List.getElem?_eq_some_iff.1 hj).1
    have hx : (Value.cells (.agg cs)).toList[j]? = some (Value.cells (.agg cs)).toList[j] := List.getElem?_eq_getElem (by omega)
    exact (l2 j u _ hj hx).1
  · exact (l2 j u x hj (by simpa [Value.cells] using hx)).2
theorem ro_one {u : V} {cs : List Value} (h : RO W [u] cs) : ∃ c, cs = [c] ∧ Rep W allS u c := by
  match cs, h with
  | [c], h => exact ⟨c, rfl, h.1.2⟩
theorem Opn.arg1 {T base : Nat} {α : Type} {p : α → V} {ok : α → Prop} {sz : α → Nat} {v : Value} {d : DataW H} {ps : List MemPlace} (h : ∀ n, Opn enc P W n T (fun a => [p a]) ok sz) (ha : (match P.underlying T with | some .bool | some (.int _) | some .string | some (.slice _) => true | _ => false) = true) (hv : Value.okWide P W .any base T v) (ht : DataW.Trod enc P W 0 (fun _ => true) true T v d ps) :
    ∃ a, Rep W allS (p a) v ∧ ok a ∧ sz a ≤ Rows.uptoBulk d := by
  obtain ⟨n, hn⟩ := ht
  obtain ⟨a, h1, h2, h3⟩ := (h n).go _ _ hn
  have hc : v.cells = #[v] := by
    split at ha
    · rename_i hu; obtain ⟨b, rfl⟩ := okWide_bool hu hv; rfl
    · rename_i k hu; obtain ⟨b, rfl⟩ := okWide_int hu hv; rfl
    · rename_i hu; obtain ⟨b, rfl⟩ := okWide_string hu hv; rfl
    · rename_i e hu; obtain ⟨x, y, z, rfl⟩ := okWide_slice hu hv; rfl
    · cases ha
  rw [hc] at h1
  obtain ⟨c, hc', hr⟩ := ro_one h1
  simp at hc'
  subst hc'
  exact ⟨a, hr, h2, h3⟩
/-! ### Plain types -/
theorem Opn.u8 {n T : Nat} (hT : P.underlying T = some (.int .u8)) : Opn enc P W n T (fun b : UInt8 => [bK b]) (fun _ => True) (fun _ => 1) :=
  (Opn.int hT).map (fun z => UInt8.ofNat z.toNat) (fun z hz => by
    have h0 : IntKind.u8.min = 0 := rfl
    have h1 : IntKind.u8.max = 255 := rfl
    have e : (UInt8.ofNat z.toNat).toNat = z.toNat := UInt8.toNat_ofNat_of_lt (by show _ < 256; omega)
    have : ((z.toNat : Nat) : Int) = z := by omega
    simp only [bK, e, this]) (fun _ _ => trivial) fun _ _ => Nat.le_refl _
theorem Opn.u64 {n T : Nat} (hT : P.underlying T = some (.int .u64)) : Opn enc P W n T (fun b : UInt64 => [qK b]) (fun _ => True) (fun _ => 1) :=
  (Opn.int hT).map (fun z => UInt64.ofNat z.toNat) (fun z hz => by
    have h0 : IntKind.u64.min = 0 := rfl
    have h1 : IntKind.u64.max = 18446744073709551615 := rfl
    have e : (UInt64.ofNat z.toNat).toNat = z.toNat := UInt64.toNat_ofNat_of_lt (by show _ < 18446744073709551616; omega)
    have : ((z.toNat : Nat) : Int) = z := by omega
    simp only [qK, e, this]) (fun _ _ => trivial) fun _ _ => Nat.le_refl _
theorem Opn.i64 {n T : Nat} (hT : P.underlying T = some (.int .i64)) : Opn enc P W n T (fun z : Int => [.k (.int .i64 z)]) (fun z => -9223372036854775808 ≤ z ∧ z ≤ 9223372036854775807) (fun _ => 1) :=
  (Opn.int hT).map id (fun _ _ => rfl) (fun _ hz => hz) fun _ _ => Nat.le_refl _
theorem sum_map_one {α : Type} (l : List α) : (l.map fun _ => 1).sum = l.length := by induction l with
  | nil => rfl
  | cons a l ih => simp [ih]; omega
theorem flatMap_one {α : Type} (g : α → V) (l : List α) : l.flatMap (fun a => [g a]) = l.map g := by
  induction l with
  | nil => rfl
  | cons a l ih => rw [List.flatMap_cons, List.map_cons, ih]; rfl
/-- Bytes. -/
theorem Opn.bytes {n T e : Nat} (hT : P.underlying T = some (.slice e)) (hE : P.underlying e = some (.int .u8)) (hc : P.cellsOf e = 1) : Opn enc P W n T (fun l : List UInt8 => [.s none (l.map bK)]) (fun _ => True) (fun l => l.length + 1) :=
  (Opn.sl bK hT hc (by decide) (fun _ => rfl) (Opn.u8 hE)).map id (fun _ _ => rfl) (fun _ _ => trivial) fun l _ => by rw [sum_map_one]; exact Nat.le_refl _
theorem Opn.u64s {n T e : Nat} (hT : P.underlying T = some (.slice e)) (hE : P.underlying e = some (.int .u64)) (hc : P.cellsOf e = 1) : Opn enc P W n T (fun l : List UInt64 => [.s none (l.map qK)]) (fun _ => True) (fun l => l.length + 1) :=
  (Opn.sl qK hT hc (by decide) (fun _ => rfl) (Opn.u64 hE)).map id (fun _ _ => rfl) (fun _ _ => trivial) fun l _ => by rw [sum_map_one]; exact Nat.le_refl _
/-- An array of bytes, or of numbers. -/
theorem Opn.arr8 {n T e m : Nat} (hT : P.underlying T = some (.array m e)) (hE : P.underlying e = some (.int .u8)) (hc : P.cellsOf T = m * P.cellsOf e) : Opn enc P W n T (fun l : List UInt8 => l.map bK) (fun l => l.length = m) (fun l => l.length + 1) :=
  (Opn.ar hT hc (Opn.u8 hE)).map id (fun l _ => (flatMap_one bK l).symm) (fun _ h => h.1) fun l _ => by rw [sum_map_one]; exact Nat.le_refl _
theorem Opn.arr64 {n T e m : Nat} (hT : P.underlying T = some (.array m e)) (hE : P.underlying e = some (.int .u64)) (hc : P.cellsOf T = m * P.cellsOf e) : Opn enc P W n T (fun l : List UInt64 => l.map qK) (fun l => l.length = m) (fun l => l.length + 1) :=
  (Opn.ar hT hc (Opn.u64 hE)).map id (fun l _ => (flatMap_one qK l).symm) (fun _ h => h.1) fun l _ => by rw [sum_map_one]; exact Nat.le_refl _
end
end Lf
end Go.Proofs.YtclkpjefklahfaaDoor

/- What the given statement tells of a number. -/
namespace Go.Proofs.YtclkpjefklahfaaDoor
open Go.RowKit Rg Rp Go.WideShapes Go.ChangeShapes
namespace Lf
section
variable {H : Type} {enc : TypeId × Value → H} {W : World} {P : Program}
theorem opnU8 {T n : Nat} (hT : P.underlying T = some (.int .u8)) : Opn enc P W n T (fun x : Nat => [.k (.int .u8 ((x : Nat) : Int))]) (fun x => x < 256) (fun _ => 1) :=
  (Opn.u8 hT).map (fun b => b.toNat) (fun _ _ => rfl) (fun b _ => b.toNat_lt) fun _ _ => Nat.le_refl _
theorem opnU64 {T n : Nat} (hT : P.underlying T = some (.int .u64)) : Opn enc P W n T (fun x : Nat => [uK x]) (fun x => x < 18446744073709551616) (fun _ => 1) :=
  (Opn.u64 hT).map (fun b => b.toNat) (fun _ _ => rfl) (fun b _ => b.toNat_lt) fun _ _ => Nat.le_refl _
end
end Lf
end Go.Proofs.YtclkpjefklahfaaDoor

/- The laws of package price. -/
namespace Go.Proofs.YtclkpjefklahfaaDoor
open Go.RowKit Rg
set_option maxRecDepth 100000
namespace Pr
theorem some0 : ∀ n, n < 256 → (n = 0 ∨ n = 242 ∨ n = 253 → opN n = 0) ∧ (¬ (n = 0 ∨ n = 242 ∨ n = 253) → (opN n = 0 ↔ Cn.name n = [])) := by decide +kernel
end Pr
namespace Lf
namespace Prw
set_option maxHeartbeats 4000000 in
theorem PriceSome (n : Nat) (hn : n < 256) : LF Tryd.prog 3 [.k (.int .u8 ((n : Nat) : Int))] (fun _ => .k (.bool true)) none := by
  have c1 := alive13
  have c2 := Op n hn
  have c3 := Cw.Name n hn
  obtain ⟨q1, q2⟩ := Pr.some0 n hn
  have hs := eqS (Cn.name n) []
  by_cases he : n = 0 ∨ n = 242 ∨ n = 253
  · have hz := q1 he
    rw [hz] at c2
    clear q1 q2 hs hz
    rcases he with rfl | rfl | rfl
    · refine LFx.mk' tt Tryd.func3 rfl rfl rfl (by kernel_rfl) rfl rfl fun F => ?_
      exact wk trueW trueW trueW
    · refine LFx.mk' tt Tryd.func3 rfl rfl rfl (by kernel_rfl) rfl rfl fun F => ?_
      exact wk trueW trueW trueW
    · refine LFx.mk' tt Tryd.func3 rfl rfl rfl (by kernel_rfl) rfl rfl fun F => ?_
      exact wk trueW trueW trueW
  · have q3 := q2 he
    have k1 : ¬ (n : Int) = 0 := by omega
    have k2 : ¬ (n : Int) = 242 := by omega
    have k3 : ¬ (n : Int) = 253 := by omega
    by_cases hz : Pr.opN n = 0
    · rw [decide_eq_true (q3.1 hz)] at hs
      rw [hz] at c2
      clear q1 q2 q3 hz he
      generalize Cn.name n = s at *
      refine LFx.mk' tt Tryd.func3 rfl rfl rfl (by kernel_rfl) rfl rfl fun F => ?_
      exact wk trueW trueW trueW
    · rw [decide_eq_false (fun e => hz (q3.2 e))] at hs
      clear q1 q2 q3 he
      generalize Cn.name n = s at *
      generalize Pr.opN n = p at *
      refine LFx.mk' tt Tryd.func3 rfl rfl rfl (by kernel_rfl) rfl rfl fun F => ?_
      exact wk trueW trueW trueW
set_option maxHeartbeats 4000000 in
theorem PriceRoom (l m a : Nat) (hl : l < 18446744073709551616) (hm : m < 18446744073709551616) (ha : a < 18446744073709551616) : LF Tryd.prog 4 [uK l, uK m, uK a] (fun _ => .k (.bool true)) none := by
  have c1 := alive13
  have c2 := Room l a hl ha
  have c3 := Room m a hm ha
  have h1 : Pr.room l a ≤ a := Nat.min_le_left _ _
  have h2 : Pr.room l a ≤ l - l / 64 := Nat.min_le_right _ _
  have h3 : l ≤ m → Pr.room l a ≤ Pr.room m a ∧ Pr.room m a - Pr.room l a ≤ m - l := fun h => by
    unfold Pr.room
    simp only [Nat.min_def]
    (repeat' split) <;> omega
  have hw1 : IntKind.u64.wrap ((l : Int) - (Pr.room l a : Int)) = ((l - Pr.room l a : Nat) : Int) := by rw [wrap_u64 (by omega)]; omega
  have h4 : ¬ l - Pr.room l a < l / 64 := by omega
  by_cases hlm : l ≤ m
  · have h5 := (h3 hlm).1
    have h6 := (h3 hlm).2
    have h7 : Pr.room m a ≤ a := Nat.min_le_left _ _
    clear h3
    generalize Pr.room l a = x at *
    generalize Pr.room m a = y at *
    have hw2 : IntKind.u64.wrap ((y : Int) - (x : Int)) = ((y - x : Nat) : Int) := by rw [wrap_u64 (by omega)]; omega
    have hw3 : IntKind.u64.wrap ((m : Int) - (l : Int)) = ((m - l : Nat) : Int) := by rw [wrap_u64 (by omega)]; omega
    refine LFx.mk' tt Tryd.func4 rfl rfl rfl (by kernel_rfl) rfl rfl fun F => ?_
    exact wk trueW trueW trueW
  · clear h3
    generalize Pr.room l a = x at *
    generalize Pr.room m a = y at *
    refine LFx.mk' tt Tryd.func4 rfl rfl rfl (by kernel_rfl) rfl rfl fun F => ?_
    exact wk trueW trueW trueW
set_option maxHeartbeats 4000000 in
theorem PriceWords (n : Nat) (hn : n < 18446744073709551616) : LF Tryd.prog 5 [uK n] (fun _ => .k (.bool true)) none := by
  have c1 := alive13
  have c2 := Words n hn
  have h1 : Pr.words n ≤ 576460752303423488 := by unfold Pr.words; omega
  have h2 : n ≤ Pr.words n * 32 := by unfold Pr.words; omega
  have h3 : Pr.words n ≠ 0 → (Pr.words n - 1) * 32 < n := by unfold Pr.words; omega
  generalize Pr.words n = w at *
  by_cases h0 : w = 0
  · have hn0 : n = 0 := by omega
    subst h0; subst hn0
    clear h3
    refine LFx.mk' tt Tryd.func5 rfl rfl rfl (by kernel_rfl) rfl rfl fun F => ?_
    exact wk trueW trueW trueW
  · have h4 := h3 h0
    have hn0 : ¬ n = 0 := by omega
    clear h3
    have hw1 : IntKind.u64.wrap ((w : Int) - 1) = ((w - 1 : Nat) : Int) := by rw [wrap_u64 (by omega)]; omega
    by_cases h5 : w = 576460752303423488
    · refine LFx.mk' tt Tryd.func5 rfl rfl rfl (by kernel_rfl) rfl rfl fun F => ?_
      exact wk trueW trueW trueW
    · have h6 : w * 32 < 18446744073709551616 := by omega
      refine LFx.mk' tt Tryd.func5 rfl rfl rfl (by kernel_rfl) rfl rfl fun F => ?_
      exact wk trueW trueW trueW
set_option maxHeartbeats 4000000 in
theorem PriceParts (a b : List UInt8) (made : Bool) (ha : a.length < 10000000) (hb : b.length < 10000000) : LF Tryd.prog 6 [.s none (a.map bK), .s none (b.map bK), .k (.bool made)] (fun _ => .k (.bool true)) none := by
  have c1 := alive13
  have hfl : [a, b].flatten = a ++ b := by simp
  have hgl : [b, a].flatten = b ++ a := by simp
  have hab : (a ++ b).length = a.length + b.length := List.length_append
  have hba : (b ++ a).length = b.length + a.length := List.length_append
  have c2 := Sl5.ConcatB [a, b] (show 2 < 1073741824 by decide) (by rw [hfl]; omega)
  have c3 := Sl5.ConcatB [b, a] (show 2 < 1073741824 by decide) (by rw [hgl]; omega)
  rw [hfl] at c2
  rw [hgl] at c3
  have c4 := Intrinsic [] false (by decide)
  have c5 := Intrinsic (a ++ b) made (by omega)
  have c6 := Intrinsic (b ++ a) made (by omega)
  have c7 := Intrinsic a made (by omega)
  have c8 := Intrinsic b false (by omega)
  have d1 := Pr.data_le a
  have d2 := Pr.data_le b
  have e1 : Pr.intrinsic (a ++ b) made = Pr.base made + Pr.data a + Pr.data b := by unfold Pr.intrinsic; rw [Pr.data_app]; omega
  have e2 : Pr.intrinsic (b ++ a) made = Pr.base made + Pr.data a + Pr.data b := by unfold Pr.intrinsic; rw [Pr.data_app]; omega
  have e3 : Pr.intrinsic a made = Pr.base made + Pr.data a := rfl
  have e4 : Pr.intrinsic b false = 500 + Pr.data b := rfl
  have e5 : Pr.intrinsic [] false = 500 := rfl
  rw [e1] at c5
  rw [e2] at c6
  rw [e3] at c7
  rw [e4] at c8
  rw [e5] at c4
  have hB : Pr.base made ≤ 1200 := by cases made <;> decide
  clear e1 e2 e3 e4 e5
  generalize Pr.data a = x at *
  generalize Pr.data b = y at *
  generalize Pr.base made = z at *
  have hw1 : IntKind.u64.wrap (((z + x + y : Nat) : Int) - ((z + x : Nat) : Int)) = ((y : Nat) : Int) := by rw [wrap_u64 (by omega)]; omega
  have hw2 : IntKind.u64.wrap (((500 + y : Nat) : Int) - ((500 : Nat) : Int)) = ((y : Nat) : Int) := by rw [wrap_u64 (by omega)]; omega
  refine LFx.mk' tt Tryd.func6 rfl rfl rfl (by kernel_rfl) rfl rfl fun F => ?_
  exact wk trueW trueW trueW
end Prw
end Lf
end Go.Proofs.YtclkpjefklahfaaDoor

/- PriceSome: the law's function answers true at every input of bulk at most 1048576, and touches no old memory; from its walk to the given statement. Conditions: the statement's own bound, nothing else. -/
namespace Go.Proofs.YtclkpjefklahfaaDoor.lawPriceSome
open Go.ChangeShapes Go.WideShapes Go.ChangeAt Go.RowKit Rp
set_option linter.unusedVariables false

theorem own : ownKnob Tryd.prog.godebug = none := by kernel_rfl
theorem laid : laidOutB Tryd.prog = true := by kernel_rfl
theorem rd_x0 : Tryd.prog.readableRec 5 = true ∧ 5 < Tryd.prog.types.size := ⟨by kernel_rfl, of_decide_eq_true (by kernel_rfl)⟩
theorem rds : ∀ t ∈ ([5] : List Nat), Tryd.prog.readableRec t = true ∧ t < Tryd.prog.types.size := by
  intro t ht
  rcases List.mem_cons.1 ht with rfl | ht
  · exact rd_x0
  cases ht

theorem contract (H : Type) (enc : TypeId × Value → H) (W : World) (base : Nat) (args : Array Value) (ds gs : List (DataW H)) (before : List MemPlace)
    (hval : ∀ (j : Nat) t v, Tryd.f3.params[j]? = some t → args[j]? = some v → Value.okWide Tryd.prog W .any base t v)
    (hW : DataW.Whole enc Tryd.prog Tryd.f3.params.toList Rows.priceSomeSpec.vars false W args.toList ds gs before) (hk : Rows.uptoSmall H (ds ++ gs) = true) :
    Calls Tryd.prog 3 args W fun e W' => ∃ v, e = .returned v ∧ Rows.priceSomeSpec.post enc Tryd.prog Tryd.f3 false true false false W args v W' := by
  have hW0 := hW
  obtain ⟨p, q, hA0, hV, rfl, hfz, hnd⟩ := hW
  have hA : DataW.TrodAll enc Tryd.prog W 0 (fun _ => true) true Tryd.f3.params.toList args.toList ds p := hA0
  rw [Tryd.params3] at hA hval
  obtain ⟨v0, vs0, d0, ds0, p0, q0, hargs, rfl, rfl, h0, r0⟩ := trodAll_cons hA
  obtain ⟨rfl, rfl, rfl⟩ := trodAll_nil r0
  obtain rfl : args = #[v0] := by cases args; simp_all
  obtain ⟨rfl, rfl⟩ := trodVars_none hV
  have hbulk : Rows.uptoBulkAll [d0] ≤ 1048576 := by simpa only [List.append_nil] using of_decide_eq_true hk
  simp only [Rows.uptoBulkAll] at hbulk
  obtain ⟨x0, hr0, hk0, hs0⟩ := Lf.Opn.arg1 (fun m => Lf.opnU8 (by kernel_rfl)) (by kernel_rfl) (hval 0 5 v0 rfl rfl) h0
  refine (Lf.LF.holds (Lf.Prw.PriceSome x0 hk0) W [v0] ⟨hr0, trivial⟩).mono fun e W' ⟨he, hx⟩ => ⟨_, he, Fr.post_of_below laid hW0 rfl rfl (by rw [Tryd.params3]; exact rds) (tb := 4) rfl (by kernel_rfl) hx⟩

noncomputable def laidWorld (os : Os) : World :=
  { World.holding Tryd.prog os ⟨#[], #[], []⟩ with heap := ((((World.holding Tryd.prog os ⟨#[], #[], []⟩).heap.modify 1 fun | .cells _ t frozen => .cells #[.int .u8 0, .int .u8 1, .int .u8 28, .int .u8 2, .int .u8 29, .int .u8 14, .int .u8 24, .int .u8 3, .int .u8 30, .int .u8 22, .int .u8 20, .int .u8 15, .int .u8 25, .int .u8 17, .int .u8 4, .int .u8 8, .int .u8 31, .int .u8 27, .int .u8 13, .int .u8 23, .int .u8 21, .int .u8 19, .int .u8 16, .int .u8 7, .int .u8 26, .int .u8 12, .int .u8 18, .int .u8 6, .int .u8 11, .int .u8 5, .int .u8 10, .int .u8 9] t frozen | o => o).modify 2 fun | .cells _ t frozen => .cells #[.int .u8 0, .int .u8 1, .int .u8 56, .int .u8 2, .int .u8 57, .int .u8 49, .int .u8 28, .int .u8 3, .int .u8 61, .int .u8 58, .int .u8 42, .int .u8 50, .int .u8 38, .int .u8 29, .int .u8 17, .int .u8 4, .int .u8 62, .int .u8 47, .int .u8 59, .int .u8 36, .int .u8 45, .int .u8 43, .int .u8 51, .int .u8 22, .int .u8 53, .int .u8 39, .int .u8 33, .int .u8 30, .int .u8 24, .int .u8 18, .int .u8 12, .int .u8 5, .int .u8 63, .int .u8 55, .int .u8 48, .int .u8 27, .int .u8 60, .int .u8 41, .int .u8 37, .int .u8 16, .int .u8 46, .int .u8 35, .int .u8 44, .int .u8 21, .int .u8 52, .int .u8 32, .int .u8 23, .int .u8 11, .int .u8 54, .int .u8 26, .int .u8 40, .int .u8 15, .int .u8 34, .int .u8 20, .int .u8 31, .int .u8 10, .int .u8 25, .int .u8 14, .int .u8 19, .int .u8 9, .int .u8 13, .int .u8 8, .int .u8 7, .int .u8 6] t frozen | o => o).modify 0 fun | .cells _ t frozen => .cells #[.int .u64 1, .int .u64 10, .int .u64 100, .int .u64 1000, .int .u64 10000, .int .u64 100000, .int .u64 1000000, .int .u64 10000000, .int .u64 100000000, .int .u64 1000000000, .int .u64 10000000000, .int .u64 100000000000, .int .u64 1000000000000, .int .u64 10000000000000, .int .u64 100000000000000, .int .u64 1000000000000000, .int .u64 10000000000000000, .int .u64 100000000000000000, .int .u64 1000000000000000000, .int .u64 10000000000000000000] t frozen | o => o) }
theorem laid_met (os : Os) : laidMet Tryd.prog Rows.priceSomeUptoRow.laid ((laidWorld os).forCall (fun _ _ => 0) ⟨#[], #[.int .u8 0], []⟩).memory :=
  laidMet_of_run' 8 (by kernel_rfl) (by kernel_rfl)
theorem reads (os : Os) {H : Type} (enc : TypeId × Value → H) : ∃ places, DataW.whole enc Tryd.prog ((laidWorld os).forCall (fun _ _ => 0) ⟨#[], #[.int .u8 0], []⟩).memory Tryd.f3.params.toList Rows.priceSomeSpec.vars false (#[.int .u8 0] : Array Value).toList 8 = some ([.lit (.int .u8 0)], [], places) :=
  ⟨[], by kernel_rfl⟩
set_option maxRecDepth 100000 in
theorem lifted (os : Os) (started : os.Started) (H : Type) (enc : TypeId × Value → H) (F : Stop.Interp) :
    ReturnsInHanded {} Tryd.checked os 3 .any ((Rows.OpenSpec.upto Rows.priceSomeSpec).preRow enc Tryd.prog Tryd.f3 Rows.priceSomeUptoRow.domain false Rows.priceSomeUptoRow.laid) (((Rows.OpenSpec.upto Rows.priceSomeSpec).at F).post enc Tryd.prog Tryd.f3 false true false false) := by
  obtain ⟨places, hx⟩ := reads os enc
  refine returnsInHanded_of_row (C := Tryd.checked) (s := Rows.OpenSpec.upto Rows.priceSomeSpec) own started (by kernel_rfl) Tryd.func3
    (witness_row_at (enc := enc) (C := Tryd.checked) false (laidWorld os) #[.int .u8 0] rfl (by kernel_rfl) (by kernel_rfl) (by kernel_rfl)
      (OpenSpec.preRow_of_cond 8 hx (by kernel_rfl) (fun k hk => by cases hk; kernel_rfl) (by kernel_rfl) (laid_met os))) ?_
  intro W base args ds gs before hval hW _ hcond _ hL _ _
  exact contract H enc W base args ds gs before hval hW (hcond _ rfl)
theorem said : Rows.PriceSomeUptoSaid :=
  OpenClaim.holds_of_cond 3 Tryd.f3 rfl rfl rfl rfl rfl rfl rfl ⟨rfl, rfl, rfl, rfl, rfl⟩ rfl rfl rfl rfl rfl (by kernel_rfl) Tryd.func3 (by kernel_rfl)
    (of_decide_eq_true (by kernel_rfl)) (by unfold Func.isWrapper; first | (rw [if_pos (by decide +kernel)]; kernel_rfl) | (rw [if_neg (by decide +kernel)]; exact ⟨rfl, rfl⟩))
    (fun os started H enc _ F => by rw [OpenClaim.pre_eq_preRow]; exact lifted os started H enc F)
theorem plain (f : FuncId) (fn : Func) (hf : Tryd.pinned.checked.prog.funcNamed "lampbearer/lampbearerkeep.PriceSome" = some f) (hfn : Tryd.pinned.checked.prog.funcs[f]? = some fn) :
    false = Tryd.pinned.checked.prog.looks [] ∧ ∀ (j : Nat) t, fn.params[j]? = some t → Tryd.pinned.checked.prog.wantsStandIn t = false := by
  obtain rfl : f = 3 := Option.some.inj ((show Tryd.prog.funcNamed "lampbearer/lampbearerkeep.PriceSome" = some 3 by kernel_rfl).symm.trans hf) |>.symm
  obtain rfl : fn = Tryd.f3 := (Option.some.inj (Tryd.func3.symm.trans hfn)).symm
  refine ⟨by kernel_rfl, fun j t ht => ?_⟩
  rw [Tryd.params3] at ht
  have hm : t ∈ [5] := by simpa using Array.mem_of_getElem? ht
  have ha : ∀ t ∈ ([5] : List Nat), Tryd.prog.wantsStandIn t = false := by
    intro t ht
    rcases List.mem_cons.1 ht with rfl | ht
    · exact (show Tryd.prog.wantsStandIn 5 = false by kernel_rfl)
    cases ht
  exact ha t hm
/-- The card. -/
theorem proved : Rows.PriceSomeUptoCardSaid :=
  Claim7.holds_tied_plain_at .later [] _ _ _ _ said (fun _ h => by cases h) (by kernel_rfl) (fun _ h => by cases h) priceSomeUpto_row_tie rfl ⟨rfl, rfl⟩ (by kernel_rfl) rfl plain (by kernel_rfl)
end Go.Proofs.YtclkpjefklahfaaDoor.lawPriceSome
