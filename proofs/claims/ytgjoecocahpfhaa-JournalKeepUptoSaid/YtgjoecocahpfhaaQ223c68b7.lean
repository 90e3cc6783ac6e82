/- A part of the proof: texts joined. -/
import Derived.Test.YtgjoecocahpfhaaQ217daad6
namespace Go.Proofs.Ytgjoecocahpfhaa
open Go.RowKit Rg Rp
set_option linter.unusedVariables false
set_option maxRecDepth 100000
namespace Lf
namespace Jw
open Jn
theorem ops_sz (l : List Jop) : ∀ e ∈ l.map opV, e.cells.length = 3 := fun e he => by obtain ⟨x, _, rfl⟩ := List.mem_map.1 he; rfl
theorem CloneJ (es : List V) (hs : ∀ e ∈ es, e.cells.length = 3) (hl : es.length < 1073741824) (k : Nat) : LM Try.prog 26 [.s none es] [] fun o m => o = .ret (.s (some k) es) ∧ m = [(k, .r 59 3 es.length)] := by
  refine LM.row1 (k0 := 5) (fun _ => rfl) ?_ k
  refine LFx.mk' tt Try.func26 rfl rfl rfl (by kernel_rfl) rfl rfl fun F => ?_
  refine LC.seq (LC.region (LS.pp rfl rfl (Does.assign rfl rfl) rfl (LS.nil ?_)))
  refine LC.seq (LC.seq (LC.region (LS.pp rfl rfl (Does.move rfl rfl) rfl (LS.eqNil tt rfl rfl rfl rfl rfl rfl rfl (fun he => LS.nil ?_) (LS.nil ?_)))))
  · subst he
    refine LC.condT rfl (LC.seq (LC.region (LS.pp rfl rfl (Does.assign rfl rfl) rfl (LS.nil ?_))))
    refine LC.nilrow 2 5 59 3 rfl rfl rfl ?_
    exact wk trueW trueW trueW
  · refine LC.condF rfl ?_
    exact wk trueW trueW trueW
theorem mem_ix {l : List (Nat × Nat)} {x : Nat × Nat} (hm : x ∈ l) : ∃ n, n < l.length ∧ l.getD n default = x ∧ ∀ j, j < n → l.getD j default ≠ x := by
  have hlt : l.findIdx (fun y => decide (y = x)) < l.length := List.findIdx_lt_length_of_exists ⟨x, hm, by simp⟩
  refine ⟨_, hlt, ?_, fun j hj => ?_⟩
  · rw [List.getD_eq_getElem?_getD, List.getElem?_eq_getElem hlt]
    exact of_decide_eq_true (List.findIdx_getElem (w := hlt) (p := fun y => decide (y = x)))
  · have hj2 : j < l.length := by omega
    have := List.not_of_lt_findIdx hj
    rw [List.getD_eq_getElem?_getD, List.getElem?_eq_getElem hj2]
    exact fun e => by
      have e : l[j] = x := e
      simp [e] at this
theorem pC_inj {a b : Nat × Nat} (h : ([uK a.1, uK a.2] : List V) = [uK b.1, uK b.2]) : a = b := by
  simp only [List.cons.injEq, and_true] at h
  obtain ⟨h1, h2⟩ := h
  have e1 : a.1 = b.1 := by injection h1 with h1; injection h1 with _ h1; exact Int.ofNat.inj h1
  have e2 : a.2 = b.2 := by injection h2 with h2; injection h2 with _ h2; exact Int.ofNat.inj h2
  exact Prod.ext e1 e2
set_option maxHeartbeats 4000000 in
theorem IndexP (l : List (Nat × Nat)) (x : Nat × Nat) (hl : l.length < 100000000) (n : Nat) (hn : n < l.length) (h1 : l.getD n default = x) (h2 : ∀ j, j < n → l.getD j default ≠ x) : LF Try.prog 45 [.s none (l.map pV), pV x] (fun _ => .k (.int .i64 ((n : Nat) : Int))) none := by
  have hml : (l.map pV).length = l.length := List.length_map _
  refine LFx.mk' tt Try.func45 rfl rfl rfl (by kernel_rfl) rfl rfl fun F => ?_
  refine wk ?_ trueW trueW
  refine LC.loopN (fun i => [(0, .s none (l.map pV)), (3, .p 3 0), (7, .k (.int .i64 ((l.length : Nat) : Int))), (8, .k (.int .i64 ((i : Nat) : Int)))]) (fun i => [(3, .b [uK x.1, uK x.2])]) (fun i => i ≤ n) ((l.length - ·)) (0) (Nat.zero_le _) ⟨rfl, rfl, rfl, rfl, trivial⟩ ⟨rfl, trivial⟩ rfl rfW rfW ?_
  intro i hi
  rcases Nat.lt_or_ge i n with hlt | hge
  · have hne : ¬ ([uK x.1, uK x.2] : List V) = [uK (l.getD i default).1, uK (l.getD i default).2] := fun e => h2 i hlt (pC_inj e).symm
    have hok : i + 1 ≤ n := hlt
    have hil : i < l.length := by omega
    clear h1 h2
    exact wk trueW trueW trueW
  · obtain rfl : i = n := by omega
    have he : ([uK x.1, uK x.2] : List V) = [uK (l.getD i default).1, uK (l.getD i default).2] := by rw [h1]
    clear h1 h2
    exact wk trueW trueW trueW
set_option maxHeartbeats 4000000 in
theorem IndexN (l : List (Nat × Nat)) (x : Nat × Nat) (hl : l.length < 100000000) (hm : x ∉ l) : LF Try.prog 45 [.s none (l.map pV), pV x] (fun _ => .k (.int .i64 (-1))) none := by
  have hml : (l.map pV).length = l.length := List.length_map _
  refine LFx.mk' tt Try.func45 rfl rfl rfl (by kernel_rfl) rfl rfl fun F => ?_
  refine wk ?_ trueW trueW
  refine LC.loopN (fun i => [(0, .s none (l.map pV)), (3, .p 3 0), (7, .k (.int .i64 ((l.length : Nat) : Int))), (8, .k (.int .i64 ((i : Nat) : Int)))]) (fun i => [(3, .b [uK x.1, uK x.2])]) (fun i => i ≤ l.length) ((l.length - ·)) (0) (Nat.zero_le _) ⟨rfl, rfl, rfl, rfl, trivial⟩ ⟨rfl, trivial⟩ rfl rfW rfW ?_
  intro i hi
  rcases Nat.lt_or_ge i l.length with hlt | hge
  · have hne : ¬ ([uK x.1, uK x.2] : List V) = [uK (l.getD i default).1, uK (l.getD i default).2] := fun e => hm (by
      rw [pC_inj e, List.getD_eq_getElem?_getD, List.getElem?_eq_getElem hlt]
      exact List.getElem_mem _)
    have hok : i + 1 ≤ l.length := hlt
    clear hm
    exact wk trueW trueW trueW
  · clear hm
    exact wk trueW trueW trueW
theorem ContainsP (l : List (Nat × Nat)) (x : Nat × Nat) (hl : l.length < 100000000) : LF Try.prog 27 [.s none (l.map pV), pV x] (fun _ => .k (.bool (decide (x ∈ l)))) none := by
  by_cases hm : x ∈ l
  · obtain ⟨n, h1, h2, h3⟩ := mem_ix hm
    have c1 := IndexP l x hl n h1 h2 h3
    rw [decide_eq_true hm]
    clear h2 h3 hm
    refine LFx.mk' tt Try.func27 rfl rfl rfl (by kernel_rfl) rfl rfl fun F => ?_
    exact wk trueW trueW trueW
  · have c1 := IndexN l x hl hm
    rw [decide_eq_false hm]
    clear hm
    refine LFx.mk' tt Try.func27 rfl rfl rfl (by kernel_rfl) rfl rfl fun F => ?_
    exact wk trueW trueW trueW
end Jw
end Lf
open Go.RowKit Rg Rp
set_option linter.unusedVariables false
set_option maxRecDepth 100000
namespace Lf
namespace Jw
open Jn
theorem getD_app4 {α : Type} [Inhabited α] {l : List α} {b : List α} {n k : Nat} (h : l.length = n) (hk : k < b.length) : (l ++ b).getD (n + k) default = b.getD k default := by
  subst h
  rw [List.getD_eq_getElem?_getD, List.getElem?_append_right (by omega), Nat.add_sub_cancel_left, ← List.getD_eq_getElem?_getD]
set_option maxHeartbeats 8000000 in
theorem JournalRead (ops : List Jop) (key value other : Nat) (hk : key < B64) (hv : value < B64) (hot : other < B64) (hl : ops.length < 2000000) (ho : OpsOk B64 ops) : LF Try.prog 9 [.s none (ops.map opV), uK key, uK value, uK other] (fun _ => .k (.bool true)) none := by
  have c1 := alive14_
  have c2 := CloneJ (ops.map opV) (ops_sz ops) (by rw [List.length_map]; omega)
  have h0 : (0 : Nat) < B64 := by unfold B64; decide
  have c3 := Play_ (ops ++ [⟨2, other, 0⟩, ⟨1, key, value⟩, ⟨2, key, 0⟩, ⟨2, other, 0⟩]) (by simp only [List.length_append, List.length_cons, List.length_nil]; omega) (fun o hm => by
    rcases List.mem_append.1 hm with hm | hm
    · exact ho o hm
    · simp only [List.mem_cons, List.not_mem_nil, or_false] at hm
      rcases hm with rfl | rfl | rfl | rfl
      · exact ⟨hot, h0⟩
      · exact ⟨hk, hv⟩
      · exact ⟨hk, h0⟩
      · exact ⟨hot, h0⟩)
  obtain ⟨S, a, b, c, d, hR, hC, hD, hF⟩ := read_law ops key value other
  have hRl : (fin S.now).length < 100000000 := by
    have h := pot_run (ops ++ [⟨2, other, 0⟩, ⟨1, key, value⟩, ⟨2, key, 0⟩, ⟨2, other, 0⟩]) S0
    have h0 : pot S0 = 0 := rfl
    rw [hR, List.length_append] at h
    have h1 : pot S = S.now.length + S.undo.length + S.marks.length := rfl
    rw [fin_len]
    simp only [List.length_cons, List.length_nil] at h
    omega
  rw [hR] at c3
  have c4 := ContainsP (fin S.now) (key, value) hRl
  rw [show decide ((key, value) ∈ fin S.now) = decide (value ≠ 0) from decide_eq_decide.mpr hF] at c4
  have hAn := run_len ops S0
  dsimp only at c3
  generalize fin S.now = R at *
  generalize (jrun S0 ops).2 = A0 at *
  have hg : A0 ++ [a, b, c, d] = A0 ++ [a, b, c, d] := rfl
  generalize hA : A0 ++ [a, b, c, d] = A at c3
  have g0 : A.getD ops.length default = a := by rw [← hA]; exact getD_app4 hAn (k := 0) (show 0 < 4 by decide)
  have g2 : A.getD (ops.length + 2) default = ⟨0, value⟩ := by rw [← hA, ← hC]; exact getD_app4 hAn (k := 2) (show 2 < 4 by decide)
  have g3 : A.getD (ops.length + 3) default = d := by rw [← hA]; exact getD_app4 hAn (k := 3) (show 3 < 4 by decide)
  have hAl : A.length = ops.length + 4 := by rw [← hA, List.length_append, hAn]; rfl
  have hAm : (A.map ansV).length = A.length := List.length_map _
  have hsz := ops_sz ops
  clear hA hg hR hF hRl hAn
  simp only [List.map_append, List.map_cons, List.map_nil] at c3
  have he : ([iK (A.getD (ops.length + 2) default).err, uK (A.getD (ops.length + 2) default).val] : List V) = List.take 1 [V.k (.int .i64 0), V.k (.int .u64 0)] ++ ((uK value).cells ++ List.drop (1 + (uK value).cells.length) [V.k (.int .i64 0), V.k (.int .u64 0)]) := by rw [g2]; rfl
  clear g2 hC
  by_cases hko : key = other
  · clear hD
    by_cases hv0 : value = 0
    · rw [decide_eq_false (by simpa using hv0)] at c4
      refine LFx.mk' tt Try.func9 rfl rfl rfl (by kernel_rfl) rfl rfl fun F => ?_
      exact wk trueW trueW trueW
    · rw [decide_eq_true hv0] at c4
      refine LFx.mk' tt Try.func9 rfl rfl rfl (by kernel_rfl) rfl rfl fun F => ?_
      exact wk trueW trueW trueW
  · have g4 : A.getD (ops.length + 3) default = A.getD ops.length default := by rw [g3, g0, hD hko]
    have he2 : ([iK (A.getD (ops.length + 3) default).err, uK (A.getD (ops.length + 3) default).val] : List V) = [iK (A.getD ops.length default).err, uK (A.getD ops.length default).val] := by rw [g4]
    clear hD g3 g4 g0
    by_cases hv0 : value = 0
    · rw [decide_eq_false (by simpa using hv0)] at c4
      refine LFx.mk' tt Try.func9 rfl rfl rfl (by kernel_rfl) rfl rfl fun F => ?_
      exact wk trueW trueW trueW
    · rw [decide_eq_true hv0] at c4
      refine LFx.mk' tt Try.func9 rfl rfl rfl (by kernel_rfl) rfl rfl fun F => ?_
      exact wk trueW trueW trueW
end Jw
end Lf
open Go.RowKit Rg
namespace Lf
section
variable {P : Program} {o : Oper} {env : Env}
theorem run_appMake {T Tx E ty n : Nat} {kd kx : IntKind} {ei : TI} {w : World} (hu : P.underlying T = some (.slice E)) (hx : P.underlying Tx = some (.int kx)) (hE : TIok P E ei) (hn : 0 < n) (hmax : n ≤ 140737488355328) (hb : n * ei.bytes ≤ 140737488355328) :
    ∃ cs : Array Value, (Builtin.append_ #[T, Tx] ty #[.slice none 0 0, .int kd (n : Int)]).run P w = .ok (.slice (some ⟨w.heap.size, 0, none⟩) n (grownCap w n 0 E)) (w.drew.alloc (.cells cs E)) ∧ cs.size = grownCap w n 0 E * ei.size ∧ n ≤ grownCap w n 0 E ∧ grownCap w n 0 E ≤ maxLen := by
  obtain ⟨i, hi, hsz, hby, z, hz, _, hzs, _⟩ := hE.info
  rw [← hby] at hb
  rw [← hsz] at hzs ⊢
  have hge := grownCap_ge w n 0 E
  have h63 : n ≤ maxLen := by simp only [maxLen]; omega
  have hcm : grownCap w n 0 E ≤ maxLen := grownCap_le_maxLen w n 0 E h63
  have hw : IntKind.i64.wrap (n : Int) = (n : Int) := wrap_i64 (by omega)
  have hfit : Builtin.nextslicecap n 0 * i.bytes ≤ 281474976710656 := by have := growslice_fits (old := 0) (need := n) (by omega) hb; simpa using this
  have h1 : ¬ n = 0 := by omega
  have h2 : ¬ (9223372036854775807 < (n : Int)) := by omega
  have h3 : ¬ (281474976710656 < Builtin.nextslicecap n 0 * i.bytes) := by omega
  have h4 : ¬ (281474976710656 < (n : Int) * (i.bytes : Int)) := by
    have : (n : Int) * (i.bytes : Int) = ((n * i.bytes : Nat) : Int) := by rw [Int.natCast_mul]
    rw [this]; omega
  have h5 : ¬ ((n : Int) < 0) := by omega
  refine ⟨#[] ++ Builtin.zeroCells z.cells n ++ Builtin.zeroCells z.cells (grownCap w n 0 E - n), ?_, ?_, hge, hcm⟩
  · simp [Builtin.append_, run_underlying hu, run_underlying hx, sizeOf, typeInfo, zeroValue, hi, hz, asInt, asIntOf, hw, h1, h2, h3, h4, h5, Question.forced, newRow, grownCap, Builtin.firstCells]
    intro h
    have : Builtin.zeroCells z.cells n = #[] := Array.eq_empty_of_size_eq_zero (by rw [size_zeroCells, hzs]; exact h)
    rw [this]
    simp
  · simp only [Array.size_append, List.size_toArray, List.length_nil, size_zeroCells, hzs, Nat.zero_add, ← Nat.add_mul]
    congr 1
    omega
theorem drew_rel {F : Fr0} {g : Gh} {w : World} {mem : Mem} (h : RelM F g mem w) (hk : Kept F g w) : Ev g w g w.drew ∧ RelM F g mem w.drew ∧ Kept F g w.drew :=
  h.ext hk (Below.refl w.heap.size w).drew (fun _ _ _ => Iff.rfl) rfl rfl fun b o hb => h.fut b o hb
theorem Does.appMake {T Tx E i n : Nat} {kd kx : IntKind} {x y : Operand} {z : Int} (X : TOk P) {ti xi ei : TI} (ho : o.op = .call { callee := .builtin .append, args := #[x, y], argTypes := #[T, Tx] }) (hx : evo env x = some .nil) (hy : evo env y = some (.k (.int kd z))) (hz : z = ((n : Nat) : Int)) (hT : aget X.tab T = some ti) (hd : ti.d = .sl E) (hX : aget X.tab Tx = some xi) (hdx : xi.d = .int kx) (hE : aget X.tab E = some ei) (hpos : Nat.blt 0 ei.size = true)
    (hn : 0 < n) (hmax : n ≤ 140737488355328) (hb : n * ei.bytes ≤ 140737488355328) : Does P o env (.w i 0 ei.size 0 n) [(i, none, some (.w E ei.size 0 []))] := by
  subst hz
  refine ⟨fun F g a w mem h1 h2 h3 h4 _ K Q hK => ?_⟩
  have hi := h4 _ _ _ mem_one
  have hrx := h1 x (by simp [ho, Op.operands, Call.operands]) _ hx
  have hry := rep_k (h1 y (by simp [ho, Op.operands, Call.operands]) _ hy)
  have hxe : a.eval x = .slice none 0 0 := by generalize a.eval x = v at hrx; cases hrx; rfl
  obtain ⟨cs, hrun, hcs, hle, hcm⟩ := run_appMake (P := P) (ty := o.type) (kd := kd) (w := w) ((X.get hT).sl hd) ((X.get hX).int hdx) (X.get hE) hn hmax hb
  obtain ⟨d1, d2, d3⟩ := drew_rel h2 h3
  have hpos' : 0 < ei.size := Nat.le_of_ble_eq_true hpos
  have hH : w.drew.heap.size = w.heap.size := rfl
  have hrw : (g.newR i w.drew.heap.size 0 0 (grownCap w n 0 E)).rw i = some (some w.drew.heap.size, 0, grownCap w n 0 E) := by simp [Gh.newR]
  have hown : (w.drew.alloc (.cells cs E)).oRow 0 E ei.size (.slice (some ⟨w.drew.heap.size, 0, none⟩) 0 (grownCap w n 0 E)) 0 [] :=
    ⟨by simp, .inr ⟨w.drew.heap.size, grownCap w n 0 E, cs, _, rfl, Nat.zero_le _, heap_alloc_new w.drew _, Nat.zero_le _, hcm, hcs, by simp, .inl rfl⟩⟩
  obtain ⟨e1, e2, e3⟩ := d2.newR d3 (i := i) (n := 0) (l := 0) (c := grownCap w n 0 E) (m' := .w E ei.size 0 []) (o := .cells cs E) hi (.w hrw ⟨hpos', by simp, ⟨[], hown, by simp⟩, fun b hb o hS => by cases hb; have := hS.2 rfl; omega⟩) fun b o' ⟨l, c', hp'⟩ => by rw [hrw] at hp'; cases hp'; rfl
  unfold Oper.wp
  have hrun' : (execOp a.eval o).run P w = .ok (.value (.slice (some ⟨w.heap.size, 0, none⟩) n (grownCap w n 0 E))) (w.drew.alloc (.cells cs E)) := by
    simp [execOp, ho, resolve, invoke, builtin, hxe, hry, hrun]
  rw [hrun']
  exact hK _ _ _ (d1.trans e1) e2 e3 (.w ⟨_, _, _, hrw, Nat.le_refl _, fun _ => ⟨by omega, by omega, fun _ => by simp [hH]⟩⟩)
theorem Does.cutW0 {T E i n e : Nat} {x : Operand} {hi : Option Operand} {es : List V} (X : TOk P) {ti ei : TI} (ho : o.op = .slice T x none hi none) (hx : evo env x = some (.w i 0 ei.size 0 n)) (hT : aget X.tab T = some ti) (hd : ti.d = .sl e) (hE : aget X.tab e = some ei) (hhi : Bd env n hi 0) :
    Does P o env (.s (some i) []) [(i, some (.w E ei.size 0 es), some (.r E ei.size 0))] := by
  refine ⟨fun F g a w mem h1 h2 h3 h4 _ K Q hK => ?_⟩
  have hi' := h4 _ _ _ mem_one
  have hrx := h1 x (by simp [ho, Op.operands]) _ hx
  have b2 := hhi.val (a := a) (fun y hy u hu => h1 y (by subst hy; simp [ho, Op.operands]) u hu)
  obtain ⟨ao, c, hrw, hB⟩ := h2.buf hi'
  obtain ⟨xs, hown, _⟩ := hB.own
  generalize hv : a.eval x = v at hrx
  cases hrx with
  | @w _ _ _ _ _ _ ad cap h =>
    obtain ⟨a', l, c', k1, k2, k3⟩ := h
    rw [hrw] at k1; cases k1
    obtain ⟨w1, w2, w3⟩ := k3 rfl
    have hcap : cap = c := by omega
    subst hcap
    have had := w3 (.inr rfl)
    simp only [Nat.zero_mul] at had
    have hcut := run_cutG (P := P) (a := ad) (n := n) (cap := cap) ((X.get hT).sl hd) (X.get hE).run_size (.inl ⟨rfl, rfl⟩) b2 (Nat.zero_le _) (Nat.zero_le _) w
    have hres : (if cap = 0 then ad else ad.map (·.add (0 * ei.size))) = ad := by
      split
      · rfl
      · rw [had]; cases ao <;> simp [Addr.add_lit]
    have hown0 : w.oRow 0 E ei.size (.slice (ao.map fun b => ⟨b, 0, none⟩) 0 cap) 0 [] := by
      refine ⟨by simp, ?_⟩
      rcases hown.2 with ⟨hv', _⟩ | ⟨q, cp, cur, fz, hv', hb0, hq, hnc, hcm, hcs, htk, hfz⟩
      · cases ao with
        | none => simp at hv'; exact .inl ⟨by simp [hv'.2], rfl⟩
        | some b => simp at hv'
      · cases ao with
        | none => simp at hv'
        | some b =>
          simp at hv'
          obtain ⟨rfl, rfl⟩ := hv'
          exact .inr ⟨b, cap, cur, fz, rfl, hb0, hq, Nat.zero_le _, hcm, hcs, by simp, hfz⟩
    obtain ⟨k1, k2⟩ := h2.step h3 (i := i) (m' := .r E ei.size 0) (Ev.refl g w) rfl rfl rfl (fun _ _ _ _ => ⟨rfl, rfl, fun h => h⟩) (fun _ _ _ => rfl) (fun _ _ => rfl) (fun _ _ => rfl) (.r hrw ⟨hB.pos, ⟨[], hown0⟩, fun b hb o _ => hB.free b hb o⟩) (fun b o hp => .inl ⟨_, hi', hp⟩) h2.fut
    unfold Oper.wp
    have hrun' : (execOp a.eval o).run P w = .ok (.value (.slice ad 0 cap)) w := by
      rw [hres] at hcut
      simp [execOp, ho, hv, hcut]
    rw [hrun']
    refine hK _ g w (Ev.refl g w) k1 k2 ?_
    have := Rep.row (es := []) (n := 0) (i := i) rfl hB.pos hrw hown0 (fun b hb => ?_) (by simp) (by simp)
    · rw [had]; exact this
    · subst hb; exact ⟨hB.lt rfl, fun o ho => by omega⟩
end
end Lf
open Go.RowKit Rg
set_option linter.unusedVariables false
set_option maxRecDepth 100000
namespace Lf
theorem Does.capNil {P : Program} {o : Oper} {env : Env} {x : Operand} {T : Nat} {ts : Array Nat} {e : Nat} (X : TOk P) {ti : TI} (ho : o.op = .call { callee := .builtin .cap, args := #[x], argTypes := ts }) (hts : ts[0]? = some T) (hx : evo env x = some .nil) (hT : aget X.tab T = some ti) (hd : ti.d = .sl e) : Does P o env (.k (.int .i64 ((0 : Nat) : Int))) [] :=
  .pure fun F g a w mem hr _ => by
    have hr0 := hr x (by simp [ho, Op.operands, Call.operands]) _ hx
    have hxe : a.eval x = .slice none 0 0 := by generalize a.eval x = v at hr0; cases hr0; rfl
    exact ⟨.int .i64 ((0 : Nat) : Int), by simp [execOp, ho, resolve, invoke, builtin, hxe, Builtin.cap_, hts, run_underlying ((X.get hT).sl hd), goInt], .k _⟩
theorem Does.cutNil {P : Program} {o : Oper} {env : Env} {T e : Nat} {x : Operand} {hi : Option Operand} (X : TOk P) {ti ei : TI} (ho : o.op = .slice T x none hi none) (hx : evo env x = some .nil) (hT : aget X.tab T = some ti) (hd : ti.d = .sl e) (hE : aget X.tab e = some ei) (hhi : Bd env 0 hi 0) : Does P o env .nil [] :=
  .pure fun F g a w mem hr _ => by
    have hr0 := hr x (by simp [ho, Op.operands]) _ hx
    have hxe : a.eval x = .slice none 0 0 := by generalize a.eval x = v at hr0; cases hr0; rfl
    have b2 := hhi.val (a := a) (fun y hy u hu => hr y (by subst hy; simp [ho, Op.operands]) u hu)
    have := run_cutG (P := P) (a := none) (n := 0) (cap := 0) ((X.get hT).sl hd) (X.get hE).run_size (.inl ⟨rfl, rfl⟩) b2 (Nat.zero_le _) (Nat.zero_le _) w
    rw [hxe] at hr0
    refine ⟨.slice none 0 0, ?_, hr0⟩
    simp [execOp, ho, hxe, this]
theorem LM.nilrow {P : Program} {f : Nat} {args : List V} (E sz k : Nat) (hp : Nat.blt 0 sz = true) (h : LM P f args [] fun o m => o = .ret .nil ∧ m = []) : LM P f args [] fun o m => o = .ret (.s (some k) []) ∧ m = [(k, .r E sz 0)] :=
  ⟨h.ok, fun g w vals h1 h2 h3 => Calls.mono (h.go g w vals h1 h2 h3) fun e w' ⟨o, mo, g', ⟨ho, hm⟩, hev, hrel, hk, hat⟩ => by
    subst ho; subst hm
    have hown0 : w'.oRow 0 E sz (.slice (Option.map (fun b => (⟨b, 0, none⟩ : Addr)) none) 0 0) 0 [] := oRow_nil w' 0 E sz
    have hgi : (g'.addRow k (none, 0, 0)).rw k = some (none, 0, 0) := by simp [Gh.addRow]
    obtain ⟨he, r2, r3⟩ := hrel.nilRow hk (i := k) (m := .r E sz 0) rfl (.r hgi ⟨Nat.le_of_ble_eq_true hp, ⟨_, hown0⟩, fun _ h => by cases h⟩) fun b o ⟨l, c, hp⟩ => by rw [hgi] at hp; cases hp
    obtain ⟨x, hx, hrep⟩ := hat
    cases hrep
    exact ⟨_, _, _, ⟨rfl, rfl⟩, hev.trans he, r2, r3, ⟨_, hx, .s0 fun r hr' => by cases hr'; exact ⟨none, 0, 0, hgi, Nat.le_refl _, fun _ => .inl rfl⟩⟩⟩⟩
end Lf
open Go.RowKit Rg
set_option linter.unusedVariables false
set_option maxRecDepth 100000
namespace Lf
theorem flat_take {α : Type} {ls : List (List α)} {i : Nat} (h : i < ls.length) : (ls.take (i + 1)).flatten = (ls.take i).flatten ++ ls.getD i default := by
  rw [List.take_succ_eq_append_getElem h, List.flatten_append]
  simp [List.getD, h]
theorem flat_takeL {α : Type} {ls : List (List α)} {i : Nat} (h : i < ls.length) : (ls.take (i + 1)).flatten.length = (ls.take i).flatten.length + (ls.getD i default).length := by rw [flat_take h, List.length_append]
theorem flat_le {α : Type} {ls : List (List α)} {i : Nat} : (ls.take i).flatten.length ≤ ls.flatten.length := by
  have e : ls = ls.take i ++ ls.drop i := (List.take_append_drop i ls).symm
  have : ls.flatten.length = (ls.take i).flatten.length + (ls.drop i).flatten.length := by
    rw [← List.length_append, ← List.flatten_append, List.take_append_drop]
  omega
end Lf
end Go.Proofs.Ytgjoecocahpfhaa
