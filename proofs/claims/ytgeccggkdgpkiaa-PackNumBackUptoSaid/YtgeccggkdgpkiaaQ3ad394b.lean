/- A part of the proof: texts joined. -/
import Derived.Test.YtgeccggkdgpkiaaProg
import Derived.Shelf.Bits.Mul64
import Derived.Recover
import Derived.Test.YtgeccggkdgpkiaaQ2e49eb4
/- The walker: one for all functions of the seat. Contracts lie in the context by the names c1 to c24. -/
namespace Go.Proofs.Ytgeccggkdgpkiaa
open Go.RowKit Rg
namespace Lf
set_option maxRecDepth 100000 in
theorem wk {G C D B : Prop} (h1 : C) (h2 : D) (h3 : B) (h : Away C → Away D → Away B → G := by intro a1 a2 a3; (repeat' (first | intro _ | (apply DR.ld tt; (case ho => with_reducible exact rfl); (case hg => first | exact rfl | exact gd_y rfl rfl rfl (by assumption)); (case hds => exact rfl); (case hx => first | exact evo_ki | exact evo_kb | exact rfl); (case hm => exact rfl); (case hT => exact rfl); (case hv => (first | exact part_map rfl rfl lz | exact part_whole rfl lz | (apply ld1 <;> first | exact rfl | exact lz) | (apply ld2 <;> first | exact rfl | exact lz) | (apply part_l; (first | exact part_map rfl rfl lz | exact part_whole rfl lz | exact rfl)) | (apply part_r; (case hl => first | exact (List.length_map _).trans (by assumption) | ((try apply (List.length_map _).trans); (repeat apply List.length_set.trans); assumption) | rfl); (case hk => first | exact off_s | exact off_r (by decide) | exact off_r lz); first | (apply part_l; (first | exact part_map rfl rfl lz | exact part_whole rfl lz | exact rfl)) | (apply part_r; (case hl => first | exact (List.length_map _).trans (by assumption) | ((try apply (List.length_map _).trans); (repeat apply List.length_set.trans); assumption) | rfl); (case hk => first | exact off_s | exact off_r (by decide) | exact off_r lz); (first | exact part_map rfl rfl lz | exact part_whole rfl lz | exact rfl)) | (first | exact part_map rfl rfl lz | exact part_whole rfl lz | exact rfl)) | exact rfl)); (case hd => exact rfl)) | (apply DR.pp; (case hg => first | exact rfl | exact gd_y rfl rfl rfl (by assumption)); (case hds => exact rfl); (case h => (first | (apply Does.move; (case ho => with_reducible exact rfl); (case hx => exact rfl)) | (apply Does.assign; (case ho => with_reducible exact rfl); (case hx => exact rfl)) | (apply Does.gB; (case ho => with_reducible exact rfl); (case h => (first | (apply Does.neNil0 tt; (case ho => with_reducible exact rfl); (case hx => first | exact evo_ki | exact evo_kb | exact rfl); (case hT => exact rfl); (case hd => exact rfl)) | (apply Does.neNilI tt; (case ho => with_reducible exact rfl); (case hx => first | exact evo_ki | exact evo_kb | exact rfl); (case hT => exact rfl); (case hd => exact rfl)) | (apply Does.eqNil0 tt; (case ho => with_reducible exact rfl); (case hx => first | exact evo_ki | exact evo_kb | exact rfl); (case hT => exact rfl); (case hd => exact rfl)) | (apply Does.eqNilI tt; (case ho => with_reducible exact rfl); (case hx => first | exact evo_ki | exact evo_kb | exact rfl); (case hT => exact rfl); (case hd => exact rfl)) | (apply Does.catl; (case ho => with_reducible exact rfl); (case hx => first | exact evo_ki | exact evo_kb | exact rfl); (case hy => first | exact evo_ki | exact evo_kb | exact rfl); (case hr => exact lz)) | (apply Does.lss; (case ho => with_reducible exact rfl); (case hx => first | exact evo_ki | exact evo_kb | exact rfl); (case hy => first | exact evo_ki | exact evo_kb | exact rfl); (case hr => first | exact dT lz | exact dF lz)) | (apply Does.eql; (case ho => with_reducible exact rfl); (case hx => first | exact evo_ki | exact evo_kb | exact rfl); (case hy => first | exact evo_ki | exact evo_kb | exact rfl); (case hr => first | exact dT lz | exact dF lz)) | (apply Does.neq; (case ho => with_reducible exact rfl); (case hx => first | exact evo_ki | exact evo_kb | exact rfl); (case hy => first | exact evo_ki | exact evo_kb | exact rfl); (case hr => first | exact dT lz | exact dF lz)) | (apply Does.leq; (case ho => with_reducible exact rfl); (case hx => first | exact evo_ki | exact evo_kb | exact rfl); (case hy => first | exact evo_ki | exact evo_kb | exact rfl); (case hr => first | exact dT lz | exact dF lz)) | (apply Does.gtr; (case ho => with_reducible exact rfl); (case hx => first | exact evo_ki | exact evo_kb | exact rfl); (case hy => first | exact evo_ki | exact evo_kb | exact rfl); (case hr => first | exact dT lz | exact dF lz)) | (apply Does.geq; (case ho => with_reducible exact rfl); (case hx => first | exact evo_ki | exact evo_kb | exact rfl); (case hy => first | exact evo_ki | exact evo_kb | exact rfl); (case hr => first | exact dT lz | exact dF lz)) | (apply Does.add; (case ho => with_reducible exact rfl); (case hx => first | exact evo_ki | exact evo_kb | exact rfl); (case hy => first | exact evo_ki | exact evo_kb | exact rfl); (case hr => first | with_reducible assumption | with_reducible exact uadd | exact add_i64r (by omega) | exact add_i64 (by omega) | exact add_u64r (by omega) | exact add_u64 (by omega) | exact wrap_i64 (by omega) | exact wrap_u64 (by omega) | exact wrap_u8 (by omega) | exact rfl)) | (apply Does.sub; (case ho => with_reducible exact rfl); (case hx => first | exact evo_ki | exact evo_kb | exact rfl); (case hy => first | exact evo_ki | exact evo_kb | exact rfl); (case hr => first | with_reducible assumption | with_reducible exact usub | exact sub_i64r (by omega) (by omega) | exact sub_i64 (by omega) (by omega) | exact sub_i64l (by omega) (by omega) | exact sub_u64r (by omega) (by omega) | exact sub_u64l (by omega) (by omega) | exact sub_u64 (by omega) (by omega) | exact wrap_i64 (by omega) | exact wrap_u64 (by omega) | exact wrap_u8 (by omega) | exact rfl)) | (apply Does.mul; (case ho => with_reducible exact rfl); (case hx => first | exact evo_ki | exact evo_kb | exact rfl); (case hy => first | exact evo_ki | exact evo_kb | exact rfl); (case hr => first | with_reducible assumption | exact mul_i64r (by omega) | exact mul_i64l (by omega) | exact mul_i64 (by omega) | exact mul_u64r (by omega) | exact mul_u64l (by omega) | exact mul_u64 (by omega) | exact mul_u64m | exact rfl)) | (apply Does.and'; (case ho => with_reducible exact rfl); (case hx => first | exact evo_ki | exact evo_kb | exact rfl); (case hy => first | exact evo_ki | exact evo_kb | exact rfl); (case hr => first | with_reducible assumption | with_reducible exact band | with_reducible exact bandn | exact and_u64 lz lz | exact rfl)) | (apply Does.or'; (case ho => with_reducible exact rfl); (case hx => first | exact evo_ki | exact evo_kb | exact rfl); (case hy => first | exact evo_ki | exact evo_kb | exact rfl); (case hr => first | with_reducible assumption | with_reducible exact uor | with_reducible exact uorn | with_reducible exact bor | exact or_u64 lz lz | exact rfl)) | (apply Does.xor'; (case ho => with_reducible exact rfl); (case hx => first | exact evo_ki | exact evo_kb | exact rfl); (case hy => first | exact evo_ki | exact evo_kb | exact rfl); (case hr => first | with_reducible assumption | with_reducible exact uxor | with_reducible exact uxorn | exact xor_u64 lz lz | exact rfl)) | (apply Does.quo; (case ho => with_reducible exact rfl); (case hx => first | exact evo_ki | exact evo_kb | exact rfl); (case hy => first | exact evo_ki | exact evo_kb | exact rfl); (case h0 => first | decide | omega); (case hr => first | with_reducible assumption | with_reducible exact quo_u8r (by omega) | exact quo_i64r (by omega) | exact quo_u64r (by omega) | exact quo_i64 (by omega) | exact quo_u64 (by omega) | exact rfl)) | (apply Does.rem; (case ho => with_reducible exact rfl); (case hx => first | exact evo_ki | exact evo_kb | exact rfl); (case hy => first | exact evo_ki | exact evo_kb | exact rfl); (case h0 => first | decide | omega); (case hr => first | with_reducible assumption | exact rem_r | exact rem_nat | exact rfl)) | (apply Does.shr; (case ho => with_reducible exact rfl); (case hx => first | exact evo_ki | exact evo_kb | exact rfl); (case hy => first | exact evo_ki | exact evo_kb | exact rfl); (case h0 => first | decide | omega); (case hr => first | with_reducible assumption | exact shr_u64r (by omega) | exact shr_u64 (by omega) | exact shr_u8r (by omega) | exact rfl)) | (apply Does.shl; (case ho => with_reducible exact rfl); (case hx => first | exact evo_ki | exact evo_kb | exact rfl); (case hy => first | exact evo_ki | exact evo_kb | exact rfl); (case h0 => first | decide | omega); (case hr => first | with_reducible assumption | with_reducible exact shl_u8l (by omega) | exact shl_u64r (by omega) | exact shl_u64 (by omega) | exact shl_u8r (by omega) | exact rfl)) | (apply Does.eqInts bK_inj tt; (case ho => with_reducible exact rfl); (case hx => first | exact evo_ki | exact evo_kb | exact rfl); (case hy => first | exact evo_ki | exact evo_kb | exact rfl); (case hT => exact rfl); (case hd => exact rfl); (case hE => exact rfl); (case he => exact rfl); (case hs => exact rfl); (case hl => exact lz); (case hm => exact lz); (case hr' => first | exact dT lz | exact dF lz)) | (apply Does.eqInts qK_inj tt; (case ho => with_reducible exact rfl); (case hx => first | exact evo_ki | exact evo_kb | exact rfl); (case hy => first | exact evo_ki | exact evo_kb | exact rfl); (case hT => exact rfl); (case hd => exact rfl); (case hE => exact rfl); (case he => exact rfl); (case hs => exact rfl); (case hl => exact lz); (case hm => exact lz); (case hr' => first | exact dT lz | exact dF lz)) | (apply Does.eqInts uK_inj tt; (case ho => with_reducible exact rfl); (case hx => first | exact evo_ki | exact evo_kb | exact rfl); (case hy => first | exact evo_ki | exact evo_kb | exact rfl); (case hT => exact rfl); (case hd => exact rfl); (case hE => exact rfl); (case he => exact rfl); (case hs => exact rfl); (case hl => exact lz); (case hm => exact lz); (case hr' => first | exact dT lz | exact dF lz)) | (apply Does.eqInts (m := List.replicate 4 0) uK_inj tt; (case ho => with_reducible exact rfl); (case hx => first | exact evo_ki | exact evo_kb | exact rfl); (case hy => first | exact evo_ki | exact evo_kb | exact rfl); (case hT => exact rfl); (case hd => exact rfl); (case hE => exact rfl); (case he => exact rfl); (case hs => exact rfl); (case hl => exact lz); (case hm => exact lz); (case hr' => first | exact dT lz | exact dF lz)) | (apply Does.eqInts (m := List.replicate 32 0) bK_inj tt; (case ho => with_reducible exact rfl); (case hx => first | exact evo_ki | exact evo_kb | exact rfl); (case hy => first | exact evo_ki | exact evo_kb | exact rfl); (case hT => exact rfl); (case hd => exact rfl); (case hE => exact rfl); (case he => exact rfl); (case hs => exact rfl); (case hl => exact lz); (case hm => exact lz); (case hr' => first | exact dT lz | exact dF lz)) | (apply Does.eqInts (m := List.replicate 8 0) qK_inj tt; (case ho => with_reducible exact rfl); (case hx => first | exact evo_ki | exact evo_kb | exact rfl); (case hy => first | exact evo_ki | exact evo_kb | exact rfl); (case hT => exact rfl); (case hd => exact rfl); (case hE => exact rfl); (case he => exact rfl); (case hs => exact rfl); (case hl => exact lz); (case hm => exact lz); (case hr' => first | exact dT lz | exact dF lz)) | (apply Does.eqInts (m := List.replicate 8 0) bK_inj tt; (case ho => with_reducible exact rfl); (case hx => first | exact evo_ki | exact evo_kb | exact rfl); (case hy => first | exact evo_ki | exact evo_kb | exact rfl); (case hT => exact rfl); (case hd => exact rfl); (case hE => exact rfl); (case he => exact rfl); (case hs => exact rfl); (case hl => exact lz); (case hm => exact lz); (case hr' => first | exact dT lz | exact dF lz)) | (apply Does.neInts bK_inj tt; (case ho => with_reducible exact rfl); (case hx => first | exact evo_ki | exact evo_kb | exact rfl); (case hy => first | exact evo_ki | exact evo_kb | exact rfl); (case hT => exact rfl); (case hd => exact rfl); (case hE => exact rfl); (case he => exact rfl); (case hs => exact rfl); (case hl => exact lz); (case hm => exact lz); (case hr' => first | exact dT lz | exact dF lz)) | (apply Does.neInts qK_inj tt; (case ho => with_reducible exact rfl); (case hx => first | exact evo_ki | exact evo_kb | exact rfl); (case hy => first | exact evo_ki | exact evo_kb | exact rfl); (case hT => exact rfl); (case hd => exact rfl); (case hE => exact rfl); (case he => exact rfl); (case hs => exact rfl); (case hl => exact lz); (case hm => exact lz); (case hr' => first | exact dT lz | exact dF lz)) | (apply Does.neInts uK_inj tt; (case ho => with_reducible exact rfl); (case hx => first | exact evo_ki | exact evo_kb | exact rfl); (case hy => first | exact evo_ki | exact evo_kb | exact rfl); (case hT => exact rfl); (case hd => exact rfl); (case hE => exact rfl); (case he => exact rfl); (case hs => exact rfl); (case hl => exact lz); (case hm => exact lz); (case hr' => first | exact dT lz | exact dF lz)) | (apply Does.neInts (m := List.replicate 4 0) uK_inj tt; (case ho => with_reducible exact rfl); (case hx => first | exact evo_ki | exact evo_kb | exact rfl); (case hy => first | exact evo_ki | exact evo_kb | exact rfl); (case hT => exact rfl); (case hd => exact rfl); (case hE => exact rfl); (case he => exact rfl); (case hs => exact rfl); (case hl => exact lz); (case hm => exact lz); (case hr' => first | exact dT lz | exact dF lz)) | (apply Does.neInts (m := List.replicate 32 0) bK_inj tt; (case ho => with_reducible exact rfl); (case hx => first | exact evo_ki | exact evo_kb | exact rfl); (case hy => first | exact evo_ki | exact evo_kb | exact rfl); (case hT => exact rfl); (case hd => exact rfl); (case hE => exact rfl); (case he => exact rfl); (case hs => exact rfl); (case hl => exact lz); (case hm => exact lz); (case hr' => first | exact dT lz | exact dF lz)) | (apply Does.neInts (m := List.replicate 8 0) qK_inj tt; (case ho => with_reducible exact rfl); (case hx => first | exact evo_ki | exact evo_kb | exact rfl); (case hy => first | exact evo_ki | exact evo_kb | exact rfl); (case hT => exact rfl); (case hd => exact rfl); (case hE => exact rfl); (case he => exact rfl); (case hs => exact rfl); (case hl => exact lz); (case hm => exact lz); (case hr' => first | exact dT lz | exact dF lz)) | (apply Does.neInts (m := List.replicate 8 0) bK_inj tt; (case ho => with_reducible exact rfl); (case hx => first | exact evo_ki | exact evo_kb | exact rfl); (case hy => first | exact evo_ki | exact evo_kb | exact rfl); (case hT => exact rfl); (case hd => exact rfl); (case hE => exact rfl); (case he => exact rfl); (case hs => exact rfl); (case hl => exact lz); (case hm => exact lz); (case hr' => first | exact dT lz | exact dF lz))))) | (apply Does.gI; (case ho => with_reducible exact rfl); (case h => (first | (apply Does.idxArr0 tt; (case ho => with_reducible exact rfl); (case hx => first | exact evo_ki | exact evo_kb | exact rfl); (case hi => exact rfl); (case hz => first | with_reducible exact rfl | exact litN _ | exact rfl | exact natZ lz); (case hT => exact rfl); (case hd => exact rfl); (case hE => exact rfl); (case hs => exact rfl); (case hk => exact lz)) | (apply Does.idxArr1 tt; (case ho => with_reducible exact rfl); (case hx => first | exact evo_ki | exact evo_kb | exact rfl); (case hi => exact rfl); (case hz => first | with_reducible exact rfl | exact litN _ | exact rfl | exact natZ lz); (case hT => exact rfl); (case hd => exact rfl); (case hE => exact rfl); (case hs => exact rfl); (case hk => exact lz)) | (apply Does.idxArr tt; (case ho => with_reducible exact rfl); (case hx => first | exact evo_ki | exact evo_kb | exact rfl); (case hi => exact rfl); (case hz => first | with_reducible exact rfl | exact litN _ | exact rfl | exact natZ lz); (case hT => exact rfl); (case hd => exact rfl); (case hE => exact rfl); (case hk => exact lz)) | (apply Does.idxSb1 tt; (case ho => with_reducible exact rfl); (case hx => first | exact evo_ki | exact evo_kb | exact rfl); (case hi => exact rfl); (case hz => first | with_reducible exact rfl | exact litN _ | exact rfl | exact natZ lz); (case hT => exact rfl); (case hd => exact rfl); (case hE => exact rfl); (case hs => exact rfl); (case hk => exact lz)) | (apply Does.idxSb tt; (case ho => with_reducible exact rfl); (case hx => first | exact evo_ki | exact evo_kb | exact rfl); (case hi => exact rfl); (case hz => first | with_reducible exact rfl | exact litN _ | exact rfl | exact natZ lz); (case hT => exact rfl); (case hd => exact rfl); (case hE => exact rfl); (case hk => exact lz)) | (apply Does.idx tt; (case ho => with_reducible exact rfl); (case hx => first | exact evo_ki | exact evo_kb | exact rfl); (case hi => exact rfl); (case hz => first | with_reducible exact rfl | exact litN _ | exact rfl | exact natZ lz); (case hT => exact rfl); (case hd => exact rfl); (case hE => exact rfl); (case hu => first | exact getM lz | exact rfl | assumption); (case hs => first | exact lz | exact rfl)) | (apply Does.idxArrQ tt; (case ho => with_reducible exact rfl); (case hx => first | exact evo_ki | exact evo_kb | exact rfl); (case hi => exact rfl); (case hz => first | with_reducible exact rfl | exact litN _ | exact rfl | exact natZ lz); (case hT => exact rfl); (case hd => exact rfl); (case hE => exact rfl); (case hk => exact lz); (case hc => exact rfl))))) | (apply Does.gC; (case ho => with_reducible exact rfl); (case h => (first | (apply Does.len tt; (case ho => with_reducible exact rfl); (case hts => exact rfl); (case hx => first | exact evo_ki | exact evo_kb | exact rfl); (case hT => exact rfl); (case hd => exact rfl); (case hn => first | with_reducible exact List.length_map _ | exact rfl)) | (apply Does.lenNil tt; (case ho => with_reducible exact rfl); (case hts => exact rfl); (case hx => first | exact evo_ki | exact evo_kb | exact rfl); (case hT => exact rfl); (case hd => exact rfl)) | (apply Does.lenSb tt; (case ho => with_reducible exact rfl); (case hts => exact rfl); (case hx => first | exact evo_ki | exact evo_kb | exact rfl); (case hT => exact rfl); (case hd => exact rfl)) | (apply Does.lenSl tt; (case ho => with_reducible exact rfl); (case hts => exact rfl); (case hx => first | exact evo_ki | exact evo_kb | exact rfl); (case hT => exact rfl); (case hd => exact rfl)) | (apply Does.lenS tt; (case ho => with_reducible exact rfl); (case hts => exact rfl); (case hx => first | exact evo_ki | exact evo_kb | exact rfl); (case hT => exact rfl); (case hd => exact rfl)) | (apply Does.min; (case ho => with_reducible exact rfl); (case hx => first | exact evo_ki | exact evo_kb | exact rfl); (case hy => first | exact evo_ki | exact evo_kb | exact rfl); (case hr => first | with_reducible assumption | exact if_pos lz | exact if_neg lz | exact rfl)) | (apply Does.max; (case ho => with_reducible exact rfl); (case hx => first | exact evo_ki | exact evo_kb | exact rfl); (case hy => first | exact evo_ki | exact evo_kb | exact rfl); (case hr => first | with_reducible assumption | exact if_pos lz | exact if_neg lz | exact rfl)) | (apply Does.call; (case ho => with_reducible exact rfl); (case hx => exact rfl); (first | ((case' hc => apply c1); (case hu => first | exact .same _ | exact ft1 rfl | exact ft2 rfl | (apply ft1; simp only [V.cv, V.cv.go, V.cells, cv_mapb, cv_mapq, cv_mapu] <;> rfl))) | ((case' hc => apply c2); (case hu => first | exact .same _ | exact ft1 rfl | exact ft2 rfl | (apply ft1; simp only [V.cv, V.cv.go, V.cells, cv_mapb, cv_mapq, cv_mapu] <;> rfl))) | ((case' hc => apply c3); (case hu => first | exact .same _ | exact ft1 rfl | exact ft2 rfl | (apply ft1; simp only [V.cv, V.cv.go, V.cells, cv_mapb, cv_mapq, cv_mapu] <;> rfl))) | ((case' hc => apply c4); (case hu => first | exact .same _ | exact ft1 rfl | exact ft2 rfl | (apply ft1; simp only [V.cv, V.cv.go, V.cells, cv_mapb, cv_mapq, cv_mapu] <;> rfl))) | ((case' hc => apply c5); (case hu => first | exact .same _ | exact ft1 rfl | exact ft2 rfl | (apply ft1; simp only [V.cv, V.cv.go, V.cells, cv_mapb, cv_mapq, cv_mapu] <;> rfl))) | ((case' hc => apply c6); (case hu => first | exact .same _ | exact ft1 rfl | exact ft2 rfl | (apply ft1; simp only [V.cv, V.cv.go, V.cells, cv_mapb, cv_mapq, cv_mapu] <;> rfl))) | ((case' hc => apply c7); (case hu => first | exact .same _ | exact ft1 rfl | exact ft2 rfl | (apply ft1; simp only [V.cv, V.cv.go, V.cells, cv_mapb, cv_mapq, cv_mapu] <;> rfl))) | ((case' hc => apply c8); (case hu => first | exact .same _ | exact ft1 rfl | exact ft2 rfl | (apply ft1; simp only [V.cv, V.cv.go, V.cells, cv_mapb, cv_mapq, cv_mapu] <;> rfl))) | ((case' hc => apply c9); (case hu => first | exact .same _ | exact ft1 rfl | exact ft2 rfl | (apply ft1; simp only [V.cv, V.cv.go, V.cells, cv_mapb, cv_mapq, cv_mapu] <;> rfl))) | ((case' hc => apply c10); (case hu => first | exact .same _ | exact ft1 rfl | exact ft2 rfl | (apply ft1; simp only [V.cv, V.cv.go, V.cells, cv_mapb, cv_mapq, cv_mapu] <;> rfl))) | ((case' hc => apply c11); (case hu => first | exact .same _ | exact ft1 rfl | exact ft2 rfl | (apply ft1; simp only [V.cv, V.cv.go, V.cells, cv_mapb, cv_mapq, cv_mapu] <;> rfl))) | ((case' hc => apply c12); (case hu => first | exact .same _ | exact ft1 rfl | exact ft2 rfl | (apply ft1; simp only [V.cv, V.cv.go, V.cells, cv_mapb, cv_mapq, cv_mapu] <;> rfl))) | ((case' hc => apply c13); (case hu => first | exact .same _ | exact ft1 rfl | exact ft2 rfl | (apply ft1; simp only [V.cv, V.cv.go, V.cells, cv_mapb, cv_mapq, cv_mapu] <;> rfl))) | ((case' hc => apply c14); (case hu => first | exact .same _ | exact ft1 rfl | exact ft2 rfl | (apply ft1; simp only [V.cv, V.cv.go, V.cells, cv_mapb, cv_mapq, cv_mapu] <;> rfl))) | ((case' hc => apply c15); (case hu => first | exact .same _ | exact ft1 rfl | exact ft2 rfl | (apply ft1; simp only [V.cv, V.cv.go, V.cells, cv_mapb, cv_mapq, cv_mapu] <;> rfl))) | ((case' hc => apply c16); (case hu => first | exact .same _ | exact ft1 rfl | exact ft2 rfl | (apply ft1; simp only [V.cv, V.cv.go, V.cells, cv_mapb, cv_mapq, cv_mapu] <;> rfl)))); (case hr => first | exact rfl | (simp only [V.cells, refsE, refsM, V.refs, V.refs.go, V.pure, V.pure.go, pure_mapq, pure_mapb, pure_mapu, refs_mapq, refs_mapb, refs_mapu, refs_append, Bool.and_true, Bool.true_and, Bool.and_self] <;> exact rfl) | (simp only [V.cells, refsE, refsM, V.refs, V.refs.go, V.pure, V.pure.go, pure_mapq, pure_mapb, pure_mapu, refs_mapq, refs_mapb, refs_mapu, refs_append, Bool.and_true, Bool.true_and, Bool.and_self, hrf] <;> exact rfl) | (simp only [V.cells, refsE, refsM, V.refs, V.refs.go, V.pure, V.pure.go, pure_mapq, pure_mapb, pure_mapu, refs_mapq, refs_mapb, refs_mapu, refs_append, Bool.and_true, Bool.true_and, Bool.and_self, hrf, hrg] <;> exact rfl) | exact lz); all_goals exact lz) | (apply Does.callF; (case ho => with_reducible exact rfl); (case hf => exact rfl); (case hx => exact rfl); (first | ((case' hc => apply c1); (case hu => first | exact .same _ | exact ft1 rfl | exact ft2 rfl | (apply ft1; simp only [V.cv, V.cv.go, V.cells, cv_mapb, cv_mapq, cv_mapu] <;> rfl))) | ((case' hc => apply c2); (case hu => first | exact .same _ | exact ft1 rfl | exact ft2 rfl | (apply ft1; simp only [V.cv, V.cv.go, V.cells, cv_mapb, cv_mapq, cv_mapu] <;> rfl))) | ((case' hc => apply c3); (case hu => first | exact .same _ | exact ft1 rfl | exact ft2 rfl | (apply ft1; simp only [V.cv, V.cv.go, V.cells, cv_mapb, cv_mapq, cv_mapu] <;> rfl))) | ((case' hc => apply c4); (case hu => first | exact .same _ | exact ft1 rfl | exact ft2 rfl | (apply ft1; simp only [V.cv, V.cv.go, V.cells, cv_mapb, cv_mapq, cv_mapu] <;> rfl))) | ((case' hc => apply c5); (case hu => first | exact .same _ | exact ft1 rfl | exact ft2 rfl | (apply ft1; simp only [V.cv, V.cv.go, V.cells, cv_mapb, cv_mapq, cv_mapu] <;> rfl))) | ((case' hc => apply c6); (case hu => first | exact .same _ | exact ft1 rfl | exact ft2 rfl | (apply ft1; simp only [V.cv, V.cv.go, V.cells, cv_mapb, cv_mapq, cv_mapu] <;> rfl))) | ((case' hc => apply c7); (case hu => first | exact .same _ | exact ft1 rfl | exact ft2 rfl | (apply ft1; simp only [V.cv, V.cv.go, V.cells, cv_mapb, cv_mapq, cv_mapu] <;> rfl))) | ((case' hc => apply c8); (case hu => first | exact .same _ | exact ft1 rfl | exact ft2 rfl | (apply ft1; simp only [V.cv, V.cv.go, V.cells, cv_mapb, cv_mapq, cv_mapu] <;> rfl))) | ((case' hc => apply c9); (case hu => first | exact .same _ | exact ft1 rfl | exact ft2 rfl | (apply ft1; simp only [V.cv, V.cv.go, V.cells, cv_mapb, cv_mapq, cv_mapu] <;> rfl))) | ((case' hc => apply c10); (case hu => first | exact .same _ | exact ft1 rfl | exact ft2 rfl | (apply ft1; simp only [V.cv, V.cv.go, V.cells, cv_mapb, cv_mapq, cv_mapu] <;> rfl))) | ((case' hc => apply c11); (case hu => first | exact .same _ | exact ft1 rfl | exact ft2 rfl | (apply ft1; simp only [V.cv, V.cv.go, V.cells, cv_mapb, cv_mapq, cv_mapu] <;> rfl))) | ((case' hc => apply c12); (case hu => first | exact .same _ | exact ft1 rfl | exact ft2 rfl | (apply ft1; simp only [V.cv, V.cv.go, V.cells, cv_mapb, cv_mapq, cv_mapu] <;> rfl))) | ((case' hc => apply c13); (case hu => first | exact .same _ | exact ft1 rfl | exact ft2 rfl | (apply ft1; simp only [V.cv, V.cv.go, V.cells, cv_mapb, cv_mapq, cv_mapu] <;> rfl))) | ((case' hc => apply c14); (case hu => first | exact .same _ | exact ft1 rfl | exact ft2 rfl | (apply ft1; simp only [V.cv, V.cv.go, V.cells, cv_mapb, cv_mapq, cv_mapu] <;> rfl))) | ((case' hc => apply c15); (case hu => first | exact .same _ | exact ft1 rfl | exact ft2 rfl | (apply ft1; simp only [V.cv, V.cv.go, V.cells, cv_mapb, cv_mapq, cv_mapu] <;> rfl))) | ((case' hc => apply c16); (case hu => first | exact .same _ | exact ft1 rfl | exact ft2 rfl | (apply ft1; simp only [V.cv, V.cv.go, V.cells, cv_mapb, cv_mapq, cv_mapu] <;> rfl)))); (case hr => first | exact rfl | (simp only [V.cells, refsE, refsM, V.refs, V.refs.go, V.pure, V.pure.go, pure_mapq, pure_mapb, pure_mapu, refs_mapq, refs_mapb, refs_mapu, refs_append, Bool.and_true, Bool.true_and, Bool.and_self] <;> exact rfl) | (simp only [V.cells, refsE, refsM, V.refs, V.refs.go, V.pure, V.pure.go, pure_mapq, pure_mapb, pure_mapu, refs_mapq, refs_mapb, refs_mapu, refs_append, Bool.and_true, Bool.true_and, Bool.and_self, hrf] <;> exact rfl) | (simp only [V.cells, refsE, refsM, V.refs, V.refs.go, V.pure, V.pure.go, pure_mapq, pure_mapb, pure_mapu, refs_mapq, refs_mapb, refs_mapu, refs_append, Bool.and_true, Bool.true_and, Bool.and_self, hrf, hrg] <;> exact rfl) | exact lz); all_goals exact lz)))) | (apply Does.gF; (case ho => with_reducible exact rfl); (case h => (first | (apply Does.fieldAddr tt; (case ho => with_reducible exact rfl); (case hx => first | exact evo_ki | exact evo_kb | exact rfl); (case hT => exact rfl); (case hd => exact rfl); (case hf => exact rfl); (case hF => exact rfl); (case hs => exact rfl)) | (apply Does.fieldAddrQ tt; (case ho => with_reducible exact rfl); (case hx => first | exact evo_ki | exact evo_kb | exact rfl); (case hT => exact rfl); (case hd => exact rfl); (case hf => exact rfl); (case hF => exact rfl); (case hs => exact rfl); (case hc => exact rfl))))) | (apply Does.gU; (case ho => with_reducible exact rfl); (case h => (first | (apply Does.not; (case ho => with_reducible exact rfl); (case hx => first | exact evo_ki | exact evo_kb | exact rfl)) | (apply Does.neg; (case ho => with_reducible exact rfl); (case hx => first | exact evo_ki | exact evo_kb | exact rfl); (case hr => first | with_reducible assumption | exact wrap_i64 (by omega) | exact rfl)) | (apply Does.inv; (case ho => with_reducible exact rfl); (case hx => first | exact evo_ki | exact evo_kb | exact rfl); (case hr => first | with_reducible assumption | exact rfl))))) | (apply Does.asrtOk tt; (case ho => with_reducible exact rfl); (case hx => first | exact evo_ki | exact evo_kb | exact rfl); (case hT => exact rfl); (case hd => exact rfl)) | (apply Does.extract; (case ho => with_reducible exact rfl); (case hx => first | exact evo_ki | exact evo_kb | exact rfl); (case hv => exact rfl)) | (apply Does.loadQ tt; (case ho => with_reducible exact rfl); (case hx => first | exact evo_ki | exact evo_kb | exact rfl); (case hT => exact rfl); (case hv => (first | exact part_map rfl rfl lz | exact part_whole rfl lz | (apply ld1 <;> first | exact rfl | exact lz) | (apply ld2 <;> first | exact rfl | exact lz) | (apply part_l; (first | exact part_map rfl rfl lz | exact part_whole rfl lz | exact rfl)) | (apply part_r; (case hl => first | exact (List.length_map _).trans (by assumption) | ((try apply (List.length_map _).trans); (repeat apply List.length_set.trans); assumption) | rfl); (case hk => first | exact off_s | exact off_r (by decide) | exact off_r lz); first | (apply part_l; (first | exact part_map rfl rfl lz | exact part_whole rfl lz | exact rfl)) | (apply part_r; (case hl => first | exact (List.length_map _).trans (by assumption) | ((try apply (List.length_map _).trans); (repeat apply List.length_set.trans); assumption) | rfl); (case hk => first | exact off_s | exact off_r (by decide) | exact off_r lz); (first | exact part_map rfl rfl lz | exact part_whole rfl lz | exact rfl)) | (first | exact part_map rfl rfl lz | exact part_whole rfl lz | exact rfl)) | exact rfl))) | (apply Does.field tt; (case ho => with_reducible exact rfl); (case hx => first | exact evo_ki | exact evo_kb | exact rfl); (case hT => exact rfl); (case hd => exact rfl); (case hf => exact rfl); (case hF => exact rfl); (case hv => (first | exact part_map rfl rfl lz | exact part_whole rfl lz | (apply ld1 <;> first | exact rfl | exact lz) | (apply ld2 <;> first | exact rfl | exact lz) | (apply part_l; (first | exact part_map rfl rfl lz | exact part_whole rfl lz | exact rfl)) | (apply part_r; (case hl => first | exact (List.length_map _).trans (by assumption) | ((try apply (List.length_map _).trans); (repeat apply List.length_set.trans); assumption) | rfl); (case hk => first | exact off_s | exact off_r (by decide) | exact off_r lz); first | (apply part_l; (first | exact part_map rfl rfl lz | exact part_whole rfl lz | exact rfl)) | (apply part_r; (case hl => first | exact (List.length_map _).trans (by assumption) | ((try apply (List.length_map _).trans); (repeat apply List.length_set.trans); assumption) | rfl); (case hk => first | exact off_s | exact off_r (by decide) | exact off_r lz); (first | exact part_map rfl rfl lz | exact part_whole rfl lz | exact rfl)) | (first | exact part_map rfl rfl lz | exact part_whole rfl lz | exact rfl)) | exact rfl))) | (apply Does.index1 tt; (case ho => with_reducible exact rfl); (case hx => first | exact evo_ki | exact evo_kb | exact rfl); (case hi => exact rfl); (case hz => first | with_reducible exact rfl | exact litN _ | exact rfl | exact natZ lz); (case hT => exact rfl); (case hd => exact rfl); (case hE => exact rfl); (case hs => exact rfl); (case hk => exact lz); (case hv => (first | exact part_map rfl rfl lz | exact part_whole rfl lz | (apply ld1 <;> first | exact rfl | exact lz) | (apply ld2 <;> first | exact rfl | exact lz) | (apply part_l; (first | exact part_map rfl rfl lz | exact part_whole rfl lz | exact rfl)) | (apply part_r; (case hl => first | exact (List.length_map _).trans (by assumption) | ((try apply (List.length_map _).trans); (repeat apply List.length_set.trans); assumption) | rfl); (case hk => first | exact off_s | exact off_r (by decide) | exact off_r lz); first | (apply part_l; (first | exact part_map rfl rfl lz | exact part_whole rfl lz | exact rfl)) | (apply part_r; (case hl => first | exact (List.length_map _).trans (by assumption) | ((try apply (List.length_map _).trans); (repeat apply List.length_set.trans); assumption) | rfl); (case hk => first | exact off_s | exact off_r (by decide) | exact off_r lz); (first | exact part_map rfl rfl lz | exact part_whole rfl lz | exact rfl)) | (first | exact part_map rfl rfl lz | exact part_whole rfl lz | exact rfl)) | exact rfl))) | (apply Does.index tt; (case ho => with_reducible exact rfl); (case hx => first | exact evo_ki | exact evo_kb | exact rfl); (case hi => exact rfl); (case hz => first | with_reducible exact rfl | exact litN _ | exact rfl | exact natZ lz); (case hT => exact rfl); (case hd => exact rfl); (case hE => exact rfl); (case hk => exact lz); (case hv => (first | exact part_map rfl rfl lz | exact part_whole rfl lz | (apply ld1 <;> first | exact rfl | exact lz) | (apply ld2 <;> first | exact rfl | exact lz) | (apply part_l; (first | exact part_map rfl rfl lz | exact part_whole rfl lz | exact rfl)) | (apply part_r; (case hl => first | exact (List.length_map _).trans (by assumption) | ((try apply (List.length_map _).trans); (repeat apply List.length_set.trans); assumption) | rfl); (case hk => first | exact off_s | exact off_r (by decide) | exact off_r lz); first | (apply part_l; (first | exact part_map rfl rfl lz | exact part_whole rfl lz | exact rfl)) | (apply part_r; (case hl => first | exact (List.length_map _).trans (by assumption) | ((try apply (List.length_map _).trans); (repeat apply List.length_set.trans); assumption) | rfl); (case hk => first | exact off_s | exact off_r (by decide) | exact off_r lz); (first | exact part_map rfl rfl lz | exact part_whole rfl lz | exact rfl)) | (first | exact part_map rfl rfl lz | exact part_whole rfl lz | exact rfl)) | exact rfl))) | (apply Does.buildArr tt; (case ho => with_reducible exact rfl); (case hT => exact rfl); (case hd => exact rfl); (case hE => exact rfl); (case hv => exact rfl); (case hc => exact rfl)) | (apply Does.buildSt tt; (case ho => with_reducible exact rfl); (case hT => exact rfl); (case hd => exact rfl); (case hpl => exact rfl); (case hv => exact rfl); (case hc => exact rfl)) | (apply Does.pick; (case ho => with_reducible exact rfl); (case hc => exact rfl); (case hx => first | exact evo_ki | exact evo_kb | exact rfl)) | (apply Does.pickT; (case ho => with_reducible exact rfl); (case hc => exact rfl); (case hb => assumption); (case hx => first | exact evo_ki | exact evo_kb | exact rfl)) | (apply Does.pickF; (case ho => with_reducible exact rfl); (case hc => exact rfl); (case hb => assumption); (case hx => first | exact evo_ki | exact evo_kb | exact rfl)) | (apply Does.pickB; (case ho => with_reducible exact rfl); (case hc => exact rfl); (case hx => first | exact evo_ki | exact evo_kb | exact rfl); (case hy => first | exact evo_ki | exact evo_kb | exact rfl)) | (apply Does.conv tt; (case ho => with_reducible exact rfl); (case hx => first | exact evo_ki | exact evo_kb | exact rfl); (case hS => exact rfl); (case hT => exact rfl); (case hd => exact rfl); (case hr => first | with_reducible assumption | exact wrap_i64 (by omega) | exact wrap_u64 (by omega) | exact wrap_u8 (by omega) | exact to_u8b | exact to_u64 | exact rfl)) | (apply Does.toStr tt; (case ho => with_reducible exact rfl); (case hx => first | exact evo_ki | exact evo_kb | exact rfl); (case hS => exact rfl); (case hd => exact rfl); (case hE => exact rfl); (case hdE => exact rfl); (case hT => exact rfl); (case hdT => exact rfl)) | (apply Does.mkIface tt; (case ho => with_reducible exact rfl); (case hx => first | exact evo_ki | exact evo_kb | exact rfl); (case hT => exact rfl); (case hd => exact rfl)) | (apply Does.nilCheck; (case ho => with_reducible exact rfl); (case hx => first | exact evo_ki | exact evo_kb | exact rfl)) | (apply Does.nilCheckQ; (case ho => with_reducible exact rfl); (case hx => first | exact evo_ki | exact evo_kb | exact rfl)) | (apply Does.nilCheckF; (case ho => with_reducible exact rfl); (case hx => first | exact evo_ki | exact evo_kb | exact rfl)) | (apply Does.arrAt tt; (case ho => with_reducible exact rfl); (case hx => first | exact evo_ki | exact evo_kb | exact rfl); (case hT => exact rfl); (case hd => exact rfl); (case hn => exact lz); (case h0 => exact rfl)) | (apply Does.arrAtSb tt; (case ho => with_reducible exact rfl); (case hx => first | exact evo_ki | exact evo_kb | exact rfl); (case hT => exact rfl); (case hd => exact rfl); (case hn => exact lz)) | (apply Does.cut tt; (case ho => with_reducible exact rfl); (case hx => first | exact evo_ki | exact evo_kb | exact rfl); (case hT => exact rfl); (case hd => exact rfl); (case hE => exact rfl); (case hlo => (first | exact Bd.none | exact Bd.some rfl (by first | with_reducible exact rfl | exact litN _ | exact rfl))); (case hhi => (first | exact Bd.none | exact Bd.some rfl (by first | with_reducible exact rfl | exact litN _ | exact rfl))); (case h1 => exact lz); (case h2 => exact lz); (case hs => exact sz'); (case he => first | exact cut_all | exact cut_lo | exact cut_hi | exact cut_map | exact rfl)) | (apply Does.cutSb tt; (case ho => with_reducible exact rfl); (case hx => first | exact evo_ki | exact evo_kb | exact rfl); (case hT => exact rfl); (case hd => exact rfl); (case hE => exact rfl); (case hlo => (first | exact Bd.none | exact Bd.some rfl (by first | with_reducible exact rfl | exact litN _ | exact rfl))); (case hhi => (first | exact Bd.none | exact Bd.some rfl (by first | with_reducible exact rfl | exact litN _ | exact rfl))); (case h1 => exact lz); (case h2 => exact lz); (case h3 => exact lz)) | (apply Does.cutSbE tt; (case ho => with_reducible exact rfl); (case hx => first | exact evo_ki | exact evo_kb | exact rfl); (case hT => exact rfl); (case hd => exact rfl); (case hE => exact rfl); (case hlo => (first | exact Bd.none | exact Bd.some rfl (by first | with_reducible exact rfl | exact litN _ | exact rfl))); (case hhi => (first | exact Bd.none | exact Bd.some rfl (by first | with_reducible exact rfl | exact litN _ | exact rfl))); (case h1 => exact lz); (case h2 => exact lz)) | (apply Does.cutA0 tt; (case ho => with_reducible exact rfl); (case hx => first | exact evo_ki | exact evo_kb | exact rfl); (case hT => exact rfl); (case hd => exact rfl); (case hE => exact rfl); (case hs => exact rfl); (case hlo => (first | exact Bd.none | exact Bd.some rfl (by first | with_reducible exact rfl | exact litN _ | exact rfl))); (case hhi => (first | exact Bd.none | exact Bd.some rfl (by first | with_reducible exact rfl | exact litN _ | exact rfl))); (case h1 => exact lz); (case h2 => exact lz); (case h3 => exact lz)) | (apply Does.cutA1 tt; (case ho => with_reducible exact rfl); (case hx => first | exact evo_ki | exact evo_kb | exact rfl); (case hT => exact rfl); (case hd => exact rfl); (case hE => exact rfl); (case hs => exact rfl); (case hlo => (first | exact Bd.none | exact Bd.some rfl (by first | with_reducible exact rfl | exact litN _ | exact rfl))); (case hhi => (first | exact Bd.none | exact Bd.some rfl (by first | with_reducible exact rfl | exact litN _ | exact rfl))); (case h1 => exact lz); (case h2 => exact lz); (case h3 => exact lz)) | (apply Does.cutSl tt; (case ho => with_reducible exact rfl); (case hx => first | exact evo_ki | exact evo_kb | exact rfl); (case hT => exact rfl); (case hd => exact rfl); (case hlo => (first | exact Bd.none | exact Bd.some rfl (by first | with_reducible exact rfl | exact litN _ | exact rfl))); (case hhi => (first | exact Bd.none | exact Bd.some rfl (by first | with_reducible exact rfl | exact litN _ | exact rfl))); (case h1 => exact lz); (case h2 => exact lz)) | (apply Does.indexSl tt; (case ho => with_reducible exact rfl); (case hx => first | exact evo_ki | exact evo_kb | exact rfl); (case hi => exact rfl); (case hz => first | with_reducible exact rfl | exact litN _ | exact rfl | exact natZ lz); (case hT => exact rfl); (case hd => exact rfl); (case hk => exact lz)) | (apply Does.cutS tt; (case ho => with_reducible exact rfl); (case hx => first | exact evo_ki | exact evo_kb | exact rfl); (case hT => exact rfl); (case hd => exact rfl); (case hlo => (first | exact Bd.none | exact Bd.some rfl (by first | with_reducible exact rfl | exact litN _ | exact rfl))); (case hhi => (first | exact Bd.none | exact Bd.some rfl (by first | with_reducible exact rfl | exact litN _ | exact rfl))); (case h1 => exact lz); (case h2 => exact lz)) | (apply Does.indexS tt; (case ho => with_reducible exact rfl); (case hx => first | exact evo_ki | exact evo_kb | exact rfl); (case hi => exact rfl); (case hz => first | with_reducible exact rfl | exact litN _ | exact rfl | exact natZ lz); (case hT => exact rfl); (case hd => exact rfl); (case hk => exact lz)) | (apply Does.mkFunc; (case ho => with_reducible exact rfl); (case h1 => exact rfl); (case h2 => exact rfl)))); (case hd => exact rfl)) | (apply DR.st tt; (case ho => with_reducible exact rfl); (case hg => first | exact rfl | exact gd_y rfl rfl rfl (by assumption)); (case hds => exact rfl); (case hx => first | exact evo_ki | exact evo_kb | exact rfl); (case hy => first | exact evo_ki | exact evo_kb | exact rfl); (case hm => exact rfl); (case hT => exact rfl); (case hu => exact rfl); (case hs => first | exact rfl | exact beq_len lz); (case hle => first | exact rfl | exact ble_map1 lz | exact ble_len lz | exact Nat.ble_eq_true_of_le lz); (case hcs => (first | exact splice_map rfl lz | exact splice_all lz | (apply splice_l; (case h => (first | exact splice_map rfl lz | exact splice_one rfl | exact splice_all lz | exact rfl)); exact lz) | (apply splice_r; (case hl => first | exact (List.length_map _).trans (by assumption) | ((try apply (List.length_map _).trans); (repeat apply List.length_set.trans); assumption) | rfl); (case hk => first | exact off_s | exact off_r (by decide) | exact off_r lz); first | (apply splice_l; (case h => (first | exact splice_map rfl lz | exact splice_one rfl | exact splice_all lz | exact rfl)); exact lz) | (apply splice_r; (case hl => first | exact (List.length_map _).trans (by assumption) | ((try apply (List.length_map _).trans); (repeat apply List.length_set.trans); assumption) | rfl); (case hk => first | exact off_s | exact off_r (by decide) | exact off_r lz); (first | exact splice_map rfl lz | exact splice_one rfl | exact splice_all lz | exact rfl)) | (first | exact splice_map rfl lz | exact splice_one rfl | exact splice_all lz | exact rfl)) | exact rfl))) | (apply DR.nn; (case hg => first | exact rfl | exact gd_y rfl rfl rfl (by assumption)); (case hds => exact rfl); (case h => (first | (apply Does.rangeS tt; (case ho => with_reducible exact rfl); (case hx => first | exact evo_ki | exact evo_kb | exact rfl); (case hT => exact rfl); (case hd => exact rfl)) | (apply Does.alloc tt; (case ho => with_reducible exact rfl); (case hT => exact rfl)) | (apply Does.box; (case ho => with_reducible exact rfl); (case hx => first | exact evo_ki | exact evo_kb | exact rfl); (case hu => exact rfl)) | (apply Does.buildSlice tt; (case ho => with_reducible exact rfl); (case hT => exact rfl); (case hd => exact rfl); (case hE => exact rfl); (case hpos => exact rfl); (case hv => first | exact evp0 | exact evp1 (by first | exact evo_ki | exact evo_kb | exact rfl) | exact evp2 (by first | exact evo_ki | exact evo_kb | exact rfl) (by first | exact evo_ki | exact evo_kb | exact rfl) | exact evp3 (by first | exact evo_ki | exact evo_kb | exact rfl) (by first | exact evo_ki | exact evo_kb | exact rfl) (by first | exact evo_ki | exact evo_kb | exact rfl) | exact rfl); (case hde => first | exact dense0 | exact dense1 (by first | exact hbr _ | with_reducible exact bare_k | with_reducible exact bare_s | with_reducible exact bare_am (fun _ => rfl) | exact bare_k | exact bare_s | exact bare_am (fun _ => rfl) | exact rfl) | exact dense2 (by first | exact hbr _ | with_reducible exact bare_k | with_reducible exact bare_s | with_reducible exact bare_am (fun _ => rfl) | exact bare_k | exact bare_s | exact bare_am (fun _ => rfl) | exact rfl) (by first | exact hbr _ | with_reducible exact bare_k | with_reducible exact bare_s | with_reducible exact bare_am (fun _ => rfl) | exact bare_k | exact bare_s | exact bare_am (fun _ => rfl) | exact rfl) | exact dense3 (by first | exact hbr _ | with_reducible exact bare_k | with_reducible exact bare_s | with_reducible exact bare_am (fun _ => rfl) | exact bare_k | exact bare_s | exact bare_am (fun _ => rfl) | exact rfl) (by first | exact hbr _ | with_reducible exact bare_k | with_reducible exact bare_s | with_reducible exact bare_am (fun _ => rfl) | exact bare_k | exact bare_s | exact bare_am (fun _ => rfl) | exact rfl) (by first | exact hbr _ | with_reducible exact bare_k | with_reducible exact bare_s | with_reducible exact bare_am (fun _ => rfl) | exact bare_k | exact bare_s | exact bare_am (fun _ => rfl) | exact rfl) | exact rfl); (case hlen => exact rfl); (case hsm => exact rfl); (case hs => first | exact sz' | exact all_sizes rfl); (case ho1 => exact rfl)) | (apply Does.appNil tt; (case ho => with_reducible exact rfl); (case hx => first | exact evo_ki | exact evo_kb | exact rfl); (case hy => first | exact evo_ki | exact evo_kb | exact rfl); (case hT => exact rfl); (case hd => exact rfl); (case hE => exact rfl); (case hpos => exact rfl); (case hX => exact rfl); (case hdx => exact rfl); (case hys => exact sz'); (case hn => exact rfl); (case hmax => exact lz); (case hb => exact lz)))); (case ht => exact rfl); (case hd => exact rfl)) | (apply DR.aq tt; (case ho => with_reducible exact rfl); (case hg => first | exact rfl | exact gd_y rfl rfl rfl (by assumption)); (case hds => exact rfl); (case hx => first | exact evo_ki | exact evo_kb | exact rfl); (case hy => first | exact evo_ki | exact evo_kb | exact rfl); (case hm => exact rfl); (case hn0 => exact lz); (case hT => exact rfl); (case hdt => exact rfl); (case hE => exact rfl); (case hsz => exact rfl); (case hX => exact rfl); (case hdx => exact rfl); (case hes => exact sz'); (case hys => exact sz'); (case hz => first | exact app_map | exact app_nilmap | exact app_one1 | exact app_one2 | exact app_two | exact app_bl rfl | exact rfl); (case hn => first | exact List.length_map _ | exact rfl); (case hmax => exact lz); (case hb => exact lz); (case hd => exact rfl)) | (apply DR.ww; (case hg => first | exact rfl | exact gd_y rfl rfl rfl (by assumption)); (case hds => exact rfl); (case h => (apply Does.nextS; (case ho => with_reducible exact rfl); (case hb => exact rfl); (case hx => first | exact evo_ki | exact evo_kb | exact rfl); (case hp => exact lz); (case hc => assumption); (case hw => assumption))); (case ht => exact rfl); (case hd => exact rfl)) | (apply DR.rr; (case hg => first | exact rfl | exact gd_y rfl rfl rfl (by assumption)); (case hds => exact rfl); (case h => (apply Does.nextE; (case ho => with_reducible exact rfl); (case hb => exact rfl); (case hx => first | exact evo_ki | exact evo_kb | exact rfl); (case hp => exact lz))); (case ht => exact rfl); (case hd => exact rfl)) | (apply DR.ab tt; (case ho => with_reducible exact rfl); (case hg => first | exact rfl | exact gd_y rfl rfl rfl (by assumption)); (case hds => exact rfl); (case hx => first | exact evo_ki | exact evo_kb | exact rfl); (case hy => first | exact evo_ki | exact evo_kb | exact rfl); (case hm => exact rfl); (case hb2 => exact rfl); (case hn0 => exact lz); (case hT => exact rfl); (case hdt => exact rfl); (case hE => exact rfl); (case hsz => exact rfl); (case hs1 => exact rfl); (case hX => exact rfl); (case hdx => exact rfl); (case hcs => first | exact sub_map | (apply sub_l; (case hs => exact sub_map); exact lz) | (apply sub_r; (case hl => first | exact (List.length_map _).trans (by assumption) | ((try apply (List.length_map _).trans); (repeat apply List.length_set.trans); assumption) | rfl); (case hk => first | exact off_s | exact off_r (by decide) | exact off_r lz); first | (apply sub_l; (case hs => exact sub_map); exact lz) | exact sub_map)); (case hf => exact fun _ => rfl); (case hl => exact lz); (case hr => exact fun _ => rfl); (case hes => exact sz'); (case hz => first | exact app_map | exact app_nilmap | exact rfl); (case hn => first | exact List.length_map _ | exact rfl); (case hmax => exact lz); (case hb => exact lz); (case hd => exact rfl)) | (apply DR.mk tt; (case ho => with_reducible exact rfl); (case hg => first | exact rfl | exact gd_y rfl rfl rfl (by assumption)); (case hds => exact rfl); (case hx => first | exact evo_ki | exact evo_kb | exact rfl); (case hm => exact rfl); (case hn => exact lz); (case hT => exact rfl); (case hdt => exact rfl); (case hE => exact rfl); (case hdE => exact rfl); (case hne => exact rfl); (case hs => first | exact all_sizes rfl | exact sz'); (case hd => exact rfl)) | (apply DR.sb; (case ho => with_reducible exact rfl); (case hg => exact rfl); (case hds => exact rfl); (case hx => exact rfl); (case hm => exact rfl); (case' hcs => first | exact sub_map | (apply sub_l; (case hs => exact sub_map); exact lz) | (apply sub_r; (case hl => first | exact (List.length_map _).trans (by assumption) | ((try apply (List.length_map _).trans); (repeat apply List.length_set.trans); assumption) | rfl); (case hk => first | exact off_s | exact off_r (by decide) | exact off_r lz); first | (apply sub_l; (case hs => exact sub_map); exact lz) | exact sub_map)); (case hf => exact fun _ => rfl); (case' hc => (first | apply c1 | apply c2 | apply c3 | apply c4 | apply c5 | apply c6 | apply c7 | apply c8 | apply c9 | apply c10 | apply c11 | apply c12 | apply c13 | apply c14 | apply c15 | apply c16)); (case hl => exact lz); (case hr => first | exact rfl | (simp only [V.cells, refsE, refsM, V.refs, V.refs.go, V.pure, V.pure.go, pure_mapq, pure_mapb, pure_mapu, refs_mapq, refs_mapb, refs_mapu, refs_append, Bool.and_true, Bool.true_and, Bool.and_self] <;> exact rfl) | (simp only [V.cells, refsE, refsM, V.refs, V.refs.go, V.pure, V.pure.go, pure_mapq, pure_mapb, pure_mapu, refs_mapq, refs_mapb, refs_mapu, refs_append, Bool.and_true, Bool.true_and, Bool.and_self, hrf] <;> exact rfl) | (simp only [V.cells, refsE, refsM, V.refs, V.refs.go, V.pure, V.pure.go, pure_mapq, pure_mapb, pure_mapu, refs_mapq, refs_mapb, refs_mapu, refs_append, Bool.and_true, Bool.true_and, Bool.and_self, hrf, hrg] <;> exact rfl) | exact lz); (case hn => exact lz); (case hmx => exact lz); (case hp => first | exact rfl | (simp only [V.cells, refsE, refsM, V.refs, V.refs.go, V.pure, V.pure.go, pure_mapq, pure_mapb, pure_mapu, refs_mapq, refs_mapb, refs_mapu, refs_append, Bool.and_true, Bool.true_and, Bool.and_self] <;> exact rfl) | (simp only [V.cells, refsE, refsM, V.refs, V.refs.go, V.pure, V.pure.go, pure_mapq, pure_mapb, pure_mapu, refs_mapq, refs_mapb, refs_mapu, refs_append, Bool.and_true, Bool.true_and, Bool.and_self, hrf] <;> exact rfl) | (simp only [V.cells, refsE, refsM, V.refs, V.refs.go, V.pure, V.pure.go, pure_mapq, pure_mapb, pure_mapu, refs_mapq, refs_mapb, refs_mapu, refs_append, Bool.and_true, Bool.true_and, Bool.and_self, hrf, hrg] <;> exact rfl) | exact lz); (case hd => exact rfl)) | (apply DR.cm; (case hg => first | exact rfl | exact gd_y rfl rfl rfl (by assumption)); (case hds => exact rfl); (case' h => (first | (apply Does.callM; (case ho => with_reducible exact rfl); (case hx => exact rfl); (first | ((case' hc => apply c1); (case hu => first | exact .same _ | exact ft1 rfl | exact ft2 rfl | (apply ft1; simp only [V.cv, V.cv.go, V.cells, cv_mapb, cv_mapq, cv_mapu] <;> rfl))) | ((case' hc => apply c2); (case hu => first | exact .same _ | exact ft1 rfl | exact ft2 rfl | (apply ft1; simp only [V.cv, V.cv.go, V.cells, cv_mapb, cv_mapq, cv_mapu] <;> rfl))) | ((case' hc => apply c3); (case hu => first | exact .same _ | exact ft1 rfl | exact ft2 rfl | (apply ft1; simp only [V.cv, V.cv.go, V.cells, cv_mapb, cv_mapq, cv_mapu] <;> rfl))) | ((case' hc => apply c4); (case hu => first | exact .same _ | exact ft1 rfl | exact ft2 rfl | (apply ft1; simp only [V.cv, V.cv.go, V.cells, cv_mapb, cv_mapq, cv_mapu] <;> rfl))) | ((case' hc => apply c5); (case hu => first | exact .same _ | exact ft1 rfl | exact ft2 rfl | (apply ft1; simp only [V.cv, V.cv.go, V.cells, cv_mapb, cv_mapq, cv_mapu] <;> rfl))) | ((case' hc => apply c6); (case hu => first | exact .same _ | exact ft1 rfl | exact ft2 rfl | (apply ft1; simp only [V.cv, V.cv.go, V.cells, cv_mapb, cv_mapq, cv_mapu] <;> rfl))) | ((case' hc => apply c7); (case hu => first | exact .same _ | exact ft1 rfl | exact ft2 rfl | (apply ft1; simp only [V.cv, V.cv.go, V.cells, cv_mapb, cv_mapq, cv_mapu] <;> rfl))) | ((case' hc => apply c8); (case hu => first | exact .same _ | exact ft1 rfl | exact ft2 rfl | (apply ft1; simp only [V.cv, V.cv.go, V.cells, cv_mapb, cv_mapq, cv_mapu] <;> rfl))) | ((case' hc => apply c9); (case hu => first | exact .same _ | exact ft1 rfl | exact ft2 rfl | (apply ft1; simp only [V.cv, V.cv.go, V.cells, cv_mapb, cv_mapq, cv_mapu] <;> rfl))) | ((case' hc => apply c10); (case hu => first | exact .same _ | exact ft1 rfl | exact ft2 rfl | (apply ft1; simp only [V.cv, V.cv.go, V.cells, cv_mapb, cv_mapq, cv_mapu] <;> rfl))) | ((case' hc => apply c11); (case hu => first | exact .same _ | exact ft1 rfl | exact ft2 rfl | (apply ft1; simp only [V.cv, V.cv.go, V.cells, cv_mapb, cv_mapq, cv_mapu] <;> rfl))) | ((case' hc => apply c12); (case hu => first | exact .same _ | exact ft1 rfl | exact ft2 rfl | (apply ft1; simp only [V.cv, V.cv.go, V.cells, cv_mapb, cv_mapq, cv_mapu] <;> rfl))) | ((case' hc => apply c13); (case hu => first | exact .same _ | exact ft1 rfl | exact ft2 rfl | (apply ft1; simp only [V.cv, V.cv.go, V.cells, cv_mapb, cv_mapq, cv_mapu] <;> rfl))) | ((case' hc => apply c14); (case hu => first | exact .same _ | exact ft1 rfl | exact ft2 rfl | (apply ft1; simp only [V.cv, V.cv.go, V.cells, cv_mapb, cv_mapq, cv_mapu] <;> rfl))) | ((case' hc => apply c15); (case hu => first | exact .same _ | exact ft1 rfl | exact ft2 rfl | (apply ft1; simp only [V.cv, V.cv.go, V.cells, cv_mapb, cv_mapq, cv_mapu] <;> rfl))) | ((case' hc => apply c16); (case hu => first | exact .same _ | exact ft1 rfl | exact ft2 rfl | (apply ft1; simp only [V.cv, V.cv.go, V.cells, cv_mapb, cv_mapq, cv_mapu] <;> rfl)))); (case hr => first | exact rfl | (simp only [V.cells, refsE, refsM, V.refs, V.refs.go, V.pure, V.pure.go, pure_mapq, pure_mapb, pure_mapu, refs_mapq, refs_mapb, refs_mapu, refs_append, Bool.and_true, Bool.true_and, Bool.and_self] <;> exact rfl) | (simp only [V.cells, refsE, refsM, V.refs, V.refs.go, V.pure, V.pure.go, pure_mapq, pure_mapb, pure_mapu, refs_mapq, refs_mapb, refs_mapu, refs_append, Bool.and_true, Bool.true_and, Bool.and_self, hrf] <;> exact rfl) | (simp only [V.cells, refsE, refsM, V.refs, V.refs.go, V.pure, V.pure.go, pure_mapq, pure_mapb, pure_mapu, refs_mapq, refs_mapb, refs_mapu, refs_append, Bool.and_true, Bool.true_and, Bool.and_self, hrf, hrg] <;> exact rfl) | exact lz)) | (apply Does.callFM; (case ho => with_reducible exact rfl); (case hf => exact rfl); (case hx => exact rfl); (first | ((case' hc => apply c1); (case hu => first | exact .same _ | exact ft1 rfl | exact ft2 rfl | (apply ft1; simp only [V.cv, V.cv.go, V.cells, cv_mapb, cv_mapq, cv_mapu] <;> rfl))) | ((case' hc => apply c2); (case hu => first | exact .same _ | exact ft1 rfl | exact ft2 rfl | (apply ft1; simp only [V.cv, V.cv.go, V.cells, cv_mapb, cv_mapq, cv_mapu] <;> rfl))) | ((case' hc => apply c3); (case hu => first | exact .same _ | exact ft1 rfl | exact ft2 rfl | (apply ft1; simp only [V.cv, V.cv.go, V.cells, cv_mapb, cv_mapq, cv_mapu] <;> rfl))) | ((case' hc => apply c4); (case hu => first | exact .same _ | exact ft1 rfl | exact ft2 rfl | (apply ft1; simp only [V.cv, V.cv.go, V.cells, cv_mapb, cv_mapq, cv_mapu] <;> rfl))) | ((case' hc => apply c5); (case hu => first | exact .same _ | exact ft1 rfl | exact ft2 rfl | (apply ft1; simp only [V.cv, V.cv.go, V.cells, cv_mapb, cv_mapq, cv_mapu] <;> rfl))) | ((case' hc => apply c6); (case hu => first | exact .same _ | exact ft1 rfl | exact ft2 rfl | (apply ft1; simp only [V.cv, V.cv.go, V.cells, cv_mapb, cv_mapq, cv_mapu] <;> rfl))) | ((case' hc => apply c7); (case hu => first | exact .same _ | exact ft1 rfl | exact ft2 rfl | (apply ft1; simp only [V.cv, V.cv.go, V.cells, cv_mapb, cv_mapq, cv_mapu] <;> rfl))) | ((case' hc => apply c8); (case hu => first | exact .same _ | exact ft1 rfl | exact ft2 rfl | (apply ft1; simp only [V.cv, V.cv.go, V.cells, cv_mapb, cv_mapq, cv_mapu] <;> rfl))) | ((case' hc => apply c9); (case hu => first | exact .same _ | exact ft1 rfl | exact ft2 rfl | (apply ft1; simp only [V.cv, V.cv.go, V.cells, cv_mapb, cv_mapq, cv_mapu] <;> rfl))) | ((case' hc => apply c10); (case hu => first | exact .same _ | exact ft1 rfl | exact ft2 rfl | (apply ft1; simp only [V.cv, V.cv.go, V.cells, cv_mapb, cv_mapq, cv_mapu] <;> rfl))) | ((case' hc => apply c11); (case hu => first | exact .same _ | exact ft1 rfl | exact ft2 rfl | (apply ft1; simp only [V.cv, V.cv.go, V.cells, cv_mapb, cv_mapq, cv_mapu] <;> rfl))) | ((case' hc => apply c12); (case hu => first | exact .same _ | exact ft1 rfl | exact ft2 rfl | (apply ft1; simp only [V.cv, V.cv.go, V.cells, cv_mapb, cv_mapq, cv_mapu] <;> rfl))) | ((case' hc => apply c13); (case hu => first | exact .same _ | exact ft1 rfl | exact ft2 rfl | (apply ft1; simp only [V.cv, V.cv.go, V.cells, cv_mapb, cv_mapq, cv_mapu] <;> rfl))) | ((case' hc => apply c14); (case hu => first | exact .same _ | exact ft1 rfl | exact ft2 rfl | (apply ft1; simp only [V.cv, V.cv.go, V.cells, cv_mapb, cv_mapq, cv_mapu] <;> rfl))) | ((case' hc => apply c15); (case hu => first | exact .same _ | exact ft1 rfl | exact ft2 rfl | (apply ft1; simp only [V.cv, V.cv.go, V.cells, cv_mapb, cv_mapq, cv_mapu] <;> rfl))) | ((case' hc => apply c16); (case hu => first | exact .same _ | exact ft1 rfl | exact ft2 rfl | (apply ft1; simp only [V.cv, V.cv.go, V.cells, cv_mapb, cv_mapq, cv_mapu] <;> rfl)))); (case hr => first | exact rfl | (simp only [V.cells, refsE, refsM, V.refs, V.refs.go, V.pure, V.pure.go, pure_mapq, pure_mapb, pure_mapu, refs_mapq, refs_mapb, refs_mapu, refs_append, Bool.and_true, Bool.true_and, Bool.and_self] <;> exact rfl) | (simp only [V.cells, refsE, refsM, V.refs, V.refs.go, V.pure, V.pure.go, pure_mapq, pure_mapb, pure_mapu, refs_mapq, refs_mapb, refs_mapu, refs_append, Bool.and_true, Bool.true_and, Bool.and_self, hrf] <;> exact rfl) | (simp only [V.cells, refsE, refsM, V.refs, V.refs.go, V.pure, V.pure.go, pure_mapq, pure_mapb, pure_mapu, refs_mapq, refs_mapb, refs_mapu, refs_append, Bool.and_true, Bool.true_and, Bool.and_self, hrf, hrg] <;> exact rfl) | exact lz)))); (case ht => first | exact True.intro | exact And.intro rfl True.intro | exact And.intro rfl (And.intro rfl True.intro) | exact And.intro rfl (And.intro rfl (And.intro rfl True.intro)) | exact And.intro rfl (And.intro rfl (And.intro rfl (And.intro rfl True.intro)))); (case hd => exact rfl)) | (apply DR.cz; (case hg => first | exact rfl | exact gd_y rfl rfl rfl (by assumption)); (case hds => exact rfl); (case' h => (first | (apply Does.callM; (case ho => with_reducible exact rfl); (case hx => exact rfl); (first | ((case' hc => apply c1); (case hu => first | exact .same _ | exact ft1 rfl | exact ft2 rfl | (apply ft1; simp only [V.cv, V.cv.go, V.cells, cv_mapb, cv_mapq, cv_mapu] <;> rfl))) | ((case' hc => apply c2); (case hu => first | exact .same _ | exact ft1 rfl | exact ft2 rfl | (apply ft1; simp only [V.cv, V.cv.go, V.cells, cv_mapb, cv_mapq, cv_mapu] <;> rfl))) | ((case' hc => apply c3); (case hu => first | exact .same _ | exact ft1 rfl | exact ft2 rfl | (apply ft1; simp only [V.cv, V.cv.go, V.cells, cv_mapb, cv_mapq, cv_mapu] <;> rfl))) | ((case' hc => apply c4); (case hu => first | exact .same _ | exact ft1 rfl | exact ft2 rfl | (apply ft1; simp only [V.cv, V.cv.go, V.cells, cv_mapb, cv_mapq, cv_mapu] <;> rfl))) | ((case' hc => apply c5); (case hu => first | exact .same _ | exact ft1 rfl | exact ft2 rfl | (apply ft1; simp only [V.cv, V.cv.go, V.cells, cv_mapb, cv_mapq, cv_mapu] <;> rfl))) | ((case' hc => apply c6); (case hu => first | exact .same _ | exact ft1 rfl | exact ft2 rfl | (apply ft1; simp only [V.cv, V.cv.go, V.cells, cv_mapb, cv_mapq, cv_mapu] <;> rfl))) | ((case' hc => apply c7); (case hu => first | exact .same _ | exact ft1 rfl | exact ft2 rfl | (apply ft1; simp only [V.cv, V.cv.go, V.cells, cv_mapb, cv_mapq, cv_mapu] <;> rfl))) | ((case' hc => apply c8); (case hu => first | exact .same _ | exact ft1 rfl | exact ft2 rfl | (apply ft1; simp only [V.cv, V.cv.go, V.cells, cv_mapb, cv_mapq, cv_mapu] <;> rfl))) | ((case' hc => apply c9); (case hu => first | exact .same _ | exact ft1 rfl | exact ft2 rfl | (apply ft1; simp only [V.cv, V.cv.go, V.cells, cv_mapb, cv_mapq, cv_mapu] <;> rfl))) | ((case' hc => apply c10); (case hu => first | exact .same _ | exact ft1 rfl | exact ft2 rfl | (apply ft1; simp only [V.cv, V.cv.go, V.cells, cv_mapb, cv_mapq, cv_mapu] <;> rfl))) | ((case' hc => apply c11); (case hu => first | exact .same _ | exact ft1 rfl | exact ft2 rfl | (apply ft1; simp only [V.cv, V.cv.go, V.cells, cv_mapb, cv_mapq, cv_mapu] <;> rfl))) | ((case' hc => apply c12); (case hu => first | exact .same _ | exact ft1 rfl | exact ft2 rfl | (apply ft1; simp only [V.cv, V.cv.go, V.cells, cv_mapb, cv_mapq, cv_mapu] <;> rfl))) | ((case' hc => apply c13); (case hu => first | exact .same _ | exact ft1 rfl | exact ft2 rfl | (apply ft1; simp only [V.cv, V.cv.go, V.cells, cv_mapb, cv_mapq, cv_mapu] <;> rfl))) | ((case' hc => apply c14); (case hu => first | exact .same _ | exact ft1 rfl | exact ft2 rfl | (apply ft1; simp only [V.cv, V.cv.go, V.cells, cv_mapb, cv_mapq, cv_mapu] <;> rfl))) | ((case' hc => apply c15); (case hu => first | exact .same _ | exact ft1 rfl | exact ft2 rfl | (apply ft1; simp only [V.cv, V.cv.go, V.cells, cv_mapb, cv_mapq, cv_mapu] <;> rfl))) | ((case' hc => apply c16); (case hu => first | exact .same _ | exact ft1 rfl | exact ft2 rfl | (apply ft1; simp only [V.cv, V.cv.go, V.cells, cv_mapb, cv_mapq, cv_mapu] <;> rfl)))); (case hr => first | exact rfl | (simp only [V.cells, refsE, refsM, V.refs, V.refs.go, V.pure, V.pure.go, pure_mapq, pure_mapb, pure_mapu, refs_mapq, refs_mapb, refs_mapu, refs_append, Bool.and_true, Bool.true_and, Bool.and_self] <;> exact rfl) | (simp only [V.cells, refsE, refsM, V.refs, V.refs.go, V.pure, V.pure.go, pure_mapq, pure_mapb, pure_mapu, refs_mapq, refs_mapb, refs_mapu, refs_append, Bool.and_true, Bool.true_and, Bool.and_self, hrf] <;> exact rfl) | (simp only [V.cells, refsE, refsM, V.refs, V.refs.go, V.pure, V.pure.go, pure_mapq, pure_mapb, pure_mapu, refs_mapq, refs_mapb, refs_mapu, refs_append, Bool.and_true, Bool.true_and, Bool.and_self, hrf, hrg] <;> exact rfl) | exact lz)) | (apply Does.callFM; (case ho => with_reducible exact rfl); (case hf => exact rfl); (case hx => exact rfl); (first | ((case' hc => apply c1); (case hu => first | exact .same _ | exact ft1 rfl | exact ft2 rfl | (apply ft1; simp only [V.cv, V.cv.go, V.cells, cv_mapb, cv_mapq, cv_mapu] <;> rfl))) | ((case' hc => apply c2); (case hu => first | exact .same _ | exact ft1 rfl | exact ft2 rfl | (apply ft1; simp only [V.cv, V.cv.go, V.cells, cv_mapb, cv_mapq, cv_mapu] <;> rfl))) | ((case' hc => apply c3); (case hu => first | exact .same _ | exact ft1 rfl | exact ft2 rfl | (apply ft1; simp only [V.cv, V.cv.go, V.cells, cv_mapb, cv_mapq, cv_mapu] <;> rfl))) | ((case' hc => apply c4); (case hu => first | exact .same _ | exact ft1 rfl | exact ft2 rfl | (apply ft1; simp only [V.cv, V.cv.go, V.cells, cv_mapb, cv_mapq, cv_mapu] <;> rfl))) | ((case' hc => apply c5); (case hu => first | exact .same _ | exact ft1 rfl | exact ft2 rfl | (apply ft1; simp only [V.cv, V.cv.go, V.cells, cv_mapb, cv_mapq, cv_mapu] <;> rfl))) | ((case' hc => apply c6); (case hu => first | exact .same _ | exact ft1 rfl | exact ft2 rfl | (apply ft1; simp only [V.cv, V.cv.go, V.cells, cv_mapb, cv_mapq, cv_mapu] <;> rfl))) | ((case' hc => apply c7); (case hu => first | exact .same _ | exact ft1 rfl | exact ft2 rfl | (apply ft1; simp only [V.cv, V.cv.go, V.cells, cv_mapb, cv_mapq, cv_mapu] <;> rfl))) | ((case' hc => apply c8); (case hu => first | exact .same _ | exact ft1 rfl | exact ft2 rfl | (apply ft1; simp only [V.cv, V.cv.go, V.cells, cv_mapb, cv_mapq, cv_mapu] <;> rfl))) | ((case' hc => apply c9); (case hu => first | exact .same _ | exact ft1 rfl | exact ft2 rfl | (apply ft1; simp only [V.cv, V.cv.go, V.cells, cv_mapb, cv_mapq, cv_mapu] <;> rfl))) | ((case' hc => apply c10); (case hu => first | exact .same _ | exact ft1 rfl | exact ft2 rfl | (apply ft1; simp only [V.cv, V.cv.go, V.cells, cv_mapb, cv_mapq, cv_mapu] <;> rfl))) | ((case' hc => apply c11); (case hu => first | exact .same _ | exact ft1 rfl | exact ft2 rfl | (apply ft1; simp only [V.cv, V.cv.go, V.cells, cv_mapb, cv_mapq, cv_mapu] <;> rfl))) | ((case' hc => apply c12); (case hu => first | exact .same _ | exact ft1 rfl | exact ft2 rfl | (apply ft1; simp only [V.cv, V.cv.go, V.cells, cv_mapb, cv_mapq, cv_mapu] <;> rfl))) | ((case' hc => apply c13); (case hu => first | exact .same _ | exact ft1 rfl | exact ft2 rfl | (apply ft1; simp only [V.cv, V.cv.go, V.cells, cv_mapb, cv_mapq, cv_mapu] <;> rfl))) | ((case' hc => apply c14); (case hu => first | exact .same _ | exact ft1 rfl | exact ft2 rfl | (apply ft1; simp only [V.cv, V.cv.go, V.cells, cv_mapb, cv_mapq, cv_mapu] <;> rfl))) | ((case' hc => apply c15); (case hu => first | exact .same _ | exact ft1 rfl | exact ft2 rfl | (apply ft1; simp only [V.cv, V.cv.go, V.cells, cv_mapb, cv_mapq, cv_mapu] <;> rfl))) | ((case' hc => apply c16); (case hu => first | exact .same _ | exact ft1 rfl | exact ft2 rfl | (apply ft1; simp only [V.cv, V.cv.go, V.cells, cv_mapb, cv_mapq, cv_mapu] <;> rfl)))); (case hr => first | exact rfl | (simp only [V.cells, refsE, refsM, V.refs, V.refs.go, V.pure, V.pure.go, pure_mapq, pure_mapb, pure_mapu, refs_mapq, refs_mapb, refs_mapu, refs_append, Bool.and_true, Bool.true_and, Bool.and_self] <;> exact rfl) | (simp only [V.cells, refsE, refsM, V.refs, V.refs.go, V.pure, V.pure.go, pure_mapq, pure_mapb, pure_mapu, refs_mapq, refs_mapb, refs_mapu, refs_append, Bool.and_true, Bool.true_and, Bool.and_self, hrf] <;> exact rfl) | (simp only [V.cells, refsE, refsM, V.refs, V.refs.go, V.pure, V.pure.go, pure_mapq, pure_mapb, pure_mapu, refs_mapq, refs_mapb, refs_mapu, refs_append, Bool.and_true, Bool.true_and, Bool.and_self, hrf, hrg] <;> exact rfl) | exact lz)))); (case ht => first | exact True.intro | exact And.intro rfl True.intro | exact And.intro rfl (And.intro rfl True.intro) | exact And.intro rfl (And.intro rfl (And.intro rfl True.intro)) | exact And.intro rfl (And.intro rfl (And.intro rfl (And.intro rfl True.intro))))) | (apply DR.gD; (case hg => first | exact rfl | exact gd_y rfl rfl rfl (by assumption)); (case hds => exact rfl); (case hu => exact rfl); (case h => (first | (apply Does.lss; (case ho => with_reducible exact rfl); (case hx => exact rfl); (case hy => exact rfl); (case hr => exact rfl)) | (apply Does.eql; (case ho => with_reducible exact rfl); (case hx => exact rfl); (case hy => exact rfl); (case hr => exact rfl)) | (apply Does.neq; (case ho => with_reducible exact rfl); (case hx => exact rfl); (case hy => exact rfl); (case hr => exact rfl)) | (apply Does.leq; (case ho => with_reducible exact rfl); (case hx => exact rfl); (case hy => exact rfl); (case hr => exact rfl)) | (apply Does.gtr; (case ho => with_reducible exact rfl); (case hx => exact rfl); (case hy => exact rfl); (case hr => exact rfl)) | (apply Does.geq; (case ho => with_reducible exact rfl); (case hx => exact rfl); (case hy => exact rfl); (case hr => exact rfl)) | (apply Does.eqInts bK_inj tt; (case ho => with_reducible exact rfl); (case hx => first | exact evo_ki | exact evo_kb | exact rfl); (case hy => first | exact evo_ki | exact evo_kb | exact rfl); (case hT => exact rfl); (case hd => exact rfl); (case hE => exact rfl); (case he => exact rfl); (case hs => exact rfl); (case hl => exact lz); (case hm => exact lz); (case hr' => exact rfl)) | (apply Does.eqInts qK_inj tt; (case ho => with_reducible exact rfl); (case hx => first | exact evo_ki | exact evo_kb | exact rfl); (case hy => first | exact evo_ki | exact evo_kb | exact rfl); (case hT => exact rfl); (case hd => exact rfl); (case hE => exact rfl); (case he => exact rfl); (case hs => exact rfl); (case hl => exact lz); (case hm => exact lz); (case hr' => exact rfl)) | (apply Does.eqInts uK_inj tt; (case ho => with_reducible exact rfl); (case hx => first | exact evo_ki | exact evo_kb | exact rfl); (case hy => first | exact evo_ki | exact evo_kb | exact rfl); (case hT => exact rfl); (case hd => exact rfl); (case hE => exact rfl); (case he => exact rfl); (case hs => exact rfl); (case hl => exact lz); (case hm => exact lz); (case hr' => exact rfl)) | (apply Does.eqInts (m := List.replicate 4 0) uK_inj tt; (case ho => with_reducible exact rfl); (case hx => first | exact evo_ki | exact evo_kb | exact rfl); (case hy => first | exact evo_ki | exact evo_kb | exact rfl); (case hT => exact rfl); (case hd => exact rfl); (case hE => exact rfl); (case he => exact rfl); (case hs => exact rfl); (case hl => exact lz); (case hm => exact lz); (case hr' => exact rfl)) | (apply Does.eqInts (m := List.replicate 32 0) bK_inj tt; (case ho => with_reducible exact rfl); (case hx => first | exact evo_ki | exact evo_kb | exact rfl); (case hy => first | exact evo_ki | exact evo_kb | exact rfl); (case hT => exact rfl); (case hd => exact rfl); (case hE => exact rfl); (case he => exact rfl); (case hs => exact rfl); (case hl => exact lz); (case hm => exact lz); (case hr' => exact rfl)) | (apply Does.eqInts (m := List.replicate 8 0) qK_inj tt; (case ho => with_reducible exact rfl); (case hx => first | exact evo_ki | exact evo_kb | exact rfl); (case hy => first | exact evo_ki | exact evo_kb | exact rfl); (case hT => exact rfl); (case hd => exact rfl); (case hE => exact rfl); (case he => exact rfl); (case hs => exact rfl); (case hl => exact lz); (case hm => exact lz); (case hr' => exact rfl)) | (apply Does.eqInts (m := List.replicate 8 0) bK_inj tt; (case ho => with_reducible exact rfl); (case hx => first | exact evo_ki | exact evo_kb | exact rfl); (case hy => first | exact evo_ki | exact evo_kb | exact rfl); (case hT => exact rfl); (case hd => exact rfl); (case hE => exact rfl); (case he => exact rfl); (case hs => exact rfl); (case hl => exact lz); (case hm => exact lz); (case hr' => exact rfl)) | (apply Does.neInts bK_inj tt; (case ho => with_reducible exact rfl); (case hx => first | exact evo_ki | exact evo_kb | exact rfl); (case hy => first | exact evo_ki | exact evo_kb | exact rfl); (case hT => exact rfl); (case hd => exact rfl); (case hE => exact rfl); (case he => exact rfl); (case hs => exact rfl); (case hl => exact lz); (case hm => exact lz); (case hr' => exact rfl)) | (apply Does.neInts qK_inj tt; (case ho => with_reducible exact rfl); (case hx => first | exact evo_ki | exact evo_kb | exact rfl); (case hy => first | exact evo_ki | exact evo_kb | exact rfl); (case hT => exact rfl); (case hd => exact rfl); (case hE => exact rfl); (case he => exact rfl); (case hs => exact rfl); (case hl => exact lz); (case hm => exact lz); (case hr' => exact rfl)) | (apply Does.neInts uK_inj tt; (case ho => with_reducible exact rfl); (case hx => first | exact evo_ki | exact evo_kb | exact rfl); (case hy => first | exact evo_ki | exact evo_kb | exact rfl); (case hT => exact rfl); (case hd => exact rfl); (case hE => exact rfl); (case he => exact rfl); (case hs => exact rfl); (case hl => exact lz); (case hm => exact lz); (case hr' => exact rfl)) | (apply Does.neInts (m := List.replicate 4 0) uK_inj tt; (case ho => with_reducible exact rfl); (case hx => first | exact evo_ki | exact evo_kb | exact rfl); (case hy => first | exact evo_ki | exact evo_kb | exact rfl); (case hT => exact rfl); (case hd => exact rfl); (case hE => exact rfl); (case he => exact rfl); (case hs => exact rfl); (case hl => exact lz); (case hm => exact lz); (case hr' => exact rfl)) | (apply Does.neInts (m := List.replicate 32 0) bK_inj tt; (case ho => with_reducible exact rfl); (case hx => first | exact evo_ki | exact evo_kb | exact rfl); (case hy => first | exact evo_ki | exact evo_kb | exact rfl); (case hT => exact rfl); (case hd => exact rfl); (case hE => exact rfl); (case he => exact rfl); (case hs => exact rfl); (case hl => exact lz); (case hm => exact lz); (case hr' => exact rfl)) | (apply Does.neInts (m := List.replicate 8 0) qK_inj tt; (case ho => with_reducible exact rfl); (case hx => first | exact evo_ki | exact evo_kb | exact rfl); (case hy => first | exact evo_ki | exact evo_kb | exact rfl); (case hT => exact rfl); (case hd => exact rfl); (case hE => exact rfl); (case he => exact rfl); (case hs => exact rfl); (case hl => exact lz); (case hm => exact lz); (case hr' => exact rfl)) | (apply Does.neInts (m := List.replicate 8 0) bK_inj tt; (case ho => with_reducible exact rfl); (case hx => first | exact evo_ki | exact evo_kb | exact rfl); (case hy => first | exact evo_ki | exact evo_kb | exact rfl); (case hT => exact rfl); (case hd => exact rfl); (case hE => exact rfl); (case he => exact rfl); (case hs => exact rfl); (case hl => exact lz); (case hm => exact lz); (case hr' => exact rfl)))); (case hd => exact rfl)) | (apply DR.gB; (case hg => first | exact rfl | exact gd_y rfl rfl rfl (by assumption)); (case hds => exact rfl); (case hu => exact rfl); (case h => (first | (apply Does.eqB tt; (case ho => with_reducible exact rfl); (case hx => first | exact evo_ki | exact evo_kb | exact rfl); (case hy => first | exact evo_ki | exact evo_kb | exact rfl); (case hT => exact rfl); (case hd => exact rfl)) | (apply Does.neB tt; (case ho => with_reducible exact rfl); (case hx => first | exact evo_ki | exact evo_kb | exact rfl); (case hy => first | exact evo_ki | exact evo_kb | exact rfl); (case hT => exact rfl); (case hd => exact rfl)) | (apply Does.arithS; (case ho => with_reducible exact rfl); (case hx => first | exact evo_ki | exact evo_kb | exact rfl); (case hy => first | exact evo_ki | exact evo_kb | exact rfl); (case hr => first | with_reducible assumption | exact rfl)) | (apply Does.call; (case ho => with_reducible exact rfl); (case hx => exact rfl); (first | ((case' hc => apply c1); (case hu => first | exact .same _ | exact ft1 rfl | exact ft2 rfl | (apply ft1; simp only [V.cv, V.cv.go, V.cells, cv_mapb, cv_mapq, cv_mapu] <;> rfl))) | ((case' hc => apply c2); (case hu => first | exact .same _ | exact ft1 rfl | exact ft2 rfl | (apply ft1; simp only [V.cv, V.cv.go, V.cells, cv_mapb, cv_mapq, cv_mapu] <;> rfl))) | ((case' hc => apply c3); (case hu => first | exact .same _ | exact ft1 rfl | exact ft2 rfl | (apply ft1; simp only [V.cv, V.cv.go, V.cells, cv_mapb, cv_mapq, cv_mapu] <;> rfl))) | ((case' hc => apply c4); (case hu => first | exact .same _ | exact ft1 rfl | exact ft2 rfl | (apply ft1; simp only [V.cv, V.cv.go, V.cells, cv_mapb, cv_mapq, cv_mapu] <;> rfl))) | ((case' hc => apply c5); (case hu => first | exact .same _ | exact ft1 rfl | exact ft2 rfl | (apply ft1; simp only [V.cv, V.cv.go, V.cells, cv_mapb, cv_mapq, cv_mapu] <;> rfl))) | ((case' hc => apply c6); (case hu => first | exact .same _ | exact ft1 rfl | exact ft2 rfl | (apply ft1; simp only [V.cv, V.cv.go, V.cells, cv_mapb, cv_mapq, cv_mapu] <;> rfl))) | ((case' hc => apply c7); (case hu => first | exact .same _ | exact ft1 rfl | exact ft2 rfl | (apply ft1; simp only [V.cv, V.cv.go, V.cells, cv_mapb, cv_mapq, cv_mapu] <;> rfl))) | ((case' hc => apply c8); (case hu => first | exact .same _ | exact ft1 rfl | exact ft2 rfl | (apply ft1; simp only [V.cv, V.cv.go, V.cells, cv_mapb, cv_mapq, cv_mapu] <;> rfl))) | ((case' hc => apply c9); (case hu => first | exact .same _ | exact ft1 rfl | exact ft2 rfl | (apply ft1; simp only [V.cv, V.cv.go, V.cells, cv_mapb, cv_mapq, cv_mapu] <;> rfl))) | ((case' hc => apply c10); (case hu => first | exact .same _ | exact ft1 rfl | exact ft2 rfl | (apply ft1; simp only [V.cv, V.cv.go, V.cells, cv_mapb, cv_mapq, cv_mapu] <;> rfl))) | ((case' hc => apply c11); (case hu => first | exact .same _ | exact ft1 rfl | exact ft2 rfl | (apply ft1; simp only [V.cv, V.cv.go, V.cells, cv_mapb, cv_mapq, cv_mapu] <;> rfl))) | ((case' hc => apply c12); (case hu => first | exact .same _ | exact ft1 rfl | exact ft2 rfl | (apply ft1; simp only [V.cv, V.cv.go, V.cells, cv_mapb, cv_mapq, cv_mapu] <;> rfl))) | ((case' hc => apply c13); (case hu => first | exact .same _ | exact ft1 rfl | exact ft2 rfl | (apply ft1; simp only [V.cv, V.cv.go, V.cells, cv_mapb, cv_mapq, cv_mapu] <;> rfl))) | ((case' hc => apply c14); (case hu => first | exact .same _ | exact ft1 rfl | exact ft2 rfl | (apply ft1; simp only [V.cv, V.cv.go, V.cells, cv_mapb, cv_mapq, cv_mapu] <;> rfl))) | ((case' hc => apply c15); (case hu => first | exact .same _ | exact ft1 rfl | exact ft2 rfl | (apply ft1; simp only [V.cv, V.cv.go, V.cells, cv_mapb, cv_mapq, cv_mapu] <;> rfl))) | ((case' hc => apply c16); (case hu => first | exact .same _ | exact ft1 rfl | exact ft2 rfl | (apply ft1; simp only [V.cv, V.cv.go, V.cells, cv_mapb, cv_mapq, cv_mapu] <;> rfl)))); (case hr => first | exact rfl | (simp only [V.cells, refsE, refsM, V.refs, V.refs.go, V.pure, V.pure.go, pure_mapq, pure_mapb, pure_mapu, refs_mapq, refs_mapb, refs_mapu, refs_append, Bool.and_true, Bool.true_and, Bool.and_self] <;> exact rfl) | (simp only [V.cells, refsE, refsM, V.refs, V.refs.go, V.pure, V.pure.go, pure_mapq, pure_mapb, pure_mapu, refs_mapq, refs_mapb, refs_mapu, refs_append, Bool.and_true, Bool.true_and, Bool.and_self, hrf] <;> exact rfl) | (simp only [V.cells, refsE, refsM, V.refs, V.refs.go, V.pure, V.pure.go, pure_mapq, pure_mapb, pure_mapu, refs_mapq, refs_mapb, refs_mapu, refs_append, Bool.and_true, Bool.true_and, Bool.and_self, hrf, hrg] <;> exact rfl) | exact lz); all_goals exact lz))); (case hd => exact rfl)) | (apply DR.pp; (case hg => first | exact rfl | exact gd_y rfl rfl rfl (by assumption)); (case hds => exact rfl); (case h => (apply Does.gB; (case ho => with_reducible exact rfl); (case h => (first | (apply Does.lss; (case ho => with_reducible exact rfl); (case hx => exact rfl); (case hy => exact rfl); (case hr => exact rfl)) | (apply Does.eql; (case ho => with_reducible exact rfl); (case hx => exact rfl); (case hy => exact rfl); (case hr => exact rfl)) | (apply Does.neq; (case ho => with_reducible exact rfl); (case hx => exact rfl); (case hy => exact rfl); (case hr => exact rfl)) | (apply Does.leq; (case ho => with_reducible exact rfl); (case hx => exact rfl); (case hy => exact rfl); (case hr => exact rfl)) | (apply Does.gtr; (case ho => with_reducible exact rfl); (case hx => exact rfl); (case hy => exact rfl); (case hr => exact rfl)) | (apply Does.geq; (case ho => with_reducible exact rfl); (case hx => exact rfl); (case hy => exact rfl); (case hr => exact rfl)) | (apply Does.eqInts bK_inj tt; (case ho => with_reducible exact rfl); (case hx => first | exact evo_ki | exact evo_kb | exact rfl); (case hy => first | exact evo_ki | exact evo_kb | exact rfl); (case hT => exact rfl); (case hd => exact rfl); (case hE => exact rfl); (case he => exact rfl); (case hs => exact rfl); (case hl => exact lz); (case hm => exact lz); (case hr' => exact rfl)) | (apply Does.eqInts qK_inj tt; (case ho => with_reducible exact rfl); (case hx => first | exact evo_ki | exact evo_kb | exact rfl); (case hy => first | exact evo_ki | exact evo_kb | exact rfl); (case hT => exact rfl); (case hd => exact rfl); (case hE => exact rfl); (case he => exact rfl); (case hs => exact rfl); (case hl => exact lz); (case hm => exact lz); (case hr' => exact rfl)) | (apply Does.eqInts uK_inj tt; (case ho => with_reducible exact rfl); (case hx => first | exact evo_ki | exact evo_kb | exact rfl); (case hy => first | exact evo_ki | exact evo_kb | exact rfl); (case hT => exact rfl); (case hd => exact rfl); (case hE => exact rfl); (case he => exact rfl); (case hs => exact rfl); (case hl => exact lz); (case hm => exact lz); (case hr' => exact rfl)) | (apply Does.eqInts (m := List.replicate 4 0) uK_inj tt; (case ho => with_reducible exact rfl); (case hx => first | exact evo_ki | exact evo_kb | exact rfl); (case hy => first | exact evo_ki | exact evo_kb | exact rfl); (case hT => exact rfl); (case hd => exact rfl); (case hE => exact rfl); (case he => exact rfl); (case hs => exact rfl); (case hl => exact lz); (case hm => exact lz); (case hr' => exact rfl)) | (apply Does.eqInts (m := List.replicate 32 0) bK_inj tt; (case ho => with_reducible exact rfl); (case hx => first | exact evo_ki | exact evo_kb | exact rfl); (case hy => first | exact evo_ki | exact evo_kb | exact rfl); (case hT => exact rfl); (case hd => exact rfl); (case hE => exact rfl); (case he => exact rfl); (case hs => exact rfl); (case hl => exact lz); (case hm => exact lz); (case hr' => exact rfl)) | (apply Does.eqInts (m := List.replicate 8 0) qK_inj tt; (case ho => with_reducible exact rfl); (case hx => first | exact evo_ki | exact evo_kb | exact rfl); (case hy => first | exact evo_ki | exact evo_kb | exact rfl); (case hT => exact rfl); (case hd => exact rfl); (case hE => exact rfl); (case he => exact rfl); (case hs => exact rfl); (case hl => exact lz); (case hm => exact lz); (case hr' => exact rfl)) | (apply Does.eqInts (m := List.replicate 8 0) bK_inj tt; (case ho => with_reducible exact rfl); (case hx => first | exact evo_ki | exact evo_kb | exact rfl); (case hy => first | exact evo_ki | exact evo_kb | exact rfl); (case hT => exact rfl); (case hd => exact rfl); (case hE => exact rfl); (case he => exact rfl); (case hs => exact rfl); (case hl => exact lz); (case hm => exact lz); (case hr' => exact rfl)) | (apply Does.neInts bK_inj tt; (case ho => with_reducible exact rfl); (case hx => first | exact evo_ki | exact evo_kb | exact rfl); (case hy => first | exact evo_ki | exact evo_kb | exact rfl); (case hT => exact rfl); (case hd => exact rfl); (case hE => exact rfl); (case he => exact rfl); (case hs => exact rfl); (case hl => exact lz); (case hm => exact lz); (case hr' => exact rfl)) | (apply Does.neInts qK_inj tt; (case ho => with_reducible exact rfl); (case hx => first | exact evo_ki | exact evo_kb | exact rfl); (case hy => first | exact evo_ki | exact evo_kb | exact rfl); (case hT => exact rfl); (case hd => exact rfl); (case hE => exact rfl); (case he => exact rfl); (case hs => exact rfl); (case hl => exact lz); (case hm => exact lz); (case hr' => exact rfl)) | (apply Does.neInts uK_inj tt; (case ho => with_reducible exact rfl); (case hx => first | exact evo_ki | exact evo_kb | exact rfl); (case hy => first | exact evo_ki | exact evo_kb | exact rfl); (case hT => exact rfl); (case hd => exact rfl); (case hE => exact rfl); (case he => exact rfl); (case hs => exact rfl); (case hl => exact lz); (case hm => exact lz); (case hr' => exact rfl)) | (apply Does.neInts (m := List.replicate 4 0) uK_inj tt; (case ho => with_reducible exact rfl); (case hx => first | exact evo_ki | exact evo_kb | exact rfl); (case hy => first | exact evo_ki | exact evo_kb | exact rfl); (case hT => exact rfl); (case hd => exact rfl); (case hE => exact rfl); (case he => exact rfl); (case hs => exact rfl); (case hl => exact lz); (case hm => exact lz); (case hr' => exact rfl)) | (apply Does.neInts (m := List.replicate 32 0) bK_inj tt; (case ho => with_reducible exact rfl); (case hx => first | exact evo_ki | exact evo_kb | exact rfl); (case hy => first | exact evo_ki | exact evo_kb | exact rfl); (case hT => exact rfl); (case hd => exact rfl); (case hE => exact rfl); (case he => exact rfl); (case hs => exact rfl); (case hl => exact lz); (case hm => exact lz); (case hr' => exact rfl)) | (apply Does.neInts (m := List.replicate 8 0) qK_inj tt; (case ho => with_reducible exact rfl); (case hx => first | exact evo_ki | exact evo_kb | exact rfl); (case hy => first | exact evo_ki | exact evo_kb | exact rfl); (case hT => exact rfl); (case hd => exact rfl); (case hE => exact rfl); (case he => exact rfl); (case hs => exact rfl); (case hl => exact lz); (case hm => exact lz); (case hr' => exact rfl)) | (apply Does.neInts (m := List.replicate 8 0) bK_inj tt; (case ho => with_reducible exact rfl); (case hx => first | exact evo_ki | exact evo_kb | exact rfl); (case hy => first | exact evo_ki | exact evo_kb | exact rfl); (case hT => exact rfl); (case hd => exact rfl); (case hE => exact rfl); (case he => exact rfl); (case hs => exact rfl); (case hl => exact lz); (case hm => exact lz); (case hr' => exact rfl)) | (apply Does.eqB tt; (case ho => with_reducible exact rfl); (case hx => first | exact evo_ki | exact evo_kb | exact rfl); (case hy => first | exact evo_ki | exact evo_kb | exact rfl); (case hT => exact rfl); (case hd => exact rfl)) | (apply Does.neB tt; (case ho => with_reducible exact rfl); (case hx => first | exact evo_ki | exact evo_kb | exact rfl); (case hy => first | exact evo_ki | exact evo_kb | exact rfl); (case hT => exact rfl); (case hd => exact rfl)) | (apply Does.arithS; (case ho => with_reducible exact rfl); (case hx => first | exact evo_ki | exact evo_kb | exact rfl); (case hy => first | exact evo_ki | exact evo_kb | exact rfl); (case hr => first | with_reducible assumption | exact rfl)))))); (case hd => exact rfl)) | (apply LC.pan3; (case _ho => with_reducible exact rfl)) | (apply LC.pan1; (case _ho => with_reducible exact rfl)) | (apply LS.panic; (case ho => with_reducible exact rfl); (case hg => exact rfl); (case hx => exact rfl)) | (apply LS.panC; (case ho => with_reducible exact rfl); (case hg => exact rfl); (case hx => exact rfl); (first | ((case' hc => apply p1); (case hu => first | exact .same _ | exact ft1 rfl | exact ft2 rfl | (apply ft1; simp only [V.cv, V.cv.go, V.cells, cv_mapb, cv_mapq, cv_mapu] <;> rfl))) | ((case' hc => apply p2); (case hu => first | exact .same _ | exact ft1 rfl | exact ft2 rfl | (apply ft1; simp only [V.cv, V.cv.go, V.cells, cv_mapb, cv_mapq, cv_mapu] <;> rfl))) | ((case' hc => apply p3); (case hu => first | exact .same _ | exact ft1 rfl | exact ft2 rfl | (apply ft1; simp only [V.cv, V.cv.go, V.cells, cv_mapb, cv_mapq, cv_mapu] <;> rfl)))); (case hr => first | exact rfl | (simp only [V.cells, refsE, refsM, V.refs, V.refs.go, V.pure, V.pure.go, pure_mapq, pure_mapb, pure_mapu, refs_mapq, refs_mapb, refs_mapu, refs_append, Bool.and_true, Bool.true_and, Bool.and_self] <;> exact rfl) | (simp only [V.cells, refsE, refsM, V.refs, V.refs.go, V.pure, V.pure.go, pure_mapq, pure_mapb, pure_mapu, refs_mapq, refs_mapb, refs_mapu, refs_append, Bool.and_true, Bool.true_and, Bool.and_self, hrf] <;> exact rfl) | (simp only [V.cells, refsE, refsM, V.refs, V.refs.go, V.pure, V.pure.go, pure_mapq, pure_mapb, pure_mapu, refs_mapq, refs_mapb, refs_mapu, refs_append, Bool.and_true, Bool.true_and, Bool.and_self, hrf, hrg] <;> exact rfl) | exact lz); (case ht => first | exact True.intro | exact And.intro rfl True.intro | exact And.intro rfl (And.intro rfl True.intro) | exact And.intro rfl (And.intro rfl (And.intro rfl True.intro)) | exact And.intro rfl (And.intro rfl (And.intro rfl (And.intro rfl True.intro))))) | (apply PanAt.call; (case hk => exact rfl); (case ho => exact rfl); (case hg => exact rfl); (case hx => exact rfl); (first | ((case' hc => apply p1); (case hu => first | exact .same _ | exact ft1 rfl | exact ft2 rfl | (apply ft1; simp only [V.cv, V.cv.go, V.cells, cv_mapb, cv_mapq, cv_mapu] <;> rfl))) | ((case' hc => apply p2); (case hu => first | exact .same _ | exact ft1 rfl | exact ft2 rfl | (apply ft1; simp only [V.cv, V.cv.go, V.cells, cv_mapb, cv_mapq, cv_mapu] <;> rfl))) | ((case' hc => apply p3); (case hu => first | exact .same _ | exact ft1 rfl | exact ft2 rfl | (apply ft1; simp only [V.cv, V.cv.go, V.cells, cv_mapb, cv_mapq, cv_mapu] <;> rfl)))); (case hr => first | exact rfl | (simp only [V.cells, refsE, refsM, V.refs, V.refs.go, V.pure, V.pure.go, pure_mapq, pure_mapb, pure_mapu, refs_mapq, refs_mapb, refs_mapu, refs_append, Bool.and_true, Bool.true_and, Bool.and_self] <;> exact rfl) | (simp only [V.cells, refsE, refsM, V.refs, V.refs.go, V.pure, V.pure.go, pure_mapq, pure_mapb, pure_mapu, refs_mapq, refs_mapb, refs_mapu, refs_append, Bool.and_true, Bool.true_and, Bool.and_self, hrf] <;> exact rfl) | (simp only [V.cells, refsE, refsM, V.refs, V.refs.go, V.pure, V.pure.go, pure_mapq, pure_mapb, pure_mapu, refs_mapq, refs_mapb, refs_mapu, refs_append, Bool.and_true, Bool.true_and, Bool.and_self, hrf, hrg] <;> exact rfl) | exact lz); (case ht => first | exact True.intro | exact And.intro rfl True.intro | exact And.intro rfl (And.intro rfl True.intro) | exact And.intro rfl (And.intro rfl (And.intro rfl True.intro)) | exact And.intro rfl (And.intro rfl (And.intro rfl (And.intro rfl True.intro))))) | refine LC.seq ?_ | refine LC.upToM hp1 ?_ | refine LC.upToM hp2 ?_ | (refine LC.drawPanM hq1 mixed (by kernel_rfl) ?_; dsimp only [pickI, nth]) | refine LC.regionD ?_ | refine LC.block ?_ | refine LC.skip ?_ | refine LC.label ?_ | refine LC.exit ?_ | refine LC.scope ?_ | refine LC.condT rfl ?_ | refine LC.condF rfl ?_ | refine LC.draw mixed (by kernel_rfl) ?_ | refine DR.nl (by kernel_rfl) ?_ | refine LC.iteT rfl (by assumption) ?_ | refine LC.iteF rfl (by assumption) ?_ | refine LC.iteD rfl ⟨?_, ?_⟩ | refine LC.iteN rfl ⟨?_, ?_⟩ | refine LC.iteB rfl ⟨?_, ?_⟩ | (apply LNext2.go; (case he => (repeat (first | exact True.intro | refine And.intro rfl ?_))); (case hm => (repeat (first | exact True.intro | refine And.intro rfl ?_))); (case hk => exact rfl); (case hrE => first | exact rfl | (simp only [V.cells, refsE, refsM, V.refs, V.refs.go, V.pure, V.pure.go, pure_mapq, pure_mapb, pure_mapu, refs_mapq, refs_mapb, refs_mapu, refs_append, Bool.and_true, Bool.true_and, Bool.and_self] <;> exact rfl) | (simp only [V.cells, refsE, refsM, V.refs, V.refs.go, V.pure, V.pure.go, pure_mapq, pure_mapb, pure_mapu, refs_mapq, refs_mapb, refs_mapu, refs_append, Bool.and_true, Bool.true_and, Bool.and_self, hrf] <;> exact rfl) | (simp only [V.cells, refsE, refsM, V.refs, V.refs.go, V.pure, V.pure.go, pure_mapq, pure_mapb, pure_mapu, refs_mapq, refs_mapb, refs_mapu, refs_append, Bool.and_true, Bool.true_and, Bool.and_self, hrf, hrg] <;> exact rfl) | exact lz); (case hrM => first | exact rfl | (simp only [V.cells, refsE, refsM, V.refs, V.refs.go, V.pure, V.pure.go, pure_mapq, pure_mapb, pure_mapu, refs_mapq, refs_mapb, refs_mapu, refs_append, Bool.and_true, Bool.true_and, Bool.and_self] <;> exact rfl) | (simp only [V.cells, refsE, refsM, V.refs, V.refs.go, V.pure, V.pure.go, pure_mapq, pure_mapb, pure_mapu, refs_mapq, refs_mapb, refs_mapu, refs_append, Bool.and_true, Bool.true_and, Bool.and_self, hrf] <;> exact rfl) | (simp only [V.cells, refsE, refsM, V.refs, V.refs.go, V.pure, V.pure.go, pure_mapq, pure_mapb, pure_mapu, refs_mapq, refs_mapb, refs_mapu, refs_append, Bool.and_true, Bool.true_and, Bool.and_self, hrf, hrg] <;> exact rfl) | exact lz); (case hok => first | assumption | exact lz | trivial | (refine ⟨?_, ?_⟩ <;> exact lz) | (refine ⟨?_, ?_, ?_⟩ <;> exact lz)); (case hlt => exact lz)) | (apply LNext3.go; (case he => (repeat (first | exact True.intro | refine And.intro rfl ?_))); (case hm => (repeat (first | exact True.intro | refine And.intro rfl ?_))); (case hk => exact rfl); (case hrE => first | exact rfl | (simp only [V.cells, refsE, refsM, V.refs, V.refs.go, V.pure, V.pure.go, pure_mapq, pure_mapb, pure_mapu, refs_mapq, refs_mapb, refs_mapu, refs_append, Bool.and_true, Bool.true_and, Bool.and_self] <;> exact rfl) | (simp only [V.cells, refsE, refsM, V.refs, V.refs.go, V.pure, V.pure.go, pure_mapq, pure_mapb, pure_mapu, refs_mapq, refs_mapb, refs_mapu, refs_append, Bool.and_true, Bool.true_and, Bool.and_self, hrf] <;> exact rfl) | (simp only [V.cells, refsE, refsM, V.refs, V.refs.go, V.pure, V.pure.go, pure_mapq, pure_mapb, pure_mapu, refs_mapq, refs_mapb, refs_mapu, refs_append, Bool.and_true, Bool.true_and, Bool.and_self, hrf, hrg] <;> exact rfl) | exact lz); (case hrM => first | exact rfl | (simp only [V.cells, refsE, refsM, V.refs, V.refs.go, V.pure, V.pure.go, pure_mapq, pure_mapb, pure_mapu, refs_mapq, refs_mapb, refs_mapu, refs_append, Bool.and_true, Bool.true_and, Bool.and_self] <;> exact rfl) | (simp only [V.cells, refsE, refsM, V.refs, V.refs.go, V.pure, V.pure.go, pure_mapq, pure_mapb, pure_mapu, refs_mapq, refs_mapb, refs_mapu, refs_append, Bool.and_true, Bool.true_and, Bool.and_self, hrf] <;> exact rfl) | (simp only [V.cells, refsE, refsM, V.refs, V.refs.go, V.pure, V.pure.go, pure_mapq, pure_mapb, pure_mapu, refs_mapq, refs_mapb, refs_mapu, refs_append, Bool.and_true, Bool.true_and, Bool.and_self, hrf, hrg] <;> exact rfl) | exact lz); (case hok => first | assumption | exact lz | trivial | (refine ⟨?_, ?_⟩ <;> exact lz) | (refine ⟨?_, ?_, ?_⟩ <;> exact lz)); (case hlt => exact lz)) | (apply LNext.go; (case he => (repeat (first | exact True.intro | refine And.intro rfl ?_))); (case hm => (repeat (first | exact True.intro | refine And.intro rfl ?_))); (case hk => exact rfl); (case hrE => first | exact rfl | (simp only [V.cells, refsE, refsM, V.refs, V.refs.go, V.pure, V.pure.go, pure_mapq, pure_mapb, pure_mapu, refs_mapq, refs_mapb, refs_mapu, refs_append, Bool.and_true, Bool.true_and, Bool.and_self] <;> exact rfl) | (simp only [V.cells, refsE, refsM, V.refs, V.refs.go, V.pure, V.pure.go, pure_mapq, pure_mapb, pure_mapu, refs_mapq, refs_mapb, refs_mapu, refs_append, Bool.and_true, Bool.true_and, Bool.and_self, hrf] <;> exact rfl) | (simp only [V.cells, refsE, refsM, V.refs, V.refs.go, V.pure, V.pure.go, pure_mapq, pure_mapb, pure_mapu, refs_mapq, refs_mapb, refs_mapu, refs_append, Bool.and_true, Bool.true_and, Bool.and_self, hrf, hrg] <;> exact rfl) | exact lz); (case hrM => first | exact rfl | (simp only [V.cells, refsE, refsM, V.refs, V.refs.go, V.pure, V.pure.go, pure_mapq, pure_mapb, pure_mapu, refs_mapq, refs_mapb, refs_mapu, refs_append, Bool.and_true, Bool.true_and, Bool.and_self] <;> exact rfl) | (simp only [V.cells, refsE, refsM, V.refs, V.refs.go, V.pure, V.pure.go, pure_mapq, pure_mapb, pure_mapu, refs_mapq, refs_mapb, refs_mapu, refs_append, Bool.and_true, Bool.true_and, Bool.and_self, hrf] <;> exact rfl) | (simp only [V.cells, refsE, refsM, V.refs, V.refs.go, V.pure, V.pure.go, pure_mapq, pure_mapb, pure_mapu, refs_mapq, refs_mapb, refs_mapu, refs_append, Bool.and_true, Bool.true_and, Bool.and_self, hrf, hrg] <;> exact rfl) | exact lz); (case hok => first | assumption | exact lz | trivial | (refine ⟨?_, ?_⟩ <;> exact lz) | (refine ⟨?_, ?_, ?_⟩ <;> exact lz)); (case hlt => exact lz)) | refine LC.ret ?_ | (with_reducible first | apply thP | apply blkP | apply ngP | apply thR | apply thE | apply blkR | apply blkE | apply blkN | apply ngR) | ((with_reducible first | apply LRet.ret_ | apply LRet.nrm); (case h => first | exact resV_1 (by first | (with_reducible refine res1_tmp ?_; exact rfl) | ((with_reducible apply res1_cell); (case h1 => exact rfl); (case h2 => exact rfl); (case h3 => exact rfl); (case h4 => (first | exact part_map rfl rfl lz | exact part_whole rfl lz | (apply ld1 <;> first | exact rfl | exact lz) | (apply ld2 <;> first | exact rfl | exact lz) | (apply part_l; (first | exact part_map rfl rfl lz | exact part_whole rfl lz | exact rfl)) | (apply part_r; (case hl => first | exact (List.length_map _).trans (by assumption) | ((try apply (List.length_map _).trans); (repeat apply List.length_set.trans); assumption) | rfl); (case hk => first | exact off_s | exact off_r (by decide) | exact off_r lz); first | (apply part_l; (first | exact part_map rfl rfl lz | exact part_whole rfl lz | exact rfl)) | (apply part_r; (case hl => first | exact (List.length_map _).trans (by assumption) | ((try apply (List.length_map _).trans); (repeat apply List.length_set.trans); assumption) | rfl); (case hk => first | exact off_s | exact off_r (by decide) | exact off_r lz); (first | exact part_map rfl rfl lz | exact part_whole rfl lz | exact rfl)) | (first | exact part_map rfl rfl lz | exact part_whole rfl lz | exact rfl)) | exact rfl))) | exact rfl) | exact resV_2 (by first | (with_reducible refine res1_tmp ?_; exact rfl) | ((with_reducible apply res1_cell); (case h1 => exact rfl); (case h2 => exact rfl); (case h3 => exact rfl); (case h4 => (first | exact part_map rfl rfl lz | exact part_whole rfl lz | (apply ld1 <;> first | exact rfl | exact lz) | (apply ld2 <;> first | exact rfl | exact lz) | (apply part_l; (first | exact part_map rfl rfl lz | exact part_whole rfl lz | exact rfl)) | (apply part_r; (case hl => first | exact (List.length_map _).trans (by assumption) | ((try apply (List.length_map _).trans); (repeat apply List.length_set.trans); assumption) | rfl); (case hk => first | exact off_s | exact off_r (by decide) | exact off_r lz); first | (apply part_l; (first | exact part_map rfl rfl lz | exact part_whole rfl lz | exact rfl)) | (apply part_r; (case hl => first | exact (List.length_map _).trans (by assumption) | ((try apply (List.length_map _).trans); (repeat apply List.length_set.trans); assumption) | rfl); (case hk => first | exact off_s | exact off_r (by decide) | exact off_r lz); (first | exact part_map rfl rfl lz | exact part_whole rfl lz | exact rfl)) | (first | exact part_map rfl rfl lz | exact part_whole rfl lz | exact rfl)) | exact rfl))) | exact rfl) (by first | (with_reducible refine res1_tmp ?_; exact rfl) | ((with_reducible apply res1_cell); (case h1 => exact rfl); (case h2 => exact rfl); (case h3 => exact rfl); (case h4 => (first | exact part_map rfl rfl lz | exact part_whole rfl lz | (apply ld1 <;> first | exact rfl | exact lz) | (apply ld2 <;> first | exact rfl | exact lz) | (apply part_l; (first | exact part_map rfl rfl lz | exact part_whole rfl lz | exact rfl)) | (apply part_r; (case hl => first | exact (List.length_map _).trans (by assumption) | ((try apply (List.length_map _).trans); (repeat apply List.length_set.trans); assumption) | rfl); (case hk => first | exact off_s | exact off_r (by decide) | exact off_r lz); first | (apply part_l; (first | exact part_map rfl rfl lz | exact part_whole rfl lz | exact rfl)) | (apply part_r; (case hl => first | exact (List.length_map _).trans (by assumption) | ((try apply (List.length_map _).trans); (repeat apply List.length_set.trans); assumption) | rfl); (case hk => first | exact off_s | exact off_r (by decide) | exact off_r lz); (first | exact part_map rfl rfl lz | exact part_whole rfl lz | exact rfl)) | (first | exact part_map rfl rfl lz | exact part_whole rfl lz | exact rfl)) | exact rfl))) | exact rfl) | exact resV_3 (by first | (with_reducible refine res1_tmp ?_; exact rfl) | ((with_reducible apply res1_cell); (case h1 => exact rfl); (case h2 => exact rfl); (case h3 => exact rfl); (case h4 => (first | exact part_map rfl rfl lz | exact part_whole rfl lz | (apply ld1 <;> first | exact rfl | exact lz) | (apply ld2 <;> first | exact rfl | exact lz) | (apply part_l; (first | exact part_map rfl rfl lz | exact part_whole rfl lz | exact rfl)) | (apply part_r; (case hl => first | exact (List.length_map _).trans (by assumption) | ((try apply (List.length_map _).trans); (repeat apply List.length_set.trans); assumption) | rfl); (case hk => first | exact off_s | exact off_r (by decide) | exact off_r lz); first | (apply part_l; (first | exact part_map rfl rfl lz | exact part_whole rfl lz | exact rfl)) | (apply part_r; (case hl => first | exact (List.length_map _).trans (by assumption) | ((try apply (List.length_map _).trans); (repeat apply List.length_set.trans); assumption) | rfl); (case hk => first | exact off_s | exact off_r (by decide) | exact off_r lz); (first | exact part_map rfl rfl lz | exact part_whole rfl lz | exact rfl)) | (first | exact part_map rfl rfl lz | exact part_whole rfl lz | exact rfl)) | exact rfl))) | exact rfl) (by first | (with_reducible refine res1_tmp ?_; exact rfl) | ((with_reducible apply res1_cell); (case h1 => exact rfl); (case h2 => exact rfl); (case h3 => exact rfl); (case h4 => (first | exact part_map rfl rfl lz | exact part_whole rfl lz | (apply ld1 <;> first | exact rfl | exact lz) | (apply ld2 <;> first | exact rfl | exact lz) | (apply part_l; (first | exact part_map rfl rfl lz | exact part_whole rfl lz | exact rfl)) | (apply part_r; (case hl => first | exact (List.length_map _).trans (by assumption) | ((try apply (List.length_map _).trans); (repeat apply List.length_set.trans); assumption) | rfl); (case hk => first | exact off_s | exact off_r (by decide) | exact off_r lz); first | (apply part_l; (first | exact part_map rfl rfl lz | exact part_whole rfl lz | exact rfl)) | (apply part_r; (case hl => first | exact (List.length_map _).trans (by assumption) | ((try apply (List.length_map _).trans); (repeat apply List.length_set.trans); assumption) | rfl); (case hk => first | exact off_s | exact off_r (by decide) | exact off_r lz); (first | exact part_map rfl rfl lz | exact part_whole rfl lz | exact rfl)) | (first | exact part_map rfl rfl lz | exact part_whole rfl lz | exact rfl)) | exact rfl))) | exact rfl) (by first | (with_reducible refine res1_tmp ?_; exact rfl) | ((with_reducible apply res1_cell); (case h1 => exact rfl); (case h2 => exact rfl); (case h3 => exact rfl); (case h4 => (first | exact part_map rfl rfl lz | exact part_whole rfl lz | (apply ld1 <;> first | exact rfl | exact lz) | (apply ld2 <;> first | exact rfl | exact lz) | (apply part_l; (first | exact part_map rfl rfl lz | exact part_whole rfl lz | exact rfl)) | (apply part_r; (case hl => first | exact (List.length_map _).trans (by assumption) | ((try apply (List.length_map _).trans); (repeat apply List.length_set.trans); assumption) | rfl); (case hk => first | exact off_s | exact off_r (by decide) | exact off_r lz); first | (apply part_l; (first | exact part_map rfl rfl lz | exact part_whole rfl lz | exact rfl)) | (apply part_r; (case hl => first | exact (List.length_map _).trans (by assumption) | ((try apply (List.length_map _).trans); (repeat apply List.length_set.trans); assumption) | rfl); (case hk => first | exact off_s | exact off_r (by decide) | exact off_r lz); (first | exact part_map rfl rfl lz | exact part_whole rfl lz | exact rfl)) | (first | exact part_map rfl rfl lz | exact part_whole rfl lz | exact rfl)) | exact rfl))) | exact rfl) | exact rfl); first | (apply LFU.eqV; (case hr => first | exact rfl | (simp only [V.cells, refsE, refsM, V.refs, V.refs.go, V.pure, V.pure.go, pure_mapq, pure_mapb, pure_mapu, refs_mapq, refs_mapb, refs_mapu, refs_append, Bool.and_true, Bool.true_and, Bool.and_self] <;> exact rfl) | (simp only [V.cells, refsE, refsM, V.refs, V.refs.go, V.pure, V.pure.go, pure_mapq, pure_mapb, pure_mapu, refs_mapq, refs_mapb, refs_mapu, refs_append, Bool.and_true, Bool.true_and, Bool.and_self, hrf] <;> exact rfl) | (simp only [V.cells, refsE, refsM, V.refs, V.refs.go, V.pure, V.pure.go, pure_mapq, pure_mapb, pure_mapu, refs_mapq, refs_mapb, refs_mapu, refs_append, Bool.and_true, Bool.true_and, Bool.and_self, hrf, hrg] <;> exact rfl) | exact lz); (case hv => first | with_reducible exact rfl | assumption | exact rfl | exact hv1 | exact hv2 | exact bz)) | (apply LFU.cvV false; (case hr => first | exact rfl | (simp only [V.cells, refsE, refsM, V.refs, V.refs.go, V.pure, V.pure.go, pure_mapq, pure_mapb, pure_mapu, refs_mapq, refs_mapb, refs_mapu, refs_append, Bool.and_true, Bool.true_and, Bool.and_self] <;> exact rfl) | (simp only [V.cells, refsE, refsM, V.refs, V.refs.go, V.pure, V.pure.go, pure_mapq, pure_mapb, pure_mapu, refs_mapq, refs_mapb, refs_mapu, refs_append, Bool.and_true, Bool.true_and, Bool.and_self, hrf] <;> exact rfl) | (simp only [V.cells, refsE, refsM, V.refs, V.refs.go, V.pure, V.pure.go, pure_mapq, pure_mapb, pure_mapu, refs_mapq, refs_mapb, refs_mapu, refs_append, Bool.and_true, Bool.true_and, Bool.and_self, hrf, hrg] <;> exact rfl) | exact lz); (case hv => first | with_reducible exact rfl | assumption | exact rfl | exact hv1 | exact hv2 | exact bz)) | (apply LFU.cvV true; (case hr => first | exact rfl | (simp only [V.cells, refsE, refsM, V.refs, V.refs.go, V.pure, V.pure.go, pure_mapq, pure_mapb, pure_mapu, refs_mapq, refs_mapb, refs_mapu, refs_append, Bool.and_true, Bool.true_and, Bool.and_self] <;> exact rfl) | (simp only [V.cells, refsE, refsM, V.refs, V.refs.go, V.pure, V.pure.go, pure_mapq, pure_mapb, pure_mapu, refs_mapq, refs_mapb, refs_mapu, refs_append, Bool.and_true, Bool.true_and, Bool.and_self, hrf] <;> exact rfl) | (simp only [V.cells, refsE, refsM, V.refs, V.refs.go, V.pure, V.pure.go, pure_mapq, pure_mapb, pure_mapu, refs_mapq, refs_mapb, refs_mapu, refs_append, Bool.and_true, Bool.true_and, Bool.and_self, hrf, hrg] <;> exact rfl) | exact lz); (case hv => first | with_reducible exact rfl | assumption | exact rfl | exact hv1 | exact hv2 | exact bz)) | (apply LFU.memV; (case hm => (repeat (first | exact True.intro | refine And.intro rfl ?_))); (case hr => first | exact rfl | (simp only [V.cells, refsE, refsM, V.refs, V.refs.go, V.pure, V.pure.go, pure_mapq, pure_mapb, pure_mapu, refs_mapq, refs_mapb, refs_mapu, refs_append, Bool.and_true, Bool.true_and, Bool.and_self] <;> exact rfl) | (simp only [V.cells, refsE, refsM, V.refs, V.refs.go, V.pure, V.pure.go, pure_mapq, pure_mapb, pure_mapu, refs_mapq, refs_mapb, refs_mapu, refs_append, Bool.and_true, Bool.true_and, Bool.and_self, hrf] <;> exact rfl) | (simp only [V.cells, refsE, refsM, V.refs, V.refs.go, V.pure, V.pure.go, pure_mapq, pure_mapb, pure_mapu, refs_mapq, refs_mapb, refs_mapu, refs_append, Bool.and_true, Bool.true_and, Bool.and_self, hrf, hrg] <;> exact rfl) | exact lz); (case hv => first | with_reducible exact rfl | assumption | exact rfl | exact hv1 | exact hv2 | exact bz)) | (apply LFU.memC (fun _ => false) false; (case hm => (repeat (first | exact True.intro | refine And.intro rfl ?_))); (case hr => first | exact rfl | (simp only [V.cells, refsE, refsM, V.refs, V.refs.go, V.pure, V.pure.go, pure_mapq, pure_mapb, pure_mapu, refs_mapq, refs_mapb, refs_mapu, refs_append, Bool.and_true, Bool.true_and, Bool.and_self] <;> exact rfl) | (simp only [V.cells, refsE, refsM, V.refs, V.refs.go, V.pure, V.pure.go, pure_mapq, pure_mapb, pure_mapu, refs_mapq, refs_mapb, refs_mapu, refs_append, Bool.and_true, Bool.true_and, Bool.and_self, hrf] <;> exact rfl) | (simp only [V.cells, refsE, refsM, V.refs, V.refs.go, V.pure, V.pure.go, pure_mapq, pure_mapb, pure_mapu, refs_mapq, refs_mapb, refs_mapu, refs_append, Bool.and_true, Bool.true_and, Bool.and_self, hrf, hrg] <;> exact rfl) | exact lz); (case hv => first | with_reducible exact rfl | assumption | exact rfl | exact hv1 | exact hv2 | exact bz)) | (apply LFU.memC (fun _ => false) true; (case hm => (repeat (first | exact True.intro | refine And.intro rfl ?_))); (case hr => first | exact rfl | (simp only [V.cells, refsE, refsM, V.refs, V.refs.go, V.pure, V.pure.go, pure_mapq, pure_mapb, pure_mapu, refs_mapq, refs_mapb, refs_mapu, refs_append, Bool.and_true, Bool.true_and, Bool.and_self] <;> exact rfl) | (simp only [V.cells, refsE, refsM, V.refs, V.refs.go, V.pure, V.pure.go, pure_mapq, pure_mapb, pure_mapu, refs_mapq, refs_mapb, refs_mapu, refs_append, Bool.and_true, Bool.true_and, Bool.and_self, hrf] <;> exact rfl) | (simp only [V.cells, refsE, refsM, V.refs, V.refs.go, V.pure, V.pure.go, pure_mapq, pure_mapb, pure_mapu, refs_mapq, refs_mapb, refs_mapu, refs_append, Bool.and_true, Bool.true_and, Bool.and_self, hrf, hrg] <;> exact rfl) | exact lz); (case hv => first | with_reducible exact rfl | assumption | exact rfl | exact hv1 | exact hv2 | exact bz))) | ((with_reducible apply LRet.panE); (case hm => (repeat (first | exact True.intro | refine And.intro rfl ?_))); (case hr => first | exact rfl | (simp only [V.cells, refsE, refsM, V.refs, V.refs.go, V.pure, V.pure.go, pure_mapq, pure_mapb, pure_mapu, refs_mapq, refs_mapb, refs_mapu, refs_append, Bool.and_true, Bool.true_and, Bool.and_self] <;> exact rfl) | (simp only [V.cells, refsE, refsM, V.refs, V.refs.go, V.pure, V.pure.go, pure_mapq, pure_mapb, pure_mapu, refs_mapq, refs_mapb, refs_mapu, refs_append, Bool.and_true, Bool.true_and, Bool.and_self, hrf] <;> exact rfl) | (simp only [V.cells, refsE, refsM, V.refs, V.refs.go, V.pure, V.pure.go, pure_mapq, pure_mapb, pure_mapu, refs_mapq, refs_mapb, refs_mapu, refs_append, Bool.and_true, Bool.true_and, Bool.and_self, hrf, hrg] <;> exact rfl) | exact lz); (case hv => exact rfl)) | (apply DR.skip; (case hg => first | exact rfl | exact gd_n rfl rfl rfl (by assumption)); (case hds => exact rfl); (case hd => exact rfl)) | (apply DR.skipz; (case hg => first | exact rfl | exact gd_n rfl rfl rfl (by assumption)); (case hds => exact rfl)) | (apply DR.gs; (case h1 => exact rfl); (case h2 => exact rfl); (case h3 => exact rfl); (case _hn => (fail_if_success exact fr1 rfl); (fail_if_success exact fr2 rfl); (fail_if_success exact fr1 (by assumption)); (fail_if_success exact fr2 (by assumption)); exact trivial)) | exact lz | fail)); all_goals first | exact a1.out | exact a2.out | exact a3.out) : G := h ⟨h1⟩ ⟨h2⟩ ⟨h3⟩
end Lf
end Go.Proofs.Ytgeccggkdgpkiaa

/- Numbers by their digits, the greatest first: lists without noughts ahead are one for each number, and are ordered as the numbers are. Plain Lean. -/
namespace Go.Proofs.Ytgeccggkdgpkiaa
namespace Ps
def pos (B : Nat) : List Nat → Nat
  | [] => 0
  | a :: l => a * B ^ l.length + pos B l
def NL (l : List Nat) : Prop := l.head? ≠ some 0
def lexN : List Nat → List Nat → Bool
  | a :: l, b :: m => decide (a < b) || (decide (a = b) && lexN l m)
  | [], _ :: _ => true
  | _, [] => false
theorem pos_append (B : Nat) (l m : List Nat) : pos B (l ++ m) = pos B l * B ^ m.length + pos B m := by
  induction l with
  | nil => simp [pos]
  | cons a l ih =>
    simp only [List.cons_append, pos, ih, List.length_append, Nat.pow_add, Nat.add_mul, Nat.mul_assoc, Nat.add_assoc]
theorem pos_lt {B : Nat} {l : List Nat} (h : ∀ a ∈ l, a < B) : pos B l < B ^ l.length := by
  induction l with
  | nil => simp [pos]
  | cons a l ih =>
    have h1 := ih fun x hx => h x (by simp [hx])
    have h2 : (a + 1) * B ^ l.length ≤ B * B ^ l.length := Nat.mul_le_mul_right _ (h a (by simp))
    simp only [pos, List.length_cons, Nat.pow_succ]
    rw [Nat.mul_comm (B ^ l.length) B]
    rw [Nat.add_mul, Nat.one_mul] at h2
    omega
theorem pos_ge {B : Nat} {a : Nat} {l : List Nat} (h : a ≠ 0) : B ^ l.length ≤ pos B (a :: l) := by
  simp only [pos]
  have : 1 * B ^ l.length ≤ a * B ^ l.length := Nat.mul_le_mul_right _ (by omega)
  omega
theorem pos_lex {B : Nat} : ∀ {l m : List Nat}, l.length = m.length → (∀ a ∈ l, a < B) → (∀ a ∈ m, a < B) → (pos B l < pos B m ↔ lexN l m = true)
  | [], [], _, _, _ => by simp [pos, lexN]
  | a :: l, b :: m, hl, h1, h2 => by
    have hl' : l.length = m.length := by simpa using hl
    have ih := pos_lex hl' (fun x hx => h1 x (by simp [hx])) (fun x hx => h2 x (by simp [hx]))
    have k1 := pos_lt (B := B) (l := l) fun x hx => h1 x (by simp [hx])
    have k2 := pos_lt (B := B) (l := m) fun x hx => h2 x (by simp [hx])
    simp only [pos, lexN, Bool.or_eq_true, Bool.and_eq_true, decide_eq_true_eq, ← ih]
    rw [← hl'] at k2 ⊢
    generalize B ^ l.length = p at *
    rcases Nat.lt_trichotomy a b with h | h | h
    · have := Nat.mul_le_mul_right p (Nat.succ_le_of_lt h)
      rw [Nat.succ_mul] at this
      exact ⟨fun _ => .inl h, fun _ => by omega⟩
    · subst h
      exact ⟨fun k => .inr ⟨rfl, by omega⟩, fun k => by rcases k with k | k <;> omega⟩
    · have := Nat.mul_le_mul_right p (Nat.succ_le_of_lt h)
      rw [Nat.succ_mul] at this
      exact ⟨fun k => by omega, fun k => by rcases k with k | k <;> omega⟩
  | [], _ :: _, hl, _, _ => by simp at hl
  | _ :: _, [], hl, _, _ => by simp at hl
theorem pos_len {B : Nat} {l m : List Nat} (hB : 0 < B) (hl : l.length < m.length) (h1 : ∀ a ∈ l, a < B) (hm : NL m) : pos B l < pos B m := by
  cases m with
  | nil => simp at hl
  | cons b m =>
    have h2 : b ≠ 0 := fun e => hm (by simp [e])
    have := pos_ge (B := B) (l := m) h2
    have k := pos_lt h1
    have : B ^ l.length ≤ B ^ m.length := Nat.pow_le_pow_right hB (by simp at hl; omega)
    omega
theorem pos_order {B : Nat} {l m : List Nat} (hB : 0 < B) (h1 : ∀ a ∈ l, a < B) (h2 : ∀ a ∈ m, a < B) (k1 : NL l) (k2 : NL m) : pos B l < pos B m ↔ l.length < m.length ∨ (l.length = m.length ∧ lexN l m = true) := by
  rcases Nat.lt_trichotomy l.length m.length with h | h | h
  · exact ⟨fun _ => .inl h, fun _ => pos_len hB h h1 k2⟩
  · rw [pos_lex h h1 h2]
    exact ⟨fun k => .inr ⟨h, k⟩, fun k => by rcases k with k | k <;> first | omega | exact k.2⟩
  · have := pos_len hB h h2 k1
    exact ⟨fun k => by omega, fun k => by omega⟩
theorem lexN_irr (l : List Nat) : lexN l l = false := by induction l <;> simp [lexN, *]
theorem lexN_eq : ∀ {l m : List Nat}, l.length = m.length → lexN l m = false → lexN m l = false → l = m
  | [], [], _, _, _ => rfl
  | a :: l, b :: m, hl, h1, h2 => by
    simp only [lexN, Bool.or_eq_false_iff, Bool.and_eq_false_iff, decide_eq_false_iff_not] at h1 h2
    obtain rfl : a = b := by omega
    rw [lexN_eq (l := l) (m := m) (by simpa using hl) (by rcases h1.2 with h | h; exact absurd rfl h; exact h) (by rcases h2.2 with h | h; exact absurd rfl h; exact h)]
  | [], _ :: _, hl, _, _ => by simp at hl
  | _ :: _, [], hl, _, _ => by simp at hl
theorem pos_inj {B : Nat} {l m : List Nat} (hB : 0 < B) (h1 : ∀ a ∈ l, a < B) (h2 : ∀ a ∈ m, a < B) (k1 : NL l) (k2 : NL m) (h : pos B l = pos B m) : l = m := by
  have e1 := pos_order hB h1 h2 k1 k2
  have e2 := pos_order hB h2 h1 k2 k1
  have n1 : ¬ (l.length < m.length ∨ (l.length = m.length ∧ lexN l m = true)) := fun h' => by have := e1.2 h'; omega
  have n2 : ¬ (m.length < l.length ∨ (m.length = l.length ∧ lexN m l = true)) := fun h' => by have := e2.2 h'; omega
  have hl : l.length = m.length := by omega
  refine lexN_eq hl ?_ ?_
  · rw [← Bool.not_eq_true]; exact fun h' => n1 (.inr ⟨hl, h'⟩)
  · rw [← Bool.not_eq_true]; exact fun h' => n2 (.inr ⟨hl.symm, h'⟩)
/-- Without noughts ahead. -/
def strip (l : List UInt8) : List UInt8 := l.dropWhile (· == 0)
def nat8 (l : List UInt8) : List Nat := l.map UInt8.toNat
theorem nat8_lt (l : List UInt8) : ∀ a ∈ nat8 l, a < 256 := fun a ha => by
  obtain ⟨x, _, rfl⟩ := List.mem_map.1 ha
  exact x.toNat_lt
theorem nat8_inj {l m : List UInt8} (h : nat8 l = nat8 m) : l = m := by
  induction l generalizing m with
  | nil => cases m with
    | nil => rfl
    | cons _ _ => simp [nat8] at h
  | cons a l ih => cases m with
    | nil => simp [nat8] at h
    | cons b m =>
      simp only [nat8, List.map_cons, List.cons.injEq] at h
      rw [UInt8.toNat_inj.1 h.1, ih h.2]
theorem strip_nl (l : List UInt8) : NL (nat8 (strip l)) := by
  unfold strip
  induction l with
  | nil => simp [NL, nat8]
  | cons a l ih =>
    rw [List.dropWhile_cons]
    split
    · exact ih
    · rename_i h
      intro e
      simp only [nat8, List.map_cons, List.head?_cons, Option.some.injEq] at e
      apply h
      have : a = 0 := UInt8.toNat_inj.1 (by rw [e]; rfl)
      simp [this]
theorem strip_pos (B : Nat) (l : List UInt8) : pos B (nat8 (strip l)) = pos B (nat8 l) := by
  unfold strip
  induction l with
  | nil => rfl
  | cons a l ih =>
    rw [List.dropWhile_cons]
    split
    · rename_i h
      have : a = 0 := by simpa using h
      subst this
      rw [ih]
      simp [nat8, pos]
    · rfl
theorem strip_len (l : List UInt8) : (strip l).length ≤ l.length := (List.dropWhile_sublist _).length_le
theorem nl_iff (l : List UInt8) : NL (nat8 l) ↔ l.head? ≠ some 0 := by
  cases l with
  | nil => simp [NL, nat8]
  | cons a l =>
    simp only [NL, nat8, List.map_cons, List.head?_cons, ne_eq, Option.some.injEq]
    constructor
    · intro h e; apply h; rw [e]; rfl
    · intro h e; apply h; exact UInt8.toNat_inj.1 (by rw [e]; rfl)
theorem strip_id {l : List UInt8} (h : l.head? ≠ some 0) : strip l = l := by
  cases l with
  | nil => rfl
  | cons a l =>
    unfold strip
    rw [List.dropWhile_cons, if_neg]
    intro e
    apply h
    have : a = 0 := by simpa using e
    rw [this]; rfl
/-- The number of a list of bytes. -/
def beN (l : List UInt8) : Nat := pos 256 (nat8 l)
theorem beN_lt (l : List UInt8) : beN l < 256 ^ l.length := by
  have := pos_lt (nat8_lt l)
  rwa [show (nat8 l).length = l.length by simp [nat8]] at this
theorem beN_strip (l : List UInt8) : beN (strip l) = beN l := strip_pos 256 l
theorem beN_inj {l m : List UInt8} (k1 : l.head? ≠ some 0) (k2 : m.head? ≠ some 0) (h : beN l = beN m) : l = m :=
  nat8_inj (pos_inj (by decide) (nat8_lt l) (nat8_lt m) ((nl_iff l).2 k1) ((nl_iff m).2 k2) h)
theorem strip_head (l : List UInt8) : (strip l).head? ≠ some 0 := (nl_iff _).1 (strip_nl l)
theorem strip_of {l m : List UInt8} (k : m.head? ≠ some 0) (h : beN l = beN m) : strip l = m := beN_inj (strip_head l) k ((beN_strip l).trans h)
end Ps
end Go.Proofs.Ytgeccggkdgpkiaa

/- A region that draws its order, as in XRegion; what makes memory may turn the blocks that are not kept. -/
namespace Go.Proofs.Ytgeccggkdgpkiaa
open Go.RowKit
namespace Rf
open Rg (noCall noCall_spec np wp_monoQ wpOp_monoQ Closed Closed.step waits waitsB waits_listed nth pick freeW chkS chkT chk planSize nth_of)
/-- A later world: every kept block that was there is as it was. -/
structure Ext (F : Nat → Prop) (w w' : World) : Prop where
  size : w.heap.size ≤ w'.heap.size
  block : ∀ k, k < w.heap.size → F k → w'.heap[k]? = w.heap[k]?
theorem Ext.refl {F : Nat → Prop} (w : World) : Ext F w w := ⟨Nat.le_refl _, fun _ _ _ => rfl⟩
theorem Ext.trans {F : Nat → Prop} {a b c : World} (h : Ext F a b) (k : Ext F b c) : Ext F a c := ⟨Nat.le_trans h.size k.size, fun i hi hF => (k.block i (Nat.lt_of_lt_of_le hi h.size) hF).trans (h.block i hi hF)⟩
theorem Ext.of {F : Nat → Prop} {w w' : World} (h : Rg.Ext w w') : Ext F w w' := ⟨h.size, fun k hk _ => h.block k hk⟩
theorem Ext.setCell {F : Nat → Prop} (w : World) (p : Addr) (u : Value) (h : ¬ F p.block) : Ext F w (w.setCell p u) :=
  ⟨by simp, fun k _ hF => Below.heap_setCell w p u k (fun e => h (e ▸ hF))⟩
theorem Ext.setRow {F : Nat → Prop} (w : World) (g : Nat) (cs : Array Value) (h : ¬ F g) : Ext F w (w.setRow g cs) :=
  ⟨by simp, fun k _ hF => setRow_other w g k cs (fun e => h (e ▸ hF))⟩
/-- The class of the later worlds, in the spelling that the quiet walk reads. -/
structure Lt (F : Nat → Prop) (w : World) where
  v : World
  ext : Ext F w v
instance (F : Nat → Prop) (w : World) : Nonempty (Lt F w) := ⟨⟨w, Ext.refl w⟩⟩
def Cls (F : Nat → Prop) (w : World) (w' : World) : Prop := ∃ x : Lt F w, w' = x.v
theorem Cls.mk {F : Nat → Prop} {w w' : World} (h : Ext F w w') : Cls F w w' := ⟨⟨w', h⟩, rfl⟩
@[go_sem] theorem cls_iff (F : Nat → Prop) (w w' : World) : Cls F w w' ↔ ∃ x : Lt F w, w' = x.v := Iff.rfl
/-- A cell of a kept block is there in every later world. -/
theorem Ext.cell {F : Nat → Prop} {w w' : World} (h : Ext F w w') {a : Addr} {v : Value} (hc : w.cell? a = some v) (hF : F a.block) : w'.cell? a = some v := by
  rw [World.cell?_of_block (w := w) (h.block a.block (World.block_lt_of_cell? w a hc) hF)]; exact hc
theorem later {F : Nat → Prop} {w : World} {a : Addr} {v : Value} (hc : w.cell? a = some v) (hF : F a.block) : ∀ x : Lt F w, x.v.cell? a = some v := fun x => x.ext.cell hc hF
theorem laterB {F : Nat → Prop} {w : World} {g : Nat} {o : Obj} (hc : w.heap[g]? = some o) (hF : F g) : ∀ x : Lt F w, x.v.heap[g]? = some o := fun x => by
  rw [x.ext.block g (Array.getElem?_eq_some_iff.1 hc).1 hF]; exact hc

section
variable {F : Nat → Prop} {P : Program} {ops : Array Oper} {Q : Exit → Act → World → Prop} {md : Region.Mode}

/-- In every later world operation 'o' leaves 'v', and the world as it is. -/
def Yld (F : Nat → Prop) (P : Program) (ops : Array Oper) (w : World) (o : Oper) (v : Value) (a : Act) : Prop :=
  (Region.wanted o (yielded ops a.tmps) = true ∧ ∀ w', Ext F w w' → (execOp a.eval o).run P w' = .ok (.value v) w' ∨ ((execOp a.eval o).run P w' = .ok .skip w' ∧ v = undef)) ∨
  (Region.wanted o (yielded ops a.tmps) = false ∧ v = undef)

theorem Yld.later {w w1 : World} {o : Oper} {v : Value} {a : Act} (h : Yld F P ops w o v a) (he : Ext F w w1) : Yld F P ops w1 o v a := by
  rcases h with ⟨hw, h⟩ | h
  · exact .inl ⟨hw, fun w' hw' => h w' (he.trans hw')⟩
  · exact .inr h

theorem Yld.of_same {w : World} {o : Oper} {v : Value} {a a' : Act} (hy : Yld F P ops w o v a) (he : execOp a'.eval o = execOp a.eval o)
    (hw : Region.wanted o (yielded ops a'.tmps) = Region.wanted o (yielded ops a.tmps)) : Yld F P ops w o v a' := by
  unfold Yld at *
  rw [he, hw]
  exact hy

theorem Yld.wpOp {w : World} {i : Nat} {o : Oper} {v : Value} {a : Act} (hi : ops[i]? = some o) (hy : Yld F P ops w o v a) {K : Act → World → Prop} (h : K (a.put o.dst v) w) : wpOp P ops Q i K a w := by
  unfold Go.wpOp
  simp only [hi]
  rcases hy with ⟨hw, hv⟩ | ⟨hw, rfl⟩
  · rw [if_pos hw]
    refine .inl ?_
    unfold Oper.wp
    rcases hv w (Ext.refl w) with hx | ⟨hx, rfl⟩
    · rw [hx]; exact h
    · rw [hx]; exact h
  · simp only [hw, Bool.false_eq_true, if_false]; exact h

theorem yld_of_quiet {w : World} {o : Oper} {a : Act} {K : Act → Prop} (hn : noCall o.op = true)
    (h : if Region.wanted o (yielded ops a.tmps) then o.quiet P a (Cls F w) K else K (a.put o.dst undef)) : ∃ v, Yld F P ops w o v a ∧ K (a.put o.dst v) := by
  by_cases hw : Region.wanted o (yielded ops a.tmps) = true
  · simp only [hw, if_true] at h
    obtain ⟨v, h1, h2⟩ := h
    refine ⟨v, .inl ⟨hw, fun w' hw' => ?_⟩, h2⟩
    have h3 := h1 w' (Cls.mk hw')
    unfold Oper.quietAt at h3
    have hne := fun f args w'' => noCall_spec (P := P) hn a.eval w' f args w''
    generalize (execOp a.eval o).run P w' = r at *
    cases r with
    | halt x w'' => simp only [Oper.quietUpon] at h3
    | ok n w'' =>
      cases n <;> simp only [Oper.quietUpon] at h3
      case value u => obtain ⟨rfl, rfl⟩ := h3; exact .inl rfl
      case skip => obtain ⟨rfl, rfl⟩ := h3; exact .inr ⟨rfl, rfl⟩
      case enter f args => exact absurd rfl (hne f args w'')
  · simp only [hw] at h
    exact ⟨undef, .inr ⟨by simpa using hw, rfl⟩, h⟩

/-- Whatever order is picked; what is not of the tail leaves a later world than 'wb'. -/
def anyE (F : Nat → Prop) (P : Program) (md : Region.Mode) (ops : Array Oper) (Q : Exit → Act → World → Prop) (tl : List Nat) (wb : World) : Nat → Array Bool → Act → World → Prop
  | 0, listed, a, w => Region.ready md ops listed = [] ∧ Q .normal a w
  | fuel + 1, listed, a, w =>
    (Region.ready md ops listed = [] → Q .normal a w) ∧
    ∀ i ∈ Region.ready md ops listed, wpOp P ops (if tl.contains i then Q else np Q) i (fun a' w' => (tl.contains i = false → Ext F wb w') ∧ anyE F P md ops Q tl wb fuel (listed.setIfInBounds i true) a' w') a w

theorem anyE_any {tl : List Nat} {wb : World} : ∀ (fuel : Nat) (listed : Array Bool) (a : Act) (w : World), anyE F P md ops Q tl wb fuel listed a w → wpAny P md ops Q fuel listed a w
  | 0, _, _, _, h => h
  | fuel + 1, _, _, _, h => ⟨h.1, fun i hi => wpOp_monoQ (fun c a w hq => by split at hq; exact hq; exact hq.2) (fun a w hq => by split at hq; exact hq; exact hq.2) (wpOp_mono (fun a' w' h' => anyE_any fuel _ a' w' h'.2) (h.2 i hi))⟩

theorem anyE_base {tl : List Nat} {wb wb' : World} (he : Ext F wb wb') : ∀ (fuel : Nat) (listed : Array Bool) (a : Act) (w : World), anyE F P md ops Q tl wb' fuel listed a w → anyE F P md ops Q tl wb fuel listed a w
  | 0, _, _, _, h => h
  | fuel + 1, _, _, _, h => ⟨h.1, fun i hi => wpOp_mono (fun a' w' h' => ⟨fun ht => he.trans (h'.1 ht), anyE_base he fuel _ a' w' h'.2⟩) (h.2 i hi)⟩

/-- Taken first: a reading operation. -/
theorem anyE_first {tl : List Nat} {wb : World} {i : Nat} {oi : Oper} {v : Value} {W : Array Nat} (hW : waitsB md ops W = true) (hi : ops[i]? = some oi)
    (hsel : ∀ (j : Nat) (o : Oper) cs b, ops[j]? = some o → o.op ≠ .select cs b) :
    ∀ (fuel : Nat) (listed : Array Bool) (a : Act) (w : World), Closed md ops listed → Ext F wb w →
      (∀ j oj, ops[j]? = some oj → j ≠ i → listed.getD j true = false → waits W j i = true ∨ (oi.apart ops oj = true ∧ tl.contains j = false)) →
      i ∈ Region.ready md ops listed → Yld F P ops wb oi v a →
      anyE F P md ops Q tl wb fuel (listed.setIfInBounds i true) (a.put oi.dst v) w → anyE F P md ops Q tl wb (fuel + 1) listed a w := by
  intro fuel
  induction fuel with
  | zero =>
    intro listed a w hc hwb hfree hr hy H
    refine ⟨fun h => (by rw [h] at hr; cases hr), fun j hj => ?_⟩
    by_cases hji : j = i
    · subst hji; exact (hy.later hwb).wpOp hi ⟨fun _ => hwb, H⟩
    · have := ready_mono hj hji
      rw [H.1] at this
      cases this
  | succ fuel ih =>
    intro listed a w hc hwb hfree hr hy H
    refine ⟨fun h => (by rw [h] at hr; cases hr), fun j hj => ?_⟩
    by_cases hji : j = i
    · subst hji; exact (hy.later hwb).wpOp hi ⟨fun _ => hwb, H⟩
    · have h1 := H.2 j (ready_mono hj hji)
      obtain ⟨hjun, oj, hoj, hall⟩ := mem_ready.1 hj
      have hilt : i < ops.size := (Array.getElem?_eq_some_iff.1 hi).1
      have hiun : listed.getD i false = false := by
        have h0 := (mem_ready.1 hr).1
        rcases Nat.lt_or_ge i listed.size with h' | h'
        · simpa [h'] using h0
        · simp [Array.getElem?_eq_none h']
      have hap : oi.apart ops oj = true ∧ tl.contains j = false := by
        rcases hfree j oj hoj hji hjun with hw | h
        · have := waits_listed hW hc hilt j j oj (Nat.le_refl _) hoj hall hw
          rw [hiun] at this
          cases this
        · exact h
      obtain ⟨p1, p2, p3⟩ := Oper.apart_spec hap.1
      have hsi := fun cs b => hsel i oi cs b hi
      have hsj := fun cs b => hsel j oj cs b hoj
      have keep : ∀ (a : Act), Yld F P ops wb oi v a → ∀ u, Yld F P ops wb oi v (a.put oj.dst u) := fun a hy u =>
        hy.of_same (execOp_put oi hsi a oj.dst u p3) (wanted_put oi a oj.dst u p3)
      have keepD : ∀ d, Yld F P ops wb oi v { a with defers := d :: a.defers } := fun d => hy.of_same rfl rfl
      have hfree' : ∀ k ok, ops[k]? = some ok → k ≠ i → (listed.setIfInBounds j true).getD k true = false → waits W k i = true ∨ (oi.apart ops ok = true ∧ tl.contains k = false) := fun k ok hk hki hun => by
        refine hfree k ok hk hki ?_
        by_cases hjk : j = k
        · subst hjk; exact hjun
        · rw [getD_set_ne true hjk] at hun; exact hun
      have fin : ∀ (a' : Act) (w' : World), Yld F P ops wb oi v a' → Ext F wb w' → anyE F P md ops Q tl wb fuel ((listed.setIfInBounds i true).setIfInBounds j true) (a'.put oi.dst v) w' →
          (True → Ext F wb w') ∧ anyE F P md ops Q tl wb (fuel + 1) (listed.setIfInBounds j true) a' w' := fun a' w' hy' he' h' =>
        ⟨fun _ => he', ih _ a' w' (hc.step hj) he' hfree' (ready_mono hr (Ne.symm hji)) hy' (by rw [Array.setIfInBounds_comm _ _ hji]; exact h')⟩
      rw [hap.2] at h1 ⊢
      simp only [Bool.false_eq_true, if_false] at h1 ⊢
      unfold wpOp at *
      simp only [hoj] at *
      rw [wanted_put oj a oi.dst v p1] at h1
      split
      · rename_i hw
        simp only [hw, if_true] at h1
        rcases h1 with h1 | ⟨hasks, hlets⟩
        case inr => exact .inr ⟨by unfold Oper.asks at *; rw [execOp_put oj hsj a oi.dst v p1] at hasks; exact hasks, hlets⟩
        refine .inl ?_
        unfold Oper.wp at *
        rw [execOp_put oj hsj a oi.dst v p1] at h1
        generalize (execOp a.eval oj).run P w = r at *
        cases r with
        | ok n w' =>
          cases n <;> simp only [Oper.upon] at h1 ⊢
          case value u => exact fin _ _ (keep a hy u) (h1.1 trivial) (by rw [← Act.put_comm a v u p2]; exact h1.2)
          case skip => exact fin _ _ (keep a hy _) (h1.1 trivial) (by rw [← Act.put_comm a v undef p2]; exact h1.2)
          case defer d =>
            refine fin _ _ (keep _ (keepD d) _) (h1.1 trivial) ?_
            rw [← Act.put_comm _ v undef p2, ← Act.put_defers]
            exact h1.2
          case enter f args =>
            refine Calls.mono h1 fun e w'' he => ?_
            cases e with
            | returned u => exact fin _ _ (keep a hy u) (he.1 trivial) (by rw [← Act.put_comm a v u p2]; exact he.2)
            | panicked c => exact absurd rfl (he.1 c)
            | outgrown => exact he
          case row row args => exact Rows.mono h1 fun u w'' he => fin _ _ (keep a hy u) (he.1 trivial) (by rw [← Act.put_comm a v u p2]; exact he.2)
        | halt x w' =>
          cases x <;> simp only [Oper.upon] at h1 ⊢
          case panic u => exact absurd rfl (h1.1 _)
      · rename_i hw
        simp only [hw] at h1
        exact fin _ _ (keep a hy _) (h1.1 trivial) (by rw [← Act.put_comm a v undef p2]; exact h1.2)

/-- Pieces that only read, an operation that makes memory behind each; a last piece; the tail, in its forced order. -/
def walk (F : Nat → Prop) (P : Program) (ops : Array Oper) (Q : Exit → Act → World → Prop) (tail : List Oper) : List (List Oper × Oper) → List Oper → World → Act → Prop
  | [], last, w, a => wpQuiet P ops (Cls F w) (fun a' => wpList P ops Q tail a' w) last a
  | (S, oc) :: t, last, w, a => wpQuiet P ops (Cls F w) (fun a' => wpList P ops (Exit.then (fun a'' w'' => Ext F w w'' ∧ walk F P ops Q tail t last w'' a'') (fun _ _ _ => False)) [oc] a' w) S a

theorem tail_sound {tl : List Nat} {wb : World} : ∀ (l : List Nat) (listed : Array Bool) (a : Act) (w : World), chkT md ops tl l listed = true → wpList P ops Q (pick ops.toList l) a w →
    anyE F P md ops Q tl wb l.length listed a w
  | [], listed, a, w, hc, h => ⟨by simpa [chkT] using hc, by simpa [pick, wpList] using h⟩
  | i :: l, listed, a, w, hc, h => by
    simp only [chkT, Bool.and_eq_true, beq_iff_eq] at hc
    obtain ⟨⟨hr, ht⟩, hc⟩ := hc
    refine ⟨fun h0 => (by rw [h0] at hr; cases hr), fun j hj => ?_⟩
    rw [hr] at hj
    obtain rfl : j = i := by simpa using hj
    have hmem : j ∈ Region.ready md ops listed := by rw [hr]; simp
    obtain ⟨_, o, ho, _⟩ := mem_ready.1 hmem
    have hn : nth ops.toList j = o := nth_of (by simpa using ho)
    simp only [pick, hn, wpList] at h
    rw [if_pos ht]
    unfold wpOp
    simp only [ho]
    have fin : ∀ a' w', wpList P ops Q (pick ops.toList l) a' w' → (tl.contains j = false → Ext F wb w') ∧ anyE F P md ops Q tl wb l.length (listed.setIfInBounds j true) a' w' :=
      fun a' w' h' => ⟨fun hf => (by rw [ht] at hf; cases hf), tail_sound l _ a' w' hc h'⟩
    split
    · rename_i hw
      rw [if_pos hw] at h
      rcases h with h | h
      · exact .inl (Oper.wp_mono fin h)
      · exact .inr h
    · rename_i hw
      rw [if_neg hw] at h
      exact fin _ _ h

theorem seg_sound {tl : List Nat} {W : Array Nat} {wb : World} (hW : waitsB md ops W = true) (hs : Region.noSelect ops = true) {k : Array Bool → Bool} {n : Nat} {K : Act → Prop}
    (hk : ∀ (listed : Array Bool) (a : Act), Closed md ops listed → k listed = true → K a → anyE F P md ops Q tl wb n listed a wb) :
    ∀ (l : List Nat) (listed : Array Bool) (a : Act), Closed md ops listed → chkS md ops W tl l listed k = true → wpQuiet P ops (Cls F wb) K (pick ops.toList l) a →
      anyE F P md ops Q tl wb (l.length + n) listed a wb
  | [], listed, a, hcl, hc, h => by simpa using hk listed a hcl (by simpa [chkS] using hc) (by simpa [pick, wpQuiet] using h)
  | i :: l, listed, a, hcl, hc, h => by
    simp only [chkS, Bool.and_eq_true] at hc
    obtain ⟨⟨hr, hf⟩, hc⟩ := hc
    have hmem : i ∈ Region.ready md ops listed := by simpa using hr
    obtain ⟨_, o, ho, _⟩ := mem_ready.1 hmem
    have hn : nth ops.toList i = o := nth_of (by simpa using ho)
    simp only [freeW, ho, Bool.and_eq_true, List.all_eq_true, List.mem_range] at hf
    obtain ⟨⟨hnc, htl⟩, hall⟩ := hf
    simp only [pick, hn, wpQuiet] at h
    obtain ⟨v, hy, h'⟩ := yld_of_quiet hnc h
    have := seg_sound hW hs hk l _ _ (hcl.step hmem) hc h'
    rw [List.length_cons, Nat.add_right_comm]
    refine anyE_first hW ho (Region.noSelect_spec hs) _ listed a wb hcl (Ext.refl _) (fun j oj hj hne hun => ?_) hmem hy this
    have h2 := hall j (Array.getElem?_eq_some_iff.1 hj).1
    simp only [hj, Bool.or_eq_true, beq_iff_eq, hne, hun, Bool.false_eq_true, false_or, Bool.and_eq_true, Bool.not_eq_true'] at h2
    exact h2

theorem walk_sound {tl : List Nat} {W : Array Nat} (hW : waitsB md ops W = true) (hs : Region.noSelect ops = true) : ∀ (pl : List (List Nat × Nat)) (last : List Nat) (listed : Array Bool) (a : Act) (w : World),
    Closed md ops listed → chk md ops W tl pl last listed = true → walk F P ops Q (pick ops.toList tl) (pl.map fun x => (pick ops.toList x.1, nth ops.toList x.2)) (pick ops.toList last) w a →
    anyE F P md ops Q tl w (planSize pl last tl) listed a w
  | [], last, listed, a, w, hcl, hc, h => by
    have := seg_sound (P := P) (Q := Q) hW hs (k := chkT md ops tl tl) (n := tl.length) (K := fun a' => wpList P ops Q (pick ops.toList tl) a' w) (wb := w)
      (fun l a' _ hk h' => tail_sound tl l a' w hk h') last listed a hcl (by simpa [chk] using hc) (by simpa [walk] using h)
    simpa [planSize] using this
  | (S, i) :: t, last, listed, a, w, hcl, hc, h => by
    have := seg_sound (P := P) (Q := Q) hW hs (wb := w) (n := planSize t last tl + 1) (tl := tl)
      (k := fun l' => Region.ready md ops l' == [i] && !tl.contains i && chk md ops W tl t last (l'.setIfInBounds i true))
      (K := fun a' => wpList P ops (Exit.then (fun a'' w'' => Ext F w w'' ∧ walk F P ops Q (pick ops.toList tl) (t.map fun x => (pick ops.toList x.1, nth ops.toList x.2)) (pick ops.toList last) w'' a'') (fun _ _ _ => False)) [nth ops.toList i] a' w)
      (fun l a' hcl' hk h' => by
        simp only [Bool.and_eq_true, beq_iff_eq, Bool.not_eq_true'] at hk
        obtain ⟨⟨hr, ht⟩, hc'⟩ := hk
        refine ⟨fun h0 => (by rw [h0] at hr; cases hr), fun j hj => ?_⟩
        rw [hr] at hj
        obtain rfl : j = i := by simpa using hj
        have hmem : j ∈ Region.ready md ops l := by rw [hr]; simp
        obtain ⟨_, o, ho, _⟩ := mem_ready.1 hmem
        have hn : nth ops.toList j = o := nth_of (by simpa using ho)
        rw [ht]
        simp only [Bool.false_eq_true, if_false]
        simp only [hn, wpList, Exit.then] at h'
        have fin : ∀ a'' w'', (Ext F w w'' ∧ walk F P ops Q (pick ops.toList tl) (t.map fun x => (pick ops.toList x.1, nth ops.toList x.2)) (pick ops.toList last) w'' a'') →
            (True → Ext F w w'') ∧ anyE F P md ops Q tl w (planSize t last tl) (l.setIfInBounds j true) a'' w'' := fun a'' w'' hh =>
          ⟨fun _ => hh.1, anyE_base hh.1 _ _ _ _ (walk_sound hW hs t last _ a'' w'' (hcl'.step hmem) hc' hh.2)⟩
        unfold wpOp
        simp only [ho]
        split
        · rename_i hw
          rw [if_pos hw] at h'
          rcases h' with h' | ⟨_, a0, w0, hq⟩
          · refine .inl (wp_monoQ (Q' := Exit.then (fun a'' w'' => Ext F w w'' ∧ walk F P ops Q (pick ops.toList tl) (t.map fun x => (pick ops.toList x.1, nth ops.toList x.2)) (pick ops.toList last) w'' a'') (fun _ _ _ => False)) (fun c a1 w1 hq => hq.elim) (fun a1 w1 hq => hq.elim) (Oper.wp_mono fin h'))
          · exact hq.elim
        · rename_i hw
          rw [if_neg hw] at h'
          exact fin _ _ h') S listed a hcl (by simpa [chk] using hc) (by simpa [walk] using h)
    have e : planSize ((S, i) :: t) last tl = S.length + (planSize t last tl + 1) := by simp [planSize]; omega
    rw [e]
    exact this

theorem region (F : Nat → Prop) {id : Nat} {l : List Oper} {a : Act} {w : World} (pl : List (List Nat × Nat)) (last tl : List Nat) (hm : P.follows .mixedOrders = true)
    (hB : (waitsB .any l.toArray (Region.before l.toArray) && Region.noSelect l.toArray && chk .any l.toArray (Region.before l.toArray) tl pl last (Array.replicate l.length false) && planSize pl last tl == l.length) = true)
    (h : ∀ w', Rg.Ext w w' → walk F P l.toArray Q (pick l tl) (pl.map fun x => (pick l x.1, nth l x.2)) (pick l last) w' a) : (Code.region id l.toArray true).wp P Q a w := by
  simp only [Bool.and_eq_true, beq_iff_eq] at hB
  obtain ⟨⟨⟨hW, hs⟩, hc⟩, hsz⟩ := hB
  refine wp_region_any hm (anyE_any (F := F) (tl := tl) (wb := { w with drawn := w.drawn + 1 }) _ _ _ _ ?_)
  have := walk_sound (F := F) (P := P) (Q := Q) (md := .any) (ops := l.toArray) (tl := tl) hW hs pl last (Array.replicate l.length false) a { w with drawn := w.drawn + 1 } (by
    intro j o _ hl
    exfalso
    simp [Array.getElem?_replicate] at hl
    split at hl <;> simp_all) (by simpa using hc) (by simpa using h _ (Below.drew (Below.refl _ w)))
  rw [hsz] at this
  simpa using this

/-- The first piece and its operation; what follows is held back. -/
theorem walk_at {l : List Oper} {tail last : List Oper} {S : List Nat} {i : Nat} {t : List (List Nat × Nat)} {w : World} {a : Act}
    (h : ∀ K : Act → World → Prop, RowKit.Hid (∀ a' w', walk F P ops Q tail (t.map fun x => (pick l x.1, nth l x.2)) last w' a' → K a' w') →
      wpQuiet P ops (Cls F w) (fun a' => wpList P ops (Exit.then (fun a'' w'' => Ext F w w'' ∧ K a'' w'') (fun _ _ _ => False)) [nth l i] a' w) (pick l S) a) :
    walk F P ops Q tail (((S, i) :: t).map fun x => (pick l x.1, nth l x.2)) last w a :=
  h _ (Lib.hid fun _ _ h => h)
/-- The last piece and the tail. -/
theorem walk_end {l : List Oper} {tail last : List Oper} {w : World} {a : Act}
    (h : wpQuiet P ops (Cls F w) (fun a' => wpList P ops Q tail a' w) last a) :
    walk F P ops Q tail (([] : List (List Nat × Nat)).map fun x => (pick l x.1, nth l x.2)) last w a := h
end
end Rf
end Go.Proofs.Ytgeccggkdgpkiaa

/- Walks of package word: Int, sum, Add, Sub, Cmp. -/
namespace Go.Proofs.Ytgeccggkdgpkiaa
open Go.RowKit Rp Rg Ops Mm Ar Wm
namespace Wd
theorem aggW : Agg Try.prog 61 4 := ⟨⟨.array 4 22, by kernel_rfl, rfl⟩, by kernel_rfl⟩

/-- Cell k is set: the rest is as it was. -/
theorem grow_at {α : Type} (V : α → Value) (f : Nat → α) (z : α) (k i : Nat) : V (if i < k + 1 then f i else z) = if i = k then V (f k) else V (if i < k then f i else z) := by
  by_cases h : i = k
  · subst h; simp
  · rw [if_neg h]
    by_cases h2 : i < k
    · rw [if_pos h2, if_pos (Nat.lt_succ_of_lt h2)]
    · rw [if_neg h2, if_neg (by omega)]

theorem word_small (n : Nat) (h0 : n < m64) : wordA n = #[.int .u64 (n : Int), .int .u64 0, .int .u64 0, .int .u64 0] := by
  simp only [wordA, arr, List.range_succ_eq_map, List.range_zero, List.map_cons, List.map_nil, u64V]
  have e0 : limb n 0 = n := by simp [limb, Nat.mod_eq_of_lt h0]
  have e : ∀ k, limb n (k + 1) = 0 := fun k => by
    unfold limb
    rw [Nat.div_eq_of_lt (Nat.lt_of_lt_of_le h0 (by rw [Nat.pow_succ]; exact Nat.le_mul_of_pos_left _ (pow_pos' k)))]
    simp
  simp [e0, e]

theorem IntW (n : Nat) (hn : n < m64) (w : World) : Calls Try.prog 45 #[.int .u64 (n : Int)] w fun e w' => e = .returned (.agg (wordA n)) ∧ Ext w w' := by
  have hz := word_small n hn
  have HZ := Lib.hid hz
  clear hz
  have s1 := (St.start w).alloc (arr 4 fun _ => .int .u64 0) 61
  have s2 := s1.setRow 0 rfl #[.int .u64 (n : Int), .int .u64 0, .int .u64 0, .int .u64 0]
  go_enter Try.func45, Try.ntmps45
  go_wp2_with (refine stAll aggW (vs := #[.int .u64 (n : Int), .int .u64 0, .int .u64 0, .int .u64 0]) rfl _ _ rfl (by rfl) (by rfl) (s1.at 0 rfl) (by rfl) (by rfl) (by simp [Value.oneCell']) ?_)
  go_wp2
  refine bodyPost_ret (v := .agg _) (ret_cell aggW rfl rfl (s2.at 0 rfl) rfl) rfl ⟨by rw [HZ.out], s2.below⟩
def sub64Entry : Array Value → Sem Value := fun args => do
  let (x, y, b) ← Extern.MathBitsCarry.three "Sub64" args
  pure (Extern.MathBitsCarry.pair ((x + Extern.MathBitsCarry.m64 - y - b) % Extern.MathBitsCarry.m64) (if x < y + b then 1 else 0))
theorem run_sub64 {P : Program} (x y c : Nat) (hc : c ≤ 1) (w : World) : (sub64Entry #[.int .u64 x, .int .u64 y, .int .u64 c]).run P w =
    .ok (.tuple #[.int .u64 ((x + m64 - y - c) % m64 : Nat), .int .u64 ((if x < y + c then 1 else 0 : Nat) : Int)]) w := by
  have : c = 0 ∨ c = 1 := by omega
  rcases this with rfl | rfl <;> rfl
end Wd
end Go.Proofs.Ytgeccggkdgpkiaa

/- Walks of package word: Add, Sub, Cmp. -/
namespace Go.Proofs.Ytgeccggkdgpkiaa
open Go.RowKit Rp Rg Ops Mm Ar Wm
namespace Wd
theorem cmp_step {x y k : Nat} (h : x / m64 ^ (k + 1) = y / m64 ^ (k + 1)) : (limb x k < limb y k ↔ x / m64 ^ k < y / m64 ^ k) ∧ (x / m64 ^ k = y / m64 ^ k ↔ limb x k = limb y k) := by
  unfold limb
  rw [Nat.pow_succ, ← Nat.div_div_eq_div_mul, ← Nat.div_div_eq_div_mul] at h
  generalize x / m64 ^ k = A at *
  generalize y / m64 ^ k = B at *
  have := Nat.div_add_mod A m64
  have := Nat.div_add_mod B m64
  rw [h] at *
  omega

theorem Cmp (x y : Nat) (w : World) : Calls Try.prog 37 #[.agg (wordA x), .agg (wordA y)] w fun e w' => e = .returned (.int .i64 (cmp x y)) ∧ Ext w w' := by
  obtain ⟨X, hX, hXe, hXl⟩ : ∃ X, wordA x = wordA X ∧ x % M256 = X ∧ X < M256 := ⟨x % M256, (wordA_mod x).symm, rfl, Nat.mod_lt _ M256_pos⟩
  obtain ⟨Y, hY, hYe, hYl⟩ : ∃ Y, wordA y = wordA Y ∧ y % M256 = Y ∧ Y < M256 := ⟨y % M256, (wordA_mod y).symm, rfl, Nat.mod_lt _ M256_pos⟩
  obtain ⟨c, hc⟩ : ∃ c, c = cmp x y := ⟨_, rfl⟩
  rw [hX, hY, ← hc]
  have clt : X < Y → c = -1 := fun h => by rw [hc, cmp, hXe, hYe, if_pos h]
  have cgt : Y < X → c = 1 := fun h => by rw [hc, cmp, hXe, hYe, if_neg (by omega), if_pos h]
  have ceq : X = Y → c = 0 := fun h => by rw [hc, cmp, hXe, hYe, if_neg (by omega), if_neg (by omega)]
  clear hX hY hXe hYe hc
  go_enter Try.func37, Try.ntmps37
  have s1 := ((St.start w).alloc (wordA X) 61).alloc' (wordA Y) 61 (w.heap.size + 1) (by simp)
  go_wp2
  go_loopw [5] (fun i wr => ∃ (k : Nat) (z : Int), k ≤ 4 ∧ z = (k : Int) - 1 ∧ i = .int .i64 z ∧ X / m64 ^ k = Y / m64 ^ k ∧
      St w wr [(w.heap.size + 1, 61, wordA Y), (w.heap.size, 61, wordA X)]) (fun i _ => (intOf i + 1).toNat)
  case atStart =>
    refine ⟨4, 3, by omega, rfl, rfl, ?_, s1⟩
    rw [Nat.div_eq_of_lt (by exact hXl), Nat.div_eq_of_lt (by exact hYl)]
  case round =>
    obtain ⟨k, z, hk, hz, rfl, he, st⟩ := hrel
    cases k with
    | zero =>
      have hxy : X = Y := by simpa using he
      obtain rfl : z = -1 := by omega
      clear hz
      go_wp2
      go_ret
      exact ⟨by rw [ceq hxy]; rfl, st.below⟩
    | succ k =>
      have C := Lib.hid (cmp_step he)
      obtain rfl : z = (k : Int) := by omega
      clear hz
      go_wp2
      refine Rg.region [] [0, 1, 2, 3, 4, 5, 6, 7] [] (by kernel_rfl) (by kernel_rfl) fun w' hw' => ?_
      have st' := st.ext hw'
      have b1 := Rg.later (st'.cell 1 rfl k (wordA_get X k (by omega)))
      have b2 := Rg.later (st'.cell 0 rfl k (wordA_get Y k (by omega)))
      simp only [Rg.walk, Rg.pick, Rg.nth, List.map_nil]
      repeat (go_big_quiet_step (fail))
      refine wpQuiet_nil ?_
      by_cases h1 : limb X k < limb Y k
      · have : X < Y := by
          refine Nat.lt_of_not_le fun h => ?_
          have := Nat.div_le_div_right (c := m64 ^ k) h
          have := C.out.1.1 h1
          omega
        have hd : decide (limb X k < limb Y k) = true := by simpa using h1
        go_wp2
        go_ret
        exact ⟨by rw [clt this]; rfl, st'.below⟩
      · have hd : decide (limb X k < limb Y k) = false := by simpa using h1
        go_wp2
        refine Rg.region [] [0, 1, 2, 3, 4, 5, 6, 7] [] (by kernel_rfl) (by kernel_rfl) fun w2 hw2 => ?_
        have st2 := st'.ext hw2
        have b1 := Rg.later (st2.cell 1 rfl k (wordA_get X k (by omega)))
        have b2 := Rg.later (st2.cell 0 rfl k (wordA_get Y k (by omega)))
        simp only [Rg.walk, Rg.pick, Rg.nth, List.map_nil]
        repeat (go_big_quiet_step (fail))
        refine wpQuiet_nil ?_
        by_cases h2 : limb Y k < limb X k
        · have : Y < X := by
            refine Nat.lt_of_not_le fun h => ?_
            have h3 := Nat.div_le_div_right (c := m64 ^ k) h
            have h4 := C.out
            have h5 : X / m64 ^ k ≠ Y / m64 ^ k := fun h => by have := h4.2.1 h; omega
            have := h4.1.2 (by omega)
            omega
          have hd2 : decide (limb Y k < limb X k) = true := by simpa using h2
          go_wp2
          go_ret
          exact ⟨by rw [cgt this]; rfl, st2.below⟩
        · have hd2 : decide (limb Y k < limb X k) = false := by simpa using h2
          go_wp2
          go_roundw
          case rel => exact ⟨k, (k : Int) - 1, by omega, rfl, rfl, C.out.2.2 (by omega), st2⟩
          case measure => simp [intOf]
end Wd
end Go.Proofs.Ytgeccggkdgpkiaa

/- Words over the lifted state: as lists of four numbers; contracts of package word. -/
namespace Go.Proofs.Ytgeccggkdgpkiaa
open Go.RowKit Rg Wm Ar
namespace Lf
def limbs (x : Nat) : List Nat := [limb x 0, limb x 1, limb x 2, limb x 3]
abbrev wV (x : Nat) : V := .a ((limbs x).map uK)
theorem limbs_len (x : Nat) : (limbs x).length = 4 := rfl
theorem limbs_get (x : Nat) {k : Nat} (h : k < 4) : (limbs x).getD k default = limb x k := by
  match k, h with
  | 0, _ => rfl
  | 1, _ => rfl
  | 2, _ => rfl
  | 3, _ => rfl
theorem limb_lt64 (x k : Nat) : limb x k < 18446744073709551616 := limb_lt x k
theorem limbs_lt (x k : Nat) : (limbs x).getD k default < 18446744073709551616 := by
  rcases Nat.lt_or_ge k 4 with h | h
  · rw [limbs_get x h]; exact limb_lt64 x k
  · rw [List.getD_eq_getElem?_getD, List.getElem?_eq_none (by rw [limbs_len]; exact h)]; exact Nat.zero_lt_succ _
theorem wordA_list (x : Nat) : wordA x = #[.int .u64 (limb x 0 : Int), .int .u64 (limb x 1 : Int), .int .u64 (limb x 2 : Int), .int .u64 (limb x 3 : Int)] := rfl
theorem exact_word (x : Nat) : Exact (wV x) (.agg (wordA x)) := by
  rw [wordA_list]
  refine ⟨fun w g => .a rfl (fun u hu => ?_) (fun j u y hj hy => ?_), fun w g y h => ?_⟩
  · obtain ⟨a, _, rfl⟩ := List.mem_map.1 hu; rfl
  · match j with
    | 0 => simp [limbs] at hj hy; subst hj; subst hy; exact .k _
    | 1 => simp [limbs] at hj hy; subst hj; subst hy; exact .k _
    | 2 => simp [limbs] at hj hy; subst hj; subst hy; exact .k _
    | 3 => simp [limbs] at hj hy; subst hj; subst hy; exact .k _
    | j + 4 => simp [limbs] at hj
  · cases h with
    | @a _ _ vs hl h1 hc =>
      have hs : vs.size = 4 := by simpa [limbs] using hl.symm
      congr 1
      apply Array.ext
      · simpa using hs
      · intro i h1 h2
        have hv : vs[i]? = some vs[i] := Array.getElem?_eq_getElem h1
        match i with
        | 0 => exact rep_k (hc 0 _ _ rfl hv)
        | 1 => exact rep_k (hc 1 _ _ rfl hv)
        | 2 => exact rep_k (hc 2 _ _ rfl hv)
        | 3 => exact rep_k (hc 3 _ _ rfl hv)
        | i + 4 => omega
theorem limbs_eq {x y : Nat} (h : x % M256 = y % M256) : limbs x = limbs y := by
  have := wordA_eq h
  rw [wordA_list, wordA_list] at this
  simp only [Array.mk.injEq, List.cons.injEq, Value.int.injEq, true_and, and_true] at this
  obtain ⟨h1, h2, h3, h4⟩ := this
  simp only [limbs, List.cons.injEq, and_true]
  exact ⟨by omega, by omega, by omega, by omega⟩
theorem limbs_inj {x y : Nat} (h : limbs x = limbs y) : x % M256 = y % M256 := by
  refine wordA_inj ?_
  simp only [limbs, List.cons.injEq, and_true] at h
  obtain ⟨h1, h2, h3, h4⟩ := h
  rw [wordA_list, wordA_list, h1, h2, h3, h4]
theorem limbs_iff {x y : Nat} : limbs x = limbs y ↔ x % M256 = y % M256 := ⟨limbs_inj, limbs_eq⟩
theorem limbs_small {n : Nat} (h : n < m64) : limbs n = [n, 0, 0, 0] := by
  have h0 : limb n 0 = n := by unfold limb; rw [Nat.pow_zero, Nat.div_one, Nat.mod_eq_of_lt h]
  have hi : ∀ i, 1 ≤ i → limb n i = 0 := fun i hi => by
    have : m64 ≤ m64 ^ i := by
      have := Nat.pow_le_pow_right (show 0 < m64 from m64_pos) hi
      rwa [Nat.pow_one] at this
    unfold limb; rw [Nat.div_eq_of_lt (by omega), Nat.zero_mod]
  unfold limbs
  rw [h0, hi 1 (by decide), hi 2 (by decide), hi 3 (by decide)]
/-- The number of four parts. -/
def numOf (l : List Nat) : Nat := val (fun k => l.getD k 0) 4
theorem limbs_num {l : List Nat} (h : l.length = 4) (hl : ∀ a ∈ l, a < m64) : limbs (numOf l) = l := by
  match l, h with
  | [a, b, c, d], _ =>
    have hk : ∀ k, k < 4 → (fun k => [a, b, c, d].getD k 0) k < m64 := fun k hk => by
      match k, hk with
      | 0, _ => exact hl a (by simp)
      | 1, _ => exact hl b (by simp)
      | 2, _ => exact hl c (by simp)
      | 3, _ => exact hl d (by simp)
    unfold limbs numOf
    rw [limb_val hk (by decide : 0 < 4), limb_val hk (by decide : 1 < 4), limb_val hk (by decide : 2 < 4), limb_val hk (by decide : 3 < 4)]
    rfl
theorem numOf_lt {l : List Nat} (h : l.length = 4) (hl : ∀ a ∈ l, a < m64) : numOf l < M256 := by
  match l, h with
  | [a, b, c, d], _ =>
    refine val_lt fun k hk => ?_
    match k, hk with
    | 0, _ => exact hl a (by simp)
    | 1, _ => exact hl b (by simp)
    | 2, _ => exact hl c (by simp)
    | 3, _ => exact hl d (by simp)
/-! ### Bytes -/
def beB (x : Nat) : Nat → List UInt8
  | 0 => []
  | n + 1 => UInt8.ofNat (x / 256 ^ n % 256) :: beB x n
theorem beB_len (x n : Nat) : (beB x n).length = n := by induction n <;> simp [beB, *]
theorem beB_num (x : Nat) : ∀ n, Ps.beN (beB x n) = x % 256 ^ n
  | 0 => by simp [beB, Ps.beN, Ps.nat8, Ps.pos, Nat.mod_one]
  | n + 1 => by
    have ih := beB_num x n
    have e : Ps.beN (beB x (n + 1)) = x / 256 ^ n % 256 * 256 ^ n + Ps.beN (beB x n) := by
      simp only [beB, Ps.beN, Ps.nat8, List.map_cons, Ps.pos, List.length_map, beB_len, UInt8.toNat_ofNat']
      simp
    rw [e, ih, Nat.pow_succ, Nat.mod_mul, Nat.mul_comm]
    omega
theorem m256_bytes : M256 = 256 ^ 32 := by unfold M256 m64; decide
def wordB (x : Nat) : List UInt8 := beB x 32
theorem wordB_len (x : Nat) : (wordB x).length = 32 := beB_len x 32
theorem wordB_num (x : Nat) : Ps.beN (wordB x) = x % M256 := by rw [m256_bytes]; exact beB_num x 32
def bytesR (x i : Nat) : List UInt8 := (List.range 32).map fun j => if j < i then UInt8.ofNat (x / 256 ^ (31 - j) % 256) else 0
theorem bytesR_len (x i : Nat) : (bytesR x i).length = 32 := by simp [bytesR]
theorem bytesR_full (x : Nat) : bytesR x 32 = wordB x := by
  have e : ∀ n, beB x n = (List.range n).map fun j => UInt8.ofNat (x / 256 ^ (n - 1 - j) % 256) := by
    intro n
    induction n with
    | zero => rfl
    | succ n ih =>
      rw [beB, ih, List.range_succ_eq_map, List.map_cons, List.map_map]
      congr 1
      refine List.map_congr_left fun j hj => ?_
      have := List.mem_range.1 hj
      simp only [Function.comp]
      rw [show n + 1 - 1 - (j + 1) = n - 1 - j by omega]
  unfold wordB bytesR
  rw [e]
  refine List.map_congr_left fun j hj => ?_
  rw [if_pos (List.mem_range.1 hj)]
theorem bytesR_set (x i : Nat) (hi : i < 32) {b : Nat} (hb : b % 256 = x / 256 ^ (31 - i) % 256) : (bytesR x i).set i (UInt8.ofNat b) = bytesR x (i + 1) := by
  apply List.ext_getElem
  · simp [bytesR]
  · intro j h1 h2
    rw [List.getElem_set]
    simp only [bytesR, List.getElem_map, List.getElem_range]
    by_cases h : i = j
    · subst h
      rw [if_pos rfl, if_pos (by omega)]
      apply UInt8.toNat_inj.1
      rw [UInt8.toNat_ofNat', UInt8.toNat_ofNat']
      omega
    · rw [if_neg h]
      by_cases h3 : j < i
      · rw [if_pos h3, if_pos (by omega)]
      · rw [if_neg h3, if_neg (by omega)]
theorem limb_byte (x k r : Nat) (hr : r < 8) : limb x k / 2 ^ (r * 8) % 256 = x / 256 ^ (8 * k + r) % 256 := by
  unfold limb
  have e1 : (256 : Nat) ^ (8 * k + r) = m64 ^ k * 2 ^ (r * 8) := by
    rw [Nat.pow_add, Nat.pow_mul]
    have h1 : (256 : Nat) ^ 8 = m64 := by unfold m64; decide
    have h2 : (256 : Nat) ^ r = 2 ^ (r * 8) := by rw [Nat.mul_comm, Nat.pow_mul]
    rw [h1, h2]
  rw [e1, ← Nat.div_div_eq_div_mul]
  generalize x / m64 ^ k = y
  have h3 : m64 = 2 ^ (r * 8) * 2 ^ ((8 - r) * 8) := by rw [← Nat.pow_add, show r * 8 + (8 - r) * 8 = 64 from by omega]; unfold m64; decide
  have h4 : (256 : Nat) ∣ 2 ^ ((8 - r) * 8) := by
    refine ⟨2 ^ ((8 - r) * 8 - 8), ?_⟩
    have : (8 - r) * 8 = 8 + ((8 - r) * 8 - 8) := by omega
    rw [this, Nat.pow_add]; simp
  rw [h3, Nat.mod_mul_right_div_self]
  exact Nat.mod_mod_of_dvd _ h4
theorem pow256 (i : Nat) : (256 : Nat) ^ i = m64 ^ (i / 8) * 2 ^ (i % 8 * 8) := by
  have h1 : (256 : Nat) ^ 8 = m64 := by unfold m64; decide
  have h2 : (256 : Nat) ^ (i % 8) = 2 ^ (i % 8 * 8) := by rw [Nat.mul_comm, Nat.pow_mul]
  rw [← h1, ← h2, ← Nat.pow_mul, ← Nat.pow_add, Nat.div_add_mod]
theorem limb_set {V b i : Nat} (hV : V < 256 ^ i) (hb : b < 256) (k : Nat) : limb (V + b * 256 ^ i) k = if k = i / 8 then limb V k ||| (b * 2 ^ (i % 8 * 8) % 2 ^ 64) else limb V k := by
  have hp := pow256 i
  have hm : 2 ^ 64 = m64 := by unfold m64; decide
  have hr : i % 8 < 8 := Nat.mod_lt _ (by decide)
  have h64 : m64 = 2 ^ (i % 8 * 8) * 2 ^ (64 - i % 8 * 8) := by rw [← Nat.pow_add, ← hm, show i % 8 * 8 + (64 - i % 8 * 8) = 64 from by omega]
  have hpos : ∀ j, 0 < m64 ^ j := fun j => pow_pos' j
  have hle : b * 2 ^ (i % 8 * 8) + 2 ^ (i % 8 * 8) ≤ m64 := by
    have h1 : (2 : Nat) ^ 8 ≤ 2 ^ (64 - i % 8 * 8) := Nat.pow_le_pow_right (by decide) (by omega)
    have h2 : (b + 1) * 2 ^ (i % 8 * 8) ≤ 2 ^ (64 - i % 8 * 8) * 2 ^ (i % 8 * 8) := Nat.mul_le_mul_right _ (by omega)
    rw [Nat.mul_comm (2 ^ (64 - i % 8 * 8)), ← h64, Nat.add_mul, Nat.one_mul] at h2
    exact h2
  have hs0 : 0 < 2 ^ (i % 8 * 8) := Nat.two_pow_pos _
  rcases Nat.lt_trichotomy k (i / 8) with h | h | h
  · rw [if_neg (by omega)]
    obtain ⟨j, hj⟩ : ∃ j, i / 8 = k + 1 + j := ⟨i / 8 - k - 1, by omega⟩
    unfold limb
    rw [hp, hj, show b * (m64 ^ (k + 1 + j) * 2 ^ (i % 8 * 8)) = m64 ^ k * (m64 * (m64 ^ j * (b * 2 ^ (i % 8 * 8)))) from by rw [Nat.pow_add, Nat.pow_add, Nat.pow_one]; ac_rfl, Nat.add_mul_div_left _ _ (hpos k), Nat.add_mul_mod_self_left]
  · rw [if_pos h]
    subst h
    have hlt : V / m64 ^ (i / 8) < 2 ^ (i % 8 * 8) := Nat.div_lt_of_lt_mul (by rw [← hp]; exact hV)
    unfold limb
    rw [hp, show b * (m64 ^ (i / 8) * 2 ^ (i % 8 * 8)) = m64 ^ (i / 8) * (b * 2 ^ (i % 8 * 8)) from by ac_rfl, Nat.add_mul_div_left _ _ (hpos _)]
    rw [Nat.mod_eq_of_lt (show V / m64 ^ (i / 8) < m64 by omega), hm, Nat.mod_eq_of_lt (show b * 2 ^ (i % 8 * 8) < m64 by omega), Nat.mod_eq_of_lt (by omega)]
    rw [Nat.or_comm, Nat.mul_comm b, ← Nat.two_pow_add_eq_or_of_lt hlt, Nat.add_comm]
  · rw [if_neg (by omega)]
    have h1 : (256 : Nat) ^ (i + 1) ≤ m64 ^ k := by
      have : (256 : Nat) ^ (i + 1) ≤ 256 ^ (8 * k) := Nat.pow_le_pow_right (by decide) (by omega)
      rw [Nat.pow_mul] at this
      have e : (256 : Nat) ^ 8 = m64 := by unfold m64; decide
      rwa [e] at this
    have h2 : V + b * 256 ^ i < 256 ^ (i + 1) := by
      have h2 := Nat.mul_le_mul_right (256 ^ i) (Nat.succ_le_of_lt hb)
      rw [Nat.pow_succ, Nat.mul_comm (256 ^ i)]
      rw [Nat.succ_mul] at h2
      omega
    unfold limb
    rw [Nat.div_eq_of_lt (by omega), Nat.div_eq_of_lt (by omega)]
/-- The number of the last i bytes. -/
def tailN (l : List UInt8) (i : Nat) : Nat := Ps.beN (l.drop (l.length - i))
theorem tailN_zero (l : List UInt8) : tailN l 0 = 0 := by unfold tailN; rw [Nat.sub_zero, List.drop_length]; rfl
theorem tailN_all (l : List UInt8) : tailN l l.length = Ps.beN l := by unfold tailN; rw [Nat.sub_self, List.drop_zero]
theorem tailN_lt (l : List UInt8) {i : Nat} (h : i ≤ l.length) : tailN l i < 256 ^ i := by
  have := Ps.beN_lt (l.drop (l.length - i))
  rwa [List.length_drop, show l.length - (l.length - i) = i by omega] at this
theorem tailN_succ (l : List UInt8) {i : Nat} (h : i < l.length) : tailN l (i + 1) = tailN l i + (l.getD (l.length - 1 - i) default).toNat * 256 ^ i := by
  unfold tailN
  rw [show l.length - (i + 1) = l.length - 1 - i by omega, List.drop_eq_getElem_cons (by omega)]
  have e : l.length - 1 - i + 1 = l.length - i := by omega
  rw [e]
  have e2 : ∀ (a : UInt8) (r : List UInt8), Ps.beN (a :: r) = a.toNat * 256 ^ r.length + Ps.beN r := fun a r => by simp [Ps.beN, Ps.nat8, Ps.pos]
  rw [e2, List.length_drop, show l.length - (l.length - i) = i by omega, Nat.add_comm]
  simp [List.getD_eq_getElem?_getD, List.getElem?_eq_getElem (show l.length - 1 - i < l.length by omega)]
attribute [irreducible] bytesR limbs tailN wordB
end Lf
end Go.Proofs.Ytgeccggkdgpkiaa

/- Contracts of package word, lifted. -/
namespace Go.Proofs.Ytgeccggkdgpkiaa
open Go.RowKit Rg Wm Ar
namespace Lf
namespace Wo
theorem IntW (n : Nat) (h : n < m64) : LF Try.prog 45 [uK n] (fun _ => wV n) none := .of_calls (by kernel_rfl) rfl (ex1 (exact_k _)) (exact_word _) fun w => Wd.IntW n h w
theorem Cmp (x y : Nat) : LF Try.prog 37 [wV x, wV y] (fun _ => .k (.int .i64 (Wd.cmp x y))) none := .of_calls (by kernel_rfl) rfl (ex2 (exact_word x) (exact_word y)) (exact_k _) fun w => Wd.Cmp x y w
end Wo
theorem byte_at (x : Nat) {i : Nat} (h : i < 32) : (limbs x).getD ((31 - i) / 8) default / 2 ^ ((31 - i) % 8 * 8) % 256 = x / 256 ^ (31 - i) % 256 := by
  rw [limbs_get x (by omega), limb_byte _ _ _ (Nat.mod_lt _ (by decide))]
  congr 3
  omega
theorem set_more {i n V b : Nat} (_h : i < n) (hn : i < 32) (hV : V < 256 ^ i) (hb : b < 256) : (limbs V).set (i / 8) ((limbs V).getD (i / 8) default ||| b * 2 ^ (i % 8 * 8) % 2 ^ 64) = limbs (V + b * 256 ^ i) := by
  rw [limbs_get V (by omega)]
  have h : ∀ k, limb (V + b * 256 ^ i) k = _ := limb_set hV hb
  have hq : i / 8 = 0 ∨ i / 8 = 1 ∨ i / 8 = 2 ∨ i / 8 = 3 := by omega
  unfold limbs
  simp only [h]
  rcases hq with e | e | e | e <;> rw [e] <;> rfl
namespace Wo
set_option maxHeartbeats 1000000 in
theorem Bytes (x : Nat) : LF Try.prog 49 [wV x] (fun _ => .a ((wordB x).map bK)) none := by
  have hl := limbs_len x
  refine LFx.mk' tt Try.func49 rfl rfl rfl (by kernel_rfl) rfl rfl fun F => ?_
  refine wk ?_ trueW trueW
  refine LC.loop2 (fun i L => [(1, .p 1 0), (2, .p 2 0), (3, .p 3 0), (6, .k (.int .i64 ((i : Nat) : Int)))]) (fun i L => [(1, .b ((limbs x).map uK)), (2, .b ((List.replicate 32 0).map bK)), (3, .b (L.map bK))]) (fun i L => i ≤ 32 ∧ L = bytesR x i) ((32 - ·)) (0) ((List.replicate 32 0)) ⟨by omega, by unfold bytesR; rfl⟩ ⟨rfl, rfl, rfl, rfl, trivial⟩ ⟨rfl, rfl, rfl, trivial⟩ rfl (by first | exact rfl | (simp only [V.cells, refsE, refsM, V.refs, V.refs.go, V.pure, V.pure.go, pure_mapq, pure_mapb, pure_mapu, refs_mapq, refs_mapb, refs_mapu, refs_append, Bool.and_true, Bool.true_and, Bool.and_self] <;> exact rfl) | (simp only [V.cells, refsE, refsM, V.refs, V.refs.go, V.pure, V.pure.go, pure_mapq, pure_mapb, pure_mapu, refs_mapq, refs_mapb, refs_mapu, refs_append, Bool.and_true, Bool.true_and, Bool.and_self, hrf] <;> exact rfl) | (simp only [V.cells, refsE, refsM, V.refs, V.refs.go, V.pure, V.pure.go, pure_mapq, pure_mapb, pure_mapu, refs_mapq, refs_mapb, refs_mapu, refs_append, Bool.and_true, Bool.true_and, Bool.and_self, hrf, hrg] <;> exact rfl) | exact lz) (by first | exact rfl | (simp only [V.cells, refsE, refsM, V.refs, V.refs.go, V.pure, V.pure.go, pure_mapq, pure_mapb, pure_mapu, refs_mapq, refs_mapb, refs_mapu, refs_append, Bool.and_true, Bool.true_and, Bool.and_self] <;> exact rfl) | (simp only [V.cells, refsE, refsM, V.refs, V.refs.go, V.pure, V.pure.go, pure_mapq, pure_mapb, pure_mapu, refs_mapq, refs_mapb, refs_mapu, refs_append, Bool.and_true, Bool.true_and, Bool.and_self, hrf] <;> exact rfl) | (simp only [V.cells, refsE, refsM, V.refs, V.refs.go, V.pure, V.pure.go, pure_mapq, pure_mapb, pure_mapu, refs_mapq, refs_mapb, refs_mapu, refs_append, Bool.and_true, Bool.true_and, Bool.and_self, hrf, hrg] <;> exact rfl) | exact lz) ?_
  rintro i L ⟨hi, hL⟩
  have hb := bytesR_len x i
  rw [← hL] at hb
  rcases Nat.lt_or_ge i 32 with h | h
  · have hok : i + 1 ≤ 32 ∧ L.set i (UInt8.ofNat ((limbs x).getD ((31 - i) / 8) default / 2 ^ ((31 - i) % 8 * 8))) = bytesR x (i + 1) := ⟨h, by rw [hL]; exact bytesR_set x i h (byte_at x h)⟩
    clear hL
    exact wk trueW trueW trueW
  · obtain rfl : i = 32 := by omega
    have hv1 : V.a (L.map bK) = V.a ((wordB x).map bK) := by rw [hL, bytesR_full]
    clear hL
    exact wk trueW trueW trueW
set_option maxHeartbeats 1000000 in
theorem Read (l : List UInt8) (hn : l.length ≤ 32) : LF Try.prog 50 [.s none (l.map bK)] (fun _ => wV (Ps.beN l)) none := by
  have hmin : (if (32 : Int) < ((l.length : Nat) : Int) then (32 : Int) else ((l.length : Nat) : Int)) = ((l.length : Nat) : Int) := if_neg (by omega)
  refine LFx.mk' tt Try.func50 rfl rfl rfl (by kernel_rfl) rfl rfl fun F => ?_
  refine wk ?_ trueW trueW
  refine LC.loop2 (fun i L => [(0, .s none (l.map bK)), (2, .p 2 0), (3, .p 3 0), (7, .k (.int .i64 ((l.length : Nat) : Int))), (8, .k (.int .i64 ((i : Nat) : Int)))]) (fun i L => [(2, .b ((List.replicate 4 0).map uK)), (3, .b (L.map uK))]) (fun i L => i ≤ l.length ∧ L = limbs (tailN l i)) ((l.length - ·)) (0) ((List.replicate 4 0)) ⟨by omega, by rw [tailN_zero]; unfold limbs; decide⟩ ⟨rfl, rfl, rfl, rfl, rfl, trivial⟩ ⟨rfl, rfl, trivial⟩ rfl (by first | exact rfl | (simp only [V.cells, refsE, refsM, V.refs, V.refs.go, V.pure, V.pure.go, pure_mapq, pure_mapb, pure_mapu, refs_mapq, refs_mapb, refs_mapu, refs_append, Bool.and_true, Bool.true_and, Bool.and_self] <;> exact rfl) | (simp only [V.cells, refsE, refsM, V.refs, V.refs.go, V.pure, V.pure.go, pure_mapq, pure_mapb, pure_mapu, refs_mapq, refs_mapb, refs_mapu, refs_append, Bool.and_true, Bool.true_and, Bool.and_self, hrf] <;> exact rfl) | (simp only [V.cells, refsE, refsM, V.refs, V.refs.go, V.pure, V.pure.go, pure_mapq, pure_mapb, pure_mapu, refs_mapq, refs_mapb, refs_mapu, refs_append, Bool.and_true, Bool.true_and, Bool.and_self, hrf, hrg] <;> exact rfl) | exact lz) (by first | exact rfl | (simp only [V.cells, refsE, refsM, V.refs, V.refs.go, V.pure, V.pure.go, pure_mapq, pure_mapb, pure_mapu, refs_mapq, refs_mapb, refs_mapu, refs_append, Bool.and_true, Bool.true_and, Bool.and_self] <;> exact rfl) | (simp only [V.cells, refsE, refsM, V.refs, V.refs.go, V.pure, V.pure.go, pure_mapq, pure_mapb, pure_mapu, refs_mapq, refs_mapb, refs_mapu, refs_append, Bool.and_true, Bool.true_and, Bool.and_self, hrf] <;> exact rfl) | (simp only [V.cells, refsE, refsM, V.refs, V.refs.go, V.pure, V.pure.go, pure_mapq, pure_mapb, pure_mapu, refs_mapq, refs_mapb, refs_mapu, refs_append, Bool.and_true, Bool.true_and, Bool.and_self, hrf, hrg] <;> exact rfl) | exact lz) ?_
  rintro i L ⟨hi, hL⟩
  have hb : L.length = 4 := by rw [hL, limbs_len]
  rcases Nat.lt_or_ge i l.length with h | h
  · have h1 := limbs_lt (tailN l i) (i / 8)
    rw [← hL] at h1
    have hok : i + 1 ≤ l.length ∧ L.set (i / 8) (L.getD (i / 8) default ||| (l.getD (l.length - 1 - i) default).toNat * 2 ^ (i % 8 * 8) % 2 ^ 64) = limbs (tailN l (i + 1)) := ⟨h, by rw [hL, tailN_succ l h]; exact set_more h (by omega) (tailN_lt l hi) (UInt8.toNat_lt _)⟩
    have h2 := (l.getD (l.length - 1 - i) default).toNat_lt
    clear hL
    exact wk trueW trueW trueW
  · obtain rfl : i = l.length := by omega
    rw [tailN_all] at hL
    subst hL
    exact wk trueW trueW trueW
end Wo
end Lf
end Go.Proofs.Ytgeccggkdgpkiaa

/- Items as bytes: the plain law. What is written is read back whatever follows; what is read was written so. -/
namespace Go.Proofs.Ytgeccggkdgpkiaa
namespace Pk
open Ps
inductive Itm where
  | mk (l : Bool) (t : List UInt8) (ks : List Itm)
  deriving Inhabited
mutual
def Itm.size : Itm → Nat
  | .mk _ t ks => 1 + t.length + Itm.sizeL ks
def Itm.sizeL : List Itm → Nat
  | [] => 0
  | k :: r => k.size + 1 + Itm.sizeL r
end
def numB (n : Nat) (l : List UInt8) : Prop := l.head? ≠ some 0 ∧ beN l = n
/-- The bytes of a number, the greatest first, none for nought. -/
def numL : Nat → List UInt8
  | 0 => []
  | n + 1 => numL ((n + 1) / 256) ++ [UInt8.ofNat ((n + 1) % 256)]
decreasing_by omega
theorem beN_append (l m : List UInt8) : beN (l ++ m) = beN l * 256 ^ m.length + beN m := by
  unfold beN
  rw [show nat8 (l ++ m) = nat8 l ++ nat8 m by simp [nat8], pos_append]
  simp [nat8]
theorem beN_numL : ∀ n, beN (numL n) = n
  | 0 => by rw [numL]; rfl
  | n + 1 => by
    have h : (n + 1) / 256 < n + 1 := by omega
    rw [numL, beN_append, beN_numL ((n + 1) / 256)]
    have : beN [UInt8.ofNat ((n + 1) % 256)] = (n + 1) % 256 := by simp [beN, nat8, pos]
    rw [this]
    simp only [List.length_cons, List.length_nil, Nat.pow_one]
    omega
decreasing_by omega
theorem numL_head : ∀ n, (numL n).head? ≠ some 0
  | 0 => by rw [numL]; simp
  | n + 1 => by
    have h : (n + 1) / 256 < n + 1 := by omega
    rw [numL]
    have ih := numL_head ((n + 1) / 256)
    cases hl : numL ((n + 1) / 256) with
    | nil =>
      have e := beN_numL ((n + 1) / 256)
      rw [hl] at e
      have e0 : beN [] = 0 := rfl
      rw [e0] at e
      intro h0
      simp only [List.nil_append, List.head?_cons, Option.some.injEq] at h0
      have := congrArg UInt8.toNat h0
      simp at this
      omega
    | cons a r => rw [hl] at ih; simpa using ih
decreasing_by omega
theorem numL_uniq {n : Nat} {l : List UInt8} (h : l.head? ≠ some 0) (k : beN l = n) : l = numL n := beN_inj h (numL_head n) (k.trans (beN_numL n).symm)
theorem strip_num {l : List UInt8} {n : Nat} (h : beN l = n) : strip l = numL n := numL_uniq (strip_head l) ((beN_strip l).trans h)
theorem numL_len {n k : Nat} (h : n < 256 ^ k) : (numL n).length ≤ k := by
  rcases Nat.lt_or_ge k (numL n).length with hlt | hge
  · exfalso
    have hh := numL_head n
    have hb := beN_numL n
    cases hl : numL n with
    | nil => rw [hl] at hlt; simp at hlt
    | cons a r =>
      rw [hl] at hh hb hlt
      have ha : a.toNat ≠ 0 := fun e => hh (by simp only [List.head?_cons, Option.some.injEq]; exact UInt8.toNat_inj.1 (by rw [e]; rfl))
      have := pos_ge (B := 256) (a := a.toNat) (l := nat8 r) ha
      have e : pos 256 (a.toNat :: nat8 r) = n := hb
      rw [e] at this
      have hp : 256 ^ k ≤ 256 ^ (nat8 r).length := Nat.pow_le_pow_right (by decide) (by simp [nat8] at hlt ⊢; omega)
      omega
  · exact hge
theorem numL_pos {n : Nat} (h : 0 < n) : 0 < (numL n).length := by
  rcases Nat.eq_zero_or_pos (numL n).length with h0 | h0
  · have e := beN_numL n
    rw [List.eq_nil_of_length_eq_zero h0] at e
    have e0 : beN [] = 0 := rfl
    omega
  · exact h0
def head (base n : Nat) : List UInt8 := if n < 48 then [UInt8.ofNat (base + n)] else UInt8.ofNat (base + 48 + ((numL n).length - 1)) :: numL n
mutual
def enc : Itm → List UInt8
  | .mk false t _ => if t.length = 1 ∧ t.getD 0 default < 128 then t else head 128 t.length ++ t
  | .mk true _ ks => head 192 (encL ks).length ++ encL ks
def encL : List Itm → List UInt8
  | [] => []
  | k :: r => enc k ++ encL r
end
mutual
def nrm : Itm → Itm
  | .mk false t _ => .mk false t []
  | .mk true _ ks => .mk true [] (nrmL ks)
def nrmL : List Itm → List Itm
  | [] => []
  | k :: r => nrm k :: nrmL r
end
mutual
def same : Itm → Itm → Bool
  | .mk l t ks, .mk l' t' ks' => decide (l = l') && (if l = false then decide (t = t') else decide (ks.length = ks'.length) && sameL ks ks')
def sameL : List Itm → List Itm → Bool
  | a :: r, b :: s => same a b && sameL r s
  | [], _ => true
  | _ :: _, [] => true
end
mutual
theorem same_iff : ∀ (a b : Itm), same a b = true ↔ nrm a = nrm b
  | .mk l t ks, .mk l' t' ks' => by
    unfold same
    cases l <;> cases l' <;> simp [nrm]
    rw [sameL_iff]
theorem sameL_iff : ∀ (a b : List Itm), (a.length = b.length ∧ sameL a b = true) ↔ nrmL a = nrmL b
  | [], [] => by simp [sameL, nrmL]
  | [], _ :: _ => by simp [nrmL]
  | _ :: _, [] => by simp [nrmL]
  | a :: r, b :: s => by
    have h1 := same_iff a b
    have h2 := sameL_iff r s
    simp only [List.length_cons, sameL, nrmL, Bool.and_eq_true, List.cons.injEq, ← h1, ← h2]
    constructor
    · rintro ⟨a, b, c⟩; exact ⟨b, by omega, c⟩
    · rintro ⟨a, b, c⟩; exact ⟨by omega, a, c⟩
end
mutual
theorem enc_nrm : ∀ a, enc (nrm a) = enc a
  | .mk false t ks => by simp [nrm, enc]
  | .mk true t ks => by simp [nrm, enc, encL_nrm ks]
theorem encL_nrm : ∀ a, encL (nrmL a) = encL a
  | [] => rfl
  | k :: r => by simp [nrmL, encL, enc_nrm k, encL_nrm r]
end
/-! ### Reading -/
def take? (n : Nat) (l : List UInt8) : Option (List UInt8 × List UInt8) := if n ≤ l.length then some (l.take n, l.drop n) else none
def lenR (c base : Nat) (l : List UInt8) : Option (Nat × List UInt8) :=
  if c < base + 48 then some (c - base, l)
  else match take? (c - base - 48 + 1) l with
    | none => none
    | some (h, r) => if h.head? = some 0 ∨ 8 < h.length then none else if beN h < 48 then none else some (beN h, r)
/-- The part whose length is told ahead. -/
def part (c base : Nat) (l : List UInt8) : Option (List UInt8 × List UInt8) :=
  match lenR c base l with
  | none => none
  | some (n, r) => take? n r
theorem take?_spec {n : Nat} {l a r : List UInt8} (h : take? n l = some (a, r)) : l = a ++ r ∧ a.length = n := by
  unfold take? at h
  split at h
  · cases h
    exact ⟨(List.take_append_drop n l).symm, by simp; omega⟩
  · cases h
theorem take?_app (a r : List UInt8) : take? a.length (a ++ r) = some (a, r) := by simp [take?]
theorem lenR_spec {c base n : Nat} {l r : List UInt8} (h : lenR c base l = some (n, r)) : r.length ≤ l.length := by
  unfold lenR at h
  split at h
  · cases h; exact Nat.le_refl _
  · split at h
    · cases h
    · rename_i h' r' ht
      obtain ⟨rfl, _⟩ := take?_spec ht
      split at h
      · cases h
      · split at h
        · cases h
        · cases h; simp
theorem part_spec {c base : Nat} {l a r : List UInt8} (h : part c base l = some (a, r)) : a.length + r.length ≤ l.length := by
  unfold part at h
  split at h
  · cases h
  · rename_i n r' hl
    have := lenR_spec hl
    obtain ⟨rfl, _⟩ := take?_spec h
    simpa using this
mutual
def rd : List UInt8 → Option (Itm × List UInt8)
  | [] => none
  | c :: l =>
    if c.toNat < 128 then some (.mk false [c] [], l)
    else if c.toNat < 192 then
      match part c.toNat 128 l with
      | none => none
      | some (b, r) => if b.length = 1 ∧ b.getD 0 default < 128 then none else some (.mk false b [], r)
    else match hp : part c.toNat 192 l with
      | none => none
      | some (b, r) =>
        match rdL b with
        | none => none
        | some ks => some (.mk true [] ks, r)
termination_by l => (l.length, 0)
decreasing_by
  have := part_spec hp
  exact Prod.Lex.left _ _ (by simp; omega)
def rdL (b : List UInt8) : Option (List Itm) :=
  if b = [] then some []
  else match rd b with
    | none => none
    | some (k, r) =>
      if r.length < b.length then
        match rdL r with
        | none => none
        | some ks => some (k :: ks)
      else none
termination_by (b.length, 1)
decreasing_by
  · exact Prod.Lex.right _ (by decide)
  · rename_i h; exact Prod.Lex.left _ _ h
end
theorem rd_len {l r : List UInt8} {k : Itm} (h : rd l = some (k, r)) : r.length < l.length := by
  cases l with
  | nil => rw [rd] at h; cases h
  | cons c l =>
    rw [rd] at h
    split at h
    · cases h; simp
    · split at h
      · split at h
        · cases h
        · rename_i b r' hp
          have := part_spec hp
          split at h
          · cases h
          · cases h; simp; omega
      · split at h
        · cases h
        · rename_i b r' hp
          have := part_spec hp
          split at h
          · cases h
          · cases h; simp; omega
theorem rdL_cons {b r : List UInt8} {k : Itm} (h : rd b = some (k, r)) : rdL b = (rdL r).map (k :: ·) := by
  rw [rdL]
  have hl := rd_len h
  have hb : b ≠ [] := fun e => by subst e; simp at hl
  rw [if_neg hb, h]
  simp only [hl, if_true]
  cases rdL r <;> rfl
theorem rdL_none {b : List UInt8} (hb : b ≠ []) (h : rd b = none) : rdL b = none := by
  rw [rdL, if_neg hb, h]
theorem ofNat_toNat {n : Nat} (h : n < 256) : (UInt8.ofNat n).toNat = n := by simp; omega
/-- A head and what it tells of, read back. -/
theorem part_head {base : Nat} {t r : List UInt8} (hb : base + 64 ≤ 256) (ht : t.length < 2 ^ 64) : ∃ c h, head base t.length = c :: h ∧ base ≤ c.toNat ∧ c.toNat < base + 64 ∧ part c.toNat base (h ++ (t ++ r)) = some (t, r) := by
  unfold head
  rcases Nat.lt_or_ge t.length 48 with h | h
  · rw [if_pos h]
    have e := ofNat_toNat (n := base + t.length) (by omega)
    refine ⟨_, _, rfl, by omega, by omega, ?_⟩
    rw [e]
    unfold part lenR
    rw [if_pos (by omega)]
    simp only [List.nil_append, Nat.add_sub_cancel_left]
    exact take?_app t r
  · rw [if_neg (by omega)]
    have h8 : (numL t.length).length ≤ 8 := numL_len (by simpa using ht)
    have h0 := numL_pos (n := t.length) (by omega)
    have e := ofNat_toNat (n := base + 48 + ((numL t.length).length - 1)) (by omega)
    refine ⟨_, _, rfl, by omega, by omega, ?_⟩
    rw [e]
    unfold part lenR
    rw [if_neg (by omega), show base + 48 + ((numL t.length).length - 1) - base - 48 + 1 = (numL t.length).length by omega, take?_app]
    simp only []
    rw [if_neg (by intro hh; rcases hh with hh | hh; exact numL_head _ hh; omega), beN_numL, if_neg (by omega)]
    exact take?_app t r
/-- What is read with a head was written with it. -/
theorem part_uniq {base c : Nat} {l a r : List UInt8} (hc : base ≤ c) (hc2 : c < base + 64) (hb : base + 64 ≤ 256) (h : part c base l = some (a, r)) : UInt8.ofNat c :: l = head base a.length ++ (a ++ r) := by
  unfold part at h
  split at h
  · cases h
  · rename_i n r' hl
    unfold lenR at hl
    split at hl
    · cases hl
      obtain ⟨rfl, hn⟩ := take?_spec h
      unfold head
      rw [if_pos (by omega), show base + a.length = c by omega]
      rfl
    · split at hl
      · cases hl
      · rename_i h' r'' ht
        obtain ⟨rfl, hn'⟩ := take?_spec ht
        split at hl
        · cases hl
        · split at hl
          · cases hl
          · rename_i hz hs
            cases hl
            obtain ⟨rfl, hn⟩ := take?_spec h
            have e : h' = numL a.length := numL_uniq (fun e => hz (.inl e)) hn.symm
            unfold head
            rw [if_neg (by omega), ← e, show base + 48 + (h'.length - 1) = c by omega]
            simp
mutual
theorem rd_enc : ∀ (a : Itm) (r : List UInt8), (enc a).length < 2 ^ 64 → rd (enc a ++ r) = some (nrm a, r)
  | .mk false t ks, r, h => by
    unfold enc at h ⊢
    split
    · rename_i h1
      obtain ⟨h1, h2⟩ := h1
      match t, h1 with
      | [c], _ =>
        have : c.toNat < 128 := h2
        simp only [List.cons_append, List.nil_append]
        rw [rd, if_pos this]
        rfl
    · rename_i h1
      rw [if_neg h1] at h
      obtain ⟨c, hh, e1, e2, e3, e4⟩ := part_head (base := 128) (t := t) (r := r) (by decide) (by simp at h; omega)
      rw [e1, List.cons_append, List.cons_append, List.append_assoc, rd, if_neg (by omega), if_pos (by omega), e4]
      simp only []
      rw [if_neg h1]
      rfl
  | .mk true t ks, r, h => by
    unfold enc at h ⊢
    have hl : (encL ks).length < 2 ^ 64 := by simp at h; omega
    obtain ⟨c, hh, e1, e2, e3, e4⟩ := part_head (base := 192) (t := encL ks) (r := r) (by decide) hl
    have ih := rdL_enc ks hl
    rw [e1, List.cons_append, List.cons_append, List.append_assoc, rd, if_neg (by omega), if_neg (by omega)]
    split
    · rename_i hp; rw [e4] at hp; cases hp
    · rename_i b r' hp
      rw [e4] at hp
      cases hp
      rw [ih]
      rfl
theorem rdL_enc : ∀ (a : List Itm), (encL a).length < 2 ^ 64 → rdL (encL a) = some (nrmL a)
  | [], _ => by rw [rdL]; rfl
  | k :: s, h => by
    unfold encL at h ⊢
    have h1 := rd_enc k (encL s) (by simp at h; omega)
    rw [rdL_cons h1, rdL_enc s (by simp at h; omega)]
    rfl
end
theorem rd_uniq : ∀ (n : Nat), (∀ (l r : List UInt8) (k : Itm), l.length ≤ n → rd l = some (k, r) → l = enc k ++ r ∧ nrm k = k) ∧ (∀ (l : List UInt8) (ks : List Itm), l.length ≤ n → rdL l = some ks → l = encL ks ∧ nrmL ks = ks) := by
  intro n
  induction n with
  | zero =>
    refine ⟨fun l r k hl h => ?_, fun l ks hl h => ?_⟩
    · have := rd_len h; omega
    · have : l = [] := List.eq_nil_of_length_eq_zero (by omega)
      subst this
      rw [rdL] at h
      simp at h
      subst h
      exact ⟨rfl, rfl⟩
  | succ n ih =>
    have key : ∀ (l r : List UInt8) (k : Itm), l.length ≤ n + 1 → rd l = some (k, r) → l = enc k ++ r ∧ nrm k = k := by
      intro l r k hl h
      cases l with
      | nil => rw [rd] at h; cases h
      | cons c l =>
        have hc := c.toNat_lt
        have hcc : UInt8.ofNat c.toNat = c := by simp
        rw [rd] at h
        split at h
        · rename_i h1
          cases h
          refine ⟨?_, rfl⟩
          unfold enc
          rw [if_pos ⟨rfl, h1⟩]
          rfl
        · rename_i h1
          split at h
          · rename_i h2
            split at h
            · cases h
            · rename_i b r' hp
              split at h
              · cases h
              · rename_i h3
                cases h
                refine ⟨?_, rfl⟩
                have := part_uniq (by omega) (by omega) (by decide) hp
                rw [hcc] at this
                unfold enc
                rw [if_neg h3, List.append_assoc]
                exact this
          · rename_i h2
            split at h
            · cases h
            · rename_i b r' hp
              split at h
              · cases h
              · rename_i ks hks
                cases h
                have hps := part_spec hp
                obtain ⟨e1, e2⟩ := ih.2 b ks (by simp at hl; omega) hks
                have := part_uniq (by omega) (by omega) (by decide) hp
                rw [hcc] at this
                unfold enc nrm
                rw [e2, ← e1, List.append_assoc]
                exact ⟨this, rfl⟩
    refine ⟨key, fun l ks hl h => ?_⟩
    rcases Nat.eq_zero_or_pos l.length with h0 | h0
    · have : l = [] := List.eq_nil_of_length_eq_zero h0
      subst this
      rw [rdL] at h
      simp at h
      subst h
      exact ⟨rfl, rfl⟩
    · cases hr : rd l with
      | none =>
        rw [rdL_none (fun e => by subst e; simp at h0) hr] at h; cases h
      | some x =>
        obtain ⟨k, r⟩ := x
        rw [rdL_cons hr] at h
        obtain ⟨ks', hks, rfl⟩ := Option.map_eq_some_iff.1 h
        have hlen := rd_len hr
        obtain ⟨e1, e2⟩ := key l r k hl hr
        obtain ⟨e3, e4⟩ := ih.2 r ks' (by omega) hks
        unfold encL nrmL
        rw [e2, e4, ← e3]
        exact ⟨e1, rfl⟩
/-- The whole is one item. -/
def dec (b : List UInt8) : Option Itm :=
  match rd b with
  | some (k, []) => some k
  | _ => none
theorem dec_enc {a : Itm} (h : (enc a).length < 2 ^ 64) : dec (enc a) = some (nrm a) := by
  have := rd_enc a [] h
  rw [List.append_nil] at this
  unfold dec
  rw [this]
theorem dec_uniq {b : List UInt8} {k : Itm} (h : dec b = some k) : b = enc k := by
  unfold dec at h
  cases hr : rd b with
  | none => rw [hr] at h; cases h
  | some x =>
    obtain ⟨k', r⟩ := x
    rw [hr] at h
    cases r with
    | cons => cases h
    | nil =>
      cases h
      have := ((rd_uniq b.length).1 b [] k (Nat.le_refl _) hr).1
      simpa using this
theorem enc_apart {a b : Itm} (ha : (enc a).length < 2 ^ 64) : same a b = decide (enc a = enc b) := by
  rw [Bool.eq_iff_iff, same_iff, decide_eq_true_eq]
  constructor
  · intro h; rw [← enc_nrm a, ← enc_nrm b, h]
  · intro h
    have h1 := dec_enc ha
    rw [h, dec_enc (by rw [← h]; exact ha)] at h1
    exact (Option.some.inj h1).symm
theorem dec_more {a : Itm} {r : List UInt8} (h : (enc a).length < 2 ^ 64) : (dec (enc a ++ r)).isSome = decide (r = []) := by
  unfold dec
  rw [rd_enc a r h]
  cases r <;> rfl
theorem rd_torn {a : Itm} {n : Nat} (h : (enc a).length < 2 ^ 64) (hn : n < (enc a).length) : rd ((enc a).take n) = none := by
  cases hr : rd ((enc a).take n) with
  | none => rfl
  | some x =>
    exfalso
    obtain ⟨k, r⟩ := x
    obtain ⟨e1, e2⟩ := (rd_uniq ((enc a).take n).length).1 _ _ _ (Nat.le_refl _) hr
    have h1 := rd_enc a [] h
    have hk : (enc k).length ≤ ((enc a).take n).length := by rw [e1]; simp
    have e3 : enc a ++ [] = enc k ++ (r ++ (enc a).drop n) := by rw [List.append_nil, ← List.append_assoc, ← e1, List.take_append_drop]
    rw [e3, rd_enc k _ (by simp at hk; omega)] at h1
    cases hd : (enc a).drop n with
    | nil => have := congrArg List.length hd; simp at this; omega
    | cons x y => rw [hd] at h1; simp at h1
theorem head_len {b n : Nat} (h : n < 2 ^ 64) : (head b n).length ≤ 9 := by
  unfold head
  split
  · simp
  · have := numL_len (n := n) (k := 8) (by simpa using h)
    simp only [List.length_cons]; omega
mutual
theorem enc_len : ∀ a : Itm, a.size < 2 ^ 56 → (enc a).length ≤ 9 * a.size
  | .mk false t ks, h => by
    unfold enc Itm.size at *
    split
    · omega
    · have : (head 128 t.length).length ≤ 9 := head_len (by omega)
      simp only [List.length_append]; omega
  | .mk true t ks, h => by
    unfold enc Itm.size at *
    have := encL_len ks (by omega)
    have h2 : (head 192 (encL ks).length).length ≤ 9 := head_len (by omega)
    simp only [List.length_append]; omega
theorem encL_len : ∀ a : List Itm, Itm.sizeL a < 2 ^ 56 → (encL a).length ≤ 9 * Itm.sizeL a
  | [], _ => by simp [encL]
  | k :: r, h => by
    unfold encL Itm.sizeL at *
    have h1 := enc_len k (by omega)
    have h2 := encL_len r (by omega)
    simp only [List.length_append]; omega
end
attribute [irreducible] head enc encL lenR part
end Pk
end Go.Proofs.Ytgeccggkdgpkiaa

/- A slice held against nil; a fresh row that a call hands back; Clone. -/
namespace Go.Proofs.Ytgeccggkdgpkiaa
open Go.RowKit Rg
namespace Lf
section
variable {P : Program} {F : Fr0} {N : Nat} {Q : LQ} {env : Env} {mem : Mem} {ops : Array Oper} {o : Oper} {rs : List Oper} {d : Nat}
/-- Whether a slice is nil is not told: both ways are walked. -/
theorem LS.eqNil {T Y e : Nat} {x : Operand} {t : Option Nat} {es : List V} (X : TOk P) {ti : TI} (hg : gd ops env o = some true) (hds : o.dst = some d) (ho : o.op = .binOp .eql T x (.const (.slice none 0 0)) Y) (hx : evo env x = some (.s t es)) (hT : aget X.tab T = some ti) (hdt : ti.d = .sl e) (hd : Nat.blt d N = true)
    (h1 : es = [] → LS P F N ops rs Q ((d, .k (.bool true)) :: env) mem) (h2 : LS P F N ops rs Q ((d, .k (.bool false)) :: env) mem) : LS P F N ops (o :: rs) Q env mem := ⟨fun g a w hr => by
  have hu := (X.get hT).sl hdt
  have hgt : P.eqGuardType P.depth T = false := by
    obtain ⟨m, hm⟩ : ∃ m, P.depth = m + 1 := ⟨2 * (P.types.size + Made.depth) + 1, rfl⟩
    rw [hm]
    simp [Program.eqGuardType, hu]
  have hrun : ∀ (ad : Option Addr) (n c : Nat), a.eval x = .slice ad n c → (execOp a.eval o).run P w = .ok (.value (.bool ad.isNone)) w := fun ad n c h => by
    have q1 : (eqGuard .eql T x (.const (.slice none 0 0)) (.slice ad n c) (.slice none 0 0)).run P w = .ok () w := by
      unfold eqGuard
      simp [hgt, program, Sem.run]
    have q2 : (binOp .eql T (.slice ad n c) (.slice none 0 0)).run P w = .ok (.bool ad.isNone) w := by
      have e : Op.equal T (.slice ad n c) (.slice none 0 0) = Op.equalIn (9999 + 1) T (.slice ad n c) (.slice none 0 0) := rfl
      have q3 : (Op.equalIn (9999 + 1) T (.slice ad n c) (.slice none 0 0)).run P w = .ok ad.isNone w := by
        rw [Op.equalIn, Sem.run_bind, run_underlying hu w]
        cases ad <;> rfl
      simp only [binOp, e, Sem.run_bind, q3, Result.andThen_ok]
      rfl
    have hx2 : a.eval (.const (.slice none 0 0)) = .slice none 0 0 := rfl
    simp only [execOp, ho, h, hx2, Sem.run_bind, q1, Result.andThen_ok, q2]
    rfl
  have hdd : dok o.dst N = true := by rw [hds]; exact hd
  have hrep := hr.evo hx
  refine wpList_step fun K hK => ?_
  rw [gd_wanted hr hg, if_pos rfl]
  have go : ∀ b : Bool, (execOp a.eval o).run P w = .ok (.value (.bool b)) w → LS P F N ops rs Q ((d, .k (.bool b)) :: env) mem → o.wp P a w K (liftQ F N Q) := fun b hb hl => by
    unfold Oper.wp
    rw [hb]
    refine hK _ _ (hl.go g _ w ?_)
    have := hr.put (Ev.refl g w) hr.mem hr.kept (Rep.k (w := w) (g := g) (.bool b)) hdd
    rw [hds] at this
    rw [hds]
    exact this
  generalize hv : a.eval x = v at hrep
  cases hrep with
  | s0 => exact go true (hrun _ _ _ hv) (h1 rfl)
  | se => exact go false (hrun _ _ _ hv) h2
  | s => exact go false (hrun _ _ _ hv) h2⟩
end
theorem LM.row1 {P : Program} {f : Nat} {args es : List V} {E sz n k0 : Nat} (hA : ∀ (ρ : Nat → Nat), args.map (V.ren ρ) = args) (h : LM P f args [] fun o m => o = .ret (.s (some k0) es) ∧ m = [(k0, .r E sz n)]) (k : Nat) : LM P f args [] fun o m => o = .ret (.s (some k) es) ∧ m = [(k, .r E sz n)] :=
  LM.gen [k0] [k] (by simp) (by simp) rfl h fun ρ hρ => by
    simp at hρ
    refine ⟨hA _, rfl, ?_, ?_⟩
    · simp [Out.ren, V.ren, hρ]
    · simp [Mem.ren, M.ren, hρ]
/-- A call that hands back a fresh row. -/
theorem DR.cr {P : Program} {N : Nat} {ops : Array Oper} {chk : List (Nat × Tch) → Bool} {K : Env → Mem → Prop} {acc : List (Nat × Tch)} {env : Env} {mem : Mem} {i d : Nat} {o : Oper} {rs : List (Nat × Oper)} {fx E sz n : Nat} {xs : List Operand} {ts : Array Nat} {us args es : List V}
    (ho : o.op = .call { callee := .value (.func fx), args := xs.toArray, argTypes := ts }) (hg : gd ops env o = some true) (hds : o.dst = some d) (hx : evs env xs = some us) (hc : ∀ k, LM P fx args [] fun o m => o = .ret (.s (some k) es) ∧ m = [(k, .r E sz n)]) (hu : Fits us args) (hr : V.refs.go [] args = true) (ht : aget mem d = none) (hd : Nat.blt d N = true)
    (hK : DR P N ops chk K rs ((i, callT [] [(d, .r E sz n)]) :: acc) ((d, .s (some d) es) :: env) ((d, .r E sz n) :: mem)) : DR P N ops chk K ((i, o) :: rs) acc env mem :=
  DR.cm hg hds (Does.callM (hc d) ho hx hu (by rw [hr]; rfl)) ⟨ht, trivial⟩ hd hK
namespace Sl2
theorem CloneBB (es : List V) (hs : ∀ e ∈ es, e.cells.length = 1) (hl : es.length < 1073741824) (k : Nat) : LM Try.prog 23 [.s none es] [] fun o m => o = .ret (.s (some k) es) ∧ m = [(k, .r 28 1 es.length)] := by
  refine LM.row1 (k0 := 5) (fun _ => rfl) ?_ k
  refine LFx.mk' tt Try.func23 rfl rfl rfl (by kernel_rfl) rfl rfl fun F => ?_
  refine LC.seq (LC.region (LS.pp rfl rfl (Does.assign rfl rfl) rfl (LS.nil ?_)))
  refine LC.seq (LC.seq (LC.region (LS.pp rfl rfl (Does.move rfl rfl) rfl (LS.eqNil tt rfl rfl rfl rfl rfl rfl rfl (fun he => LS.nil ?_) (LS.nil ?_)))))
  · subst he
    refine LC.condT rfl (LC.seq (LC.region (LS.pp rfl rfl (Does.assign rfl rfl) rfl (LS.nil ?_))))
    refine LC.nilrow 2 5 28 1 rfl rfl rfl ?_
    exact wk trueW trueW trueW
  · refine LC.condF rfl ?_
    exact wk trueW trueW trueW
end Sl2
end Lf
end Go.Proofs.Ytgeccggkdgpkiaa

/- Room made ahead (append of make onto nil, cut back to nothing): slices.Grow; Concat. -/
namespace Go.Proofs.Ytgeccggkdgpkiaa
open Go.RowKit Rg
namespace Lf
section
variable {P : Program} {o : Oper} {env : Env}
theorem run_appMake {T Tx E ty n : Nat} {kd kx : IntKind} {ei : TI} {w : World} (hu : P.underlying T = some (.slice E)) (hx : P.underlying Tx = some (.int kx)) (hE : TIok P E ei) (hn : 0 < n) (hmax : n ≤ 140737488355328) (hb : n * ei.bytes ≤ 140737488355328) :
    ∃ cs : Array Value, (Builtin.append_ #[T, Tx] ty #[.slice none 0 0, .int kd (n : Int)]).run P w = .ok (.slice (some ⟨w.heap.size, 0, none⟩) n (grownCap w n 0 E)) (w.drew.alloc (.cells cs E)) ∧ cs.size = grownCap w n 0 E * ei.size ∧ n ≤ grownCap w n 0 E ∧ grownCap w n 0 E ≤ maxLen := by
  obtain ⟨i, hi, hsz, hby, z, hz, _, hzs, _⟩ := hE.info
  rw [← hby] at hb
  rw [← hsz] at hzs ⊢
  have hge := grownCap_ge w n 0 E
  have h63 : n ≤ maxLen := by simp only [maxLen]; omega
  have hcm : grownCap w n 0 E ≤ maxLen := grownCap_le_maxLen w n 0 E h63
  have hw : IntKind.i64.wrap (n : Int) = (n : Int) := wrap_i64 (by omega)
  have hfit : Builtin.nextslicecap n 0 * i.bytes ≤ 281474976710656 := by have := growslice_fits (old := 0) (need := n) (by omega) hb; simpa using this
  have h1 : ¬ n = 0 := by omega
  have h2 : ¬ (9223372036854775807 < (n : Int)) := by omega
  have h3 : ¬ (281474976710656 < Builtin.nextslicecap n 0 * i.bytes) := by omega
  have h4 : ¬ (281474976710656 < (n : Int) * (i.bytes : Int)) := by
    have : (n : Int) * (i.bytes : Int) = ((n * i.bytes : Nat) : Int) := by rw [Int.natCast_mul]
    rw [this]; omega
  have h5 : ¬ ((n : Int) < 0) := by omega
  refine ⟨#[] ++ Builtin.zeroCells z.cells n ++ Builtin.zeroCells z.cells (grownCap w n 0 E - n), ?_, ?_, hge, hcm⟩
  · simp [Builtin.append_, run_underlying hu, run_underlying hx, sizeOf, typeInfo, zeroValue, hi, hz, asInt, asIntOf, hw, h1, h2, h3, h4, h5, Question.forced, newRow, grownCap, Builtin.firstCells]
    intro h
    have : Builtin.zeroCells z.cells n = #[] := Array.eq_empty_of_size_eq_zero (by rw [size_zeroCells, hzs]; exact h)
    rw [this]
    simp
  · simp only [Array.size_append, List.size_toArray, List.length_nil, size_zeroCells, hzs, Nat.zero_add, ← Nat.add_mul]
    congr 1
    omega
theorem drew_rel {F : Fr0} {g : Gh} {w : World} {mem : Mem} (h : RelM F g mem w) (hk : Kept F g w) : Ev g w g w.drew ∧ RelM F g mem w.drew ∧ Kept F g w.drew :=
  h.ext hk (Below.refl w.heap.size w).drew (fun _ _ _ => Iff.rfl) rfl rfl fun b o hb => h.fut b o hb
/-- append of so many noughts onto nil: room. -/
theorem Does.appMake {T Tx E i n : Nat} {kd kx : IntKind} {x y : Operand} {z : Int} (X : TOk P) {ti xi ei : TI} (ho : o.op = .call { callee := .builtin .append, args := #[x, y], argTypes := #[T, Tx] }) (hx : evo env x = some .nil) (hy : evo env y = some (.k (.int kd z))) (hz : z = ((n : Nat) : Int)) (hT : aget X.tab T = some ti) (hd : ti.d = .sl E) (hX : aget X.tab Tx = some xi) (hdx : xi.d = .int kx) (hE : aget X.tab E = some ei) (hpos : Nat.blt 0 ei.size = true)
    (hn : 0 < n) (hmax : n ≤ 140737488355328) (hb : n * ei.bytes ≤ 140737488355328) : Does P o env (.w i 0 ei.size 0 n) [(i, none, some (.w E ei.size 0 []))] := by
  subst hz
  refine ⟨fun F g a w mem h1 h2 h3 h4 _ K Q hK => ?_⟩
  have hi := h4 _ _ _ mem_one
  have hrx := h1 x (by simp [ho, Op.operands, Call.operands]) _ hx
  have hry := rep_k (h1 y (by simp [ho, Op.operands, Call.operands]) _ hy)
  have hxe : a.eval x = .slice none 0 0 := by generalize a.eval x = v at hrx; cases hrx; rfl
  obtain ⟨cs, hrun, hcs, hle, hcm⟩ := run_appMake (P := P) (ty := o.type) (kd := kd) (w := w) ((X.get hT).sl hd) ((X.get hX).int hdx) (X.get hE) hn hmax hb
  obtain ⟨d1, d2, d3⟩ := drew_rel h2 h3
  have hpos' : 0 < ei.size := Nat.le_of_ble_eq_true hpos
  have hH : w.drew.heap.size = w.heap.size := rfl
  have hrw : (g.newR i w.drew.heap.size 0 0 (grownCap w n 0 E)).rw i = some (some w.drew.heap.size, 0, grownCap w n 0 E) := by simp [Gh.newR]
  have hown : (w.drew.alloc (.cells cs E)).oRow 0 E ei.size (.slice (some ⟨w.drew.heap.size, 0, none⟩) 0 (grownCap w n 0 E)) 0 [] :=
    ⟨by simp, .inr ⟨w.drew.heap.size, grownCap w n 0 E, cs, _, rfl, Nat.zero_le _, heap_alloc_new w.drew _, Nat.zero_le _, hcm, hcs, by simp, .inl rfl⟩⟩
  obtain ⟨e1, e2, e3⟩ := d2.newR d3 (i := i) (n := 0) (l := 0) (c := grownCap w n 0 E) (m' := .w E ei.size 0 []) (o := .cells cs E) hi (.w hrw ⟨hpos', by simp, ⟨[], hown, by simp⟩, fun b hb o hS => by cases hb; have := hS.2 rfl; omega⟩) fun b o' ⟨l, c', hp'⟩ => by rw [hrw] at hp'; cases hp'; rfl
  unfold Oper.wp
  have hrun' : (execOp a.eval o).run P w = .ok (.value (.slice (some ⟨w.heap.size, 0, none⟩) n (grownCap w n 0 E))) (w.drew.alloc (.cells cs E)) := by
    simp [execOp, ho, resolve, invoke, builtin, hxe, hry, hrun]
  rw [hrun']
  exact hK _ _ _ (d1.trans e1) e2 e3 (.w ⟨_, _, _, hrw, Nat.le_refl _, fun _ => ⟨by omega, by omega, fun _ => by simp [hH]⟩⟩)
/-- Room cut back to nothing: the beginning of a row. -/
theorem Does.cutW0 {T E i n e : Nat} {x : Operand} {hi : Option Operand} {es : List V} (X : TOk P) {ti ei : TI} (ho : o.op = .slice T x none hi none) (hx : evo env x = some (.w i 0 ei.size 0 n)) (hT : aget X.tab T = some ti) (hd : ti.d = .sl e) (hE : aget X.tab e = some ei) (hhi : Bd env n hi 0) :
    Does P o env (.s (some i) []) [(i, some (.w E ei.size 0 es), some (.r E ei.size 0))] := by
  refine ⟨fun F g a w mem h1 h2 h3 h4 _ K Q hK => ?_⟩
  have hi' := h4 _ _ _ mem_one
  have hrx := h1 x (by simp [ho, Op.operands]) _ hx
  have b2 := hhi.val (a := a) (fun y hy u hu => h1 y (by subst hy; simp [ho, Op.operands]) u hu)
  obtain ⟨ao, c, hrw, hB⟩ := h2.buf hi'
  obtain ⟨xs, hown, _⟩ := hB.own
  generalize hv : a.eval x = v at hrx
  cases hrx with
  | @w _ _ _ _ _ _ ad cap h =>
    obtain ⟨a', l, c', k1, k2, k3⟩ := h
    rw [hrw] at k1; cases k1
    obtain ⟨w1, w2, w3⟩ := k3 rfl
    have hcap : cap = c := by omega
    subst hcap
    have had := w3 (.inr rfl)
    simp only [Nat.zero_mul] at had
    have hcut := run_cutG (P := P) (a := ad) (n := n) (cap := cap) ((X.get hT).sl hd) (X.get hE).run_size (.inl ⟨rfl, rfl⟩) b2 (Nat.zero_le _) (Nat.zero_le _) w
    have hres : (if cap = 0 then ad else ad.map (·.add (0 * ei.size))) = ad := by
      split
      · rfl
      · rw [had]; cases ao <;> simp [Addr.add_lit]
    have hown0 : w.oRow 0 E ei.size (.slice (ao.map fun b => ⟨b, 0, none⟩) 0 cap) 0 [] := by
      refine ⟨by simp, ?_⟩
      rcases hown.2 with ⟨hv', _⟩ | ⟨q, cp, cur, fz, hv', hb0, hq, hnc, hcm, hcs, htk, hfz⟩
      · cases ao with
        | none => simp at hv'; exact .inl ⟨by simp [hv'.2], rfl⟩
        | some b => simp at hv'
      · cases ao with
        | none => simp at hv'
        | some b =>
          simp at hv'
          obtain ⟨rfl, rfl⟩ := hv'
          exact .inr ⟨b, cap, cur, fz, rfl, hb0, hq, Nat.zero_le _, hcm, hcs, by simp, hfz⟩
    obtain ⟨k1, k2⟩ := h2.step h3 (i := i) (m' := .r E ei.size 0) (Ev.refl g w) rfl rfl rfl (fun _ _ _ _ => ⟨rfl, rfl, fun h => h⟩) (fun _ _ _ => rfl) (fun _ _ => rfl) (fun _ _ => rfl) (.r hrw ⟨hB.pos, ⟨[], hown0⟩, fun b hb o _ => hB.free b hb o⟩) (fun b o hp => .inl ⟨_, hi', hp⟩) h2.fut
    unfold Oper.wp
    have hrun' : (execOp a.eval o).run P w = .ok (.value (.slice ad 0 cap)) w := by
      rw [hres] at hcut
      simp [execOp, ho, hv, hcut]
    rw [hrun']
    refine hK _ g w (Ev.refl g w) k1 k2 ?_
    have := Rep.row (es := []) (n := 0) (i := i) rfl hB.pos hrw hown0 (fun b hb => ?_) (by simp) (by simp)
    · rw [had]; exact this
    · subst hb; exact ⟨hB.lt rfl, fun o ho => by omega⟩
end
end Lf
end Go.Proofs.Ytgeccggkdgpkiaa

/- Grow from nil, and Concat, of bytes. -/
namespace Go.Proofs.Ytgeccggkdgpkiaa
open Go.RowKit Rg
namespace Lf
theorem Does.capNil {P : Program} {o : Oper} {env : Env} {x : Operand} {T : Nat} {ts : Array Nat} {e : Nat} (X : TOk P) {ti : TI} (ho : o.op = .call { callee := .builtin .cap, args := #[x], argTypes := ts }) (hts : ts[0]? = some T) (hx : evo env x = some .nil) (hT : aget X.tab T = some ti) (hd : ti.d = .sl e) : Does P o env (.k (.int .i64 ((0 : Nat) : Int))) [] :=
  .pure fun F g a w mem hr _ => by
    have hr0 := hr x (by simp [ho, Op.operands, Call.operands]) _ hx
    have hxe : a.eval x = .slice none 0 0 := by generalize a.eval x = v at hr0; cases hr0; rfl
    exact ⟨.int .i64 ((0 : Nat) : Int), by simp [execOp, ho, resolve, invoke, builtin, hxe, Builtin.cap_, hts, run_underlying ((X.get hT).sl hd), goInt], .k _⟩
theorem Does.cutNil {P : Program} {o : Oper} {env : Env} {T e : Nat} {x : Operand} {hi : Option Operand} (X : TOk P) {ti ei : TI} (ho : o.op = .slice T x none hi none) (hx : evo env x = some .nil) (hT : aget X.tab T = some ti) (hd : ti.d = .sl e) (hE : aget X.tab e = some ei) (hhi : Bd env 0 hi 0) : Does P o env .nil [] :=
  .pure fun F g a w mem hr _ => by
    have hr0 := hr x (by simp [ho, Op.operands]) _ hx
    have hxe : a.eval x = .slice none 0 0 := by generalize a.eval x = v at hr0; cases hr0; rfl
    have b2 := hhi.val (a := a) (fun y hy u hu => hr y (by subst hy; simp [ho, Op.operands]) u hu)
    have := run_cutG (P := P) (a := none) (n := 0) (cap := 0) ((X.get hT).sl hd) (X.get hE).run_size (.inl ⟨rfl, rfl⟩) b2 (Nat.zero_le _) (Nat.zero_le _) w
    rw [hxe] at hr0
    refine ⟨.slice none 0 0, ?_, hr0⟩
    simp [execOp, ho, hxe, this]
/-- A contract that hands back nil hands back the beginning of a row. -/
theorem LM.nilrow {P : Program} {f : Nat} {args : List V} (E sz k : Nat) (hp : Nat.blt 0 sz = true) (h : LM P f args [] fun o m => o = .ret .nil ∧ m = []) : LM P f args [] fun o m => o = .ret (.s (some k) []) ∧ m = [(k, .r E sz 0)] :=
  ⟨h.ok, fun g w vals h1 h2 h3 => Calls.mono (h.go g w vals h1 h2 h3) fun e w' ⟨o, mo, g', ⟨ho, hm⟩, hev, hrel, hk, hat⟩ => by
    subst ho; subst hm
    have hown0 : w'.oRow 0 E sz (.slice (Option.map (fun b => (⟨b, 0, none⟩ : Addr)) none) 0 0) 0 [] := oRow_nil w' 0 E sz
    have hgi : (g'.addRow k (none, 0, 0)).rw k = some (none, 0, 0) := by simp [Gh.addRow]
    obtain ⟨he, r2, r3⟩ := hrel.nilRow hk (i := k) (m := .r E sz 0) rfl (.r hgi ⟨Nat.le_of_ble_eq_true hp, ⟨_, hown0⟩, fun _ h => by cases h⟩) fun b o ⟨l, c, hp⟩ => by rw [hgi] at hp; cases hp
    obtain ⟨x, hx, hrep⟩ := hat
    cases hrep
    exact ⟨_, _, _, ⟨rfl, rfl⟩, hev.trans he, r2, r3, ⟨_, hx, .s0 fun r hr' => by cases hr'; exact ⟨none, 0, 0, hgi, Nat.le_refl _, fun _ => .inl rfl⟩⟩⟩⟩
namespace Sl4
set_option maxHeartbeats 1000000 in
theorem GrowB (n : Nat) (hn : n < 1073741824) (k : Nat) : LM Try.prog 42 [.nil, .k (.int .i64 (n : Int))] [] fun o m => o = .ret (.s (some k) []) ∧ m = [(k, .r 5 1 0)] := by
  rcases Nat.eq_zero_or_pos n with h0 | h0
  · subst h0
    refine LM.nilrow _ _ k rfl ?_
    refine LFx.mk' tt Try.func42 rfl rfl rfl (by kernel_rfl) rfl rfl fun F => ?_
    refine wk ?_ trueW trueW
    refine DR.pp rfl rfl (Does.capNil tt rfl rfl rfl rfl rfl) rfl ?_
    exact wk trueW trueW trueW
  · refine LM.row1 (k0 := 22) (fun _ => rfl) ?_ k
    refine LFx.mk' tt Try.func42 rfl rfl rfl (by kernel_rfl) rfl rfl fun F => ?_
    refine wk ?_ trueW trueW
    refine DR.pp rfl rfl (Does.capNil tt rfl rfl rfl rfl rfl) rfl ?_
    refine wk ?_ trueW trueW
    refine DR.pp rfl rfl (Does.capNil tt rfl rfl rfl rfl rfl) rfl ?_
    refine DR.pp rfl rfl (Does.cutNil tt rfl rfl rfl rfl rfl (.some rfl rfl)) rfl ?_
    refine wk ?_ trueW trueW
    refine DR.nn rfl rfl (Does.appMake (n := n) tt rfl rfl rfl rfl rfl rfl rfl rfl rfl rfl h0 (by omega) (by show n * 1 ≤ _; omega)) rfl rfl ?_
    refine wk ?_ trueW trueW
    refine DR.ww rfl rfl (Does.cutW0 tt rfl rfl rfl rfl rfl (.some rfl rfl)) rfl rfl ?_
    exact wk trueW trueW trueW
end Sl4
end Lf
end Go.Proofs.Ytgeccggkdgpkiaa

/- Concat of bytes. -/
namespace Go.Proofs.Ytgeccggkdgpkiaa
open Go.RowKit Rg
namespace Lf
abbrev bV (l : List UInt8) : V := .s none (l.map bK)
theorem flat_take {α : Type} {ls : List (List α)} {i : Nat} (h : i < ls.length) : (ls.take (i + 1)).flatten = (ls.take i).flatten ++ ls.getD i default := by
  rw [List.take_succ_eq_append_getElem h, List.flatten_append]
  simp [List.getD, h]
theorem flat_takeL {α : Type} {ls : List (List α)} {i : Nat} (h : i < ls.length) : (ls.take (i + 1)).flatten.length = (ls.take i).flatten.length + (ls.getD i default).length := by rw [flat_take h, List.length_append]
theorem flat_le {α : Type} {ls : List (List α)} {i : Nat} : (ls.take i).flatten.length ≤ ls.flatten.length := by
  have e : ls = ls.take i ++ ls.drop i := (List.take_append_drop i ls).symm
  have : ls.flatten.length = (ls.take i).flatten.length + (ls.drop i).flatten.length := by
    rw [← List.length_append, ← List.flatten_append, List.take_append_drop]
  omega
namespace Sl5
set_option maxHeartbeats 1000000 in
theorem ConcatB (ls : List (List UInt8)) (h1 : ls.length < 1073741824) (h2 : ls.flatten.length < 1073741824) (k : Nat) : LM Try.prog 21 [.s none (ls.map bV)] [] fun o m => o = .ret (.s (some k) (ls.flatten.map bK)) ∧ m = [(k, .r 5 1 ls.flatten.length)] := by
  refine LM.row1 (k0 := 24) (fun ρ => by simp [V.ren]) ?_ k
  have c1 := Sl4.GrowB ls.flatten.length h2 24
  refine LFx.mk' tt Try.func21 rfl rfl rfl (by kernel_rfl) rfl rfl fun F => ?_
  refine wk ?_ trueW trueW
  refine LC.loopN (fun i => [(0, .s none (ls.map bV)), (2, .nil), (3, .k (.int .i64 (((ls.take i).flatten.length : Nat) : Int))), (9, .s none (ls.map bV)), (10, .k (.int .i64 ((ls.length : Nat) : Int))), (11, .k (.int .i64 ((i : Nat) : Int)))]) (fun i => []) (fun i => i ≤ ls.length) ((ls.length - ·)) (0) (by omega) ⟨rfl, rfl, rfl, rfl, rfl, rfl, trivial⟩ trivial rfl (by first | exact rfl | (simp only [V.cells, refsE, refsM, V.refs, V.refs.go, V.pure, V.pure.go, pure_mapq, pure_mapb, pure_mapu, refs_mapq, refs_mapb, refs_mapu, refs_append, Bool.and_true, Bool.true_and, Bool.and_self] <;> exact rfl) | (simp only [V.cells, refsE, refsM, V.refs, V.refs.go, V.pure, V.pure.go, pure_mapq, pure_mapb, pure_mapu, refs_mapq, refs_mapb, refs_mapu, refs_append, Bool.and_true, Bool.true_and, Bool.and_self, hrf] <;> exact rfl) | (simp only [V.cells, refsE, refsM, V.refs, V.refs.go, V.pure, V.pure.go, pure_mapq, pure_mapb, pure_mapu, refs_mapq, refs_mapb, refs_mapu, refs_append, Bool.and_true, Bool.true_and, Bool.and_self, hrf, hrg] <;> exact rfl) | exact lz) (by first | exact rfl | (simp only [V.cells, refsE, refsM, V.refs, V.refs.go, V.pure, V.pure.go, pure_mapq, pure_mapb, pure_mapu, refs_mapq, refs_mapb, refs_mapu, refs_append, Bool.and_true, Bool.true_and, Bool.and_self] <;> exact rfl) | (simp only [V.cells, refsE, refsM, V.refs, V.refs.go, V.pure, V.pure.go, pure_mapq, pure_mapb, pure_mapu, refs_mapq, refs_mapb, refs_mapu, refs_append, Bool.and_true, Bool.true_and, Bool.and_self, hrf] <;> exact rfl) | (simp only [V.cells, refsE, refsM, V.refs, V.refs.go, V.pure, V.pure.go, pure_mapq, pure_mapb, pure_mapu, refs_mapq, refs_mapb, refs_mapu, refs_append, Bool.and_true, Bool.true_and, Bool.and_self, hrf, hrg] <;> exact rfl) | exact lz) ?_
  intro i hi
  have q1 := flat_le (ls := ls) (i := i)
  rcases Nat.lt_or_ge i ls.length with h3 | h3
  · have hok : i + 1 ≤ ls.length := h3
    have q2 := flat_takeL h3
    have q3 := flat_le (ls := ls) (i := i + 1)
    refine wk ?_ trueW trueW
    rw [← q2]
    exact wk trueW trueW trueW
  · obtain rfl : i = ls.length := by omega
    rw [List.take_length]
    refine wk ?_ trueW trueW
    refine LC.loopN (fun j => [(2, .nil), (6, .s (some 24) ((ls.take j).flatten.map bK)), (25, .s none (ls.map bV)), (26, .k (.int .i64 ((ls.length : Nat) : Int))), (27, .k (.int .i64 ((j : Nat) : Int)))]) (fun j => [(24, .r 5 1 (ls.take j).flatten.length)]) (fun j => j ≤ ls.length) ((ls.length - ·)) (0) (by omega) ⟨rfl, rfl, rfl, rfl, rfl, trivial⟩ ⟨rfl, trivial⟩ rfl (by first | exact rfl | (simp only [V.cells, refsE, refsM, V.refs, V.refs.go, V.pure, V.pure.go, pure_mapq, pure_mapb, pure_mapu, refs_mapq, refs_mapb, refs_mapu, refs_append, Bool.and_true, Bool.true_and, Bool.and_self] <;> exact rfl) | (simp only [V.cells, refsE, refsM, V.refs, V.refs.go, V.pure, V.pure.go, pure_mapq, pure_mapb, pure_mapu, refs_mapq, refs_mapb, refs_mapu, refs_append, Bool.and_true, Bool.true_and, Bool.and_self, hrf] <;> exact rfl) | (simp only [V.cells, refsE, refsM, V.refs, V.refs.go, V.pure, V.pure.go, pure_mapq, pure_mapb, pure_mapu, refs_mapq, refs_mapb, refs_mapu, refs_append, Bool.and_true, Bool.true_and, Bool.and_self, hrf, hrg] <;> exact rfl) | exact lz) (by first | exact rfl | (simp only [V.cells, refsE, refsM, V.refs, V.refs.go, V.pure, V.pure.go, pure_mapq, pure_mapb, pure_mapu, refs_mapq, refs_mapb, refs_mapu, refs_append, Bool.and_true, Bool.true_and, Bool.and_self] <;> exact rfl) | (simp only [V.cells, refsE, refsM, V.refs, V.refs.go, V.pure, V.pure.go, pure_mapq, pure_mapb, pure_mapu, refs_mapq, refs_mapb, refs_mapu, refs_append, Bool.and_true, Bool.true_and, Bool.and_self, hrf] <;> exact rfl) | (simp only [V.cells, refsE, refsM, V.refs, V.refs.go, V.pure, V.pure.go, pure_mapq, pure_mapb, pure_mapu, refs_mapq, refs_mapb, refs_mapu, refs_append, Bool.and_true, Bool.true_and, Bool.and_self, hrf, hrg] <;> exact rfl) | exact lz) ?_
    intro j hj
    have q1 := flat_le (ls := ls) (i := j)
    have q0 : ((ls.take j).flatten.map bK).length = (ls.take j).flatten.length := List.length_map _
    rcases Nat.lt_or_ge j ls.length with h4 | h4
    · have hok : j + 1 ≤ ls.length := h4
      have q2 := flat_takeL h4
      have q4 := flat_take h4
      have q3 := flat_le (ls := ls) (i := j + 1)
      refine wk ?_ trueW trueW
      rw [← q4]
      exact wk trueW trueW trueW
    · obtain rfl : j = ls.length := by omega
      rw [List.take_length]
      exact wk trueW trueW trueW
end Sl5
end Lf
end Go.Proofs.Ytgeccggkdgpkiaa

/- Package pack: numbers, heads. -/
namespace Go.Proofs.Ytgeccggkdgpkiaa
open Go.RowKit Rg Wm Ar
namespace Lf
open Pk
theorem strip_cons (a : UInt8) (r : List UInt8) (h : a = 0) : Ps.strip (a :: r) = Ps.strip r := by subst h; rfl
theorem drop_get {l : List UInt8} {i : Nat} (h : i < l.length) : l.drop i = l.getD i default :: l.drop (i + 1) := by
  rw [List.drop_eq_getElem_cons h, List.getD_eq_getElem?_getD, List.getElem?_eq_getElem h]; rfl
theorem u8_zero {a : UInt8} (h : a.toNat = 0) : a = 0 := UInt8.toNat_inj.1 (by rw [h]; rfl)
namespace Pw
set_option maxHeartbeats 1000000 in
theorem Num (x : Nat) : LF Try.prog 35 [wV x] (fun _ => .s none ((numL (x % M256)).map bK)) none := by
  have c1 := Wo.Bytes x
  have hl := limbs_len x
  have hs := Pk.strip_num (wordB_num x)
  have hb := wordB_len x
  rw [← hs]
  generalize wordB x = B at *
  clear hs
  refine LFx.mk' tt Try.func35 rfl rfl rfl (by kernel_rfl) rfl rfl fun F => ?_
  refine wk ?_ trueW trueW
  refine LC.loop2 (fun i S => [(3, .p 3 0), (4, S)]) (fun i S => [(3, .b (B.map bK))]) (fun i S => Ps.strip (B.drop i) = Ps.strip B ∧ ((i < 32 ∧ S = .sb 3 i (32 - i) (32 - i)) ∨ (i = 32 ∧ S = .s none []))) ((32 - ·)) (0) ((.sb 3 0 (32 - 0) (32 - 0))) ⟨rfl, .inl ⟨by omega, rfl⟩⟩ ⟨rfl, rfl, trivial⟩ ⟨rfl, trivial⟩ rfl (by first | exact rfl | (simp only [V.cells, refsE, refsM, V.refs, V.refs.go, V.pure, V.pure.go, pure_mapq, pure_mapb, pure_mapu, refs_mapq, refs_mapb, refs_mapu, refs_append, Bool.and_true, Bool.true_and, Bool.and_self] <;> exact rfl) | (simp only [V.cells, refsE, refsM, V.refs, V.refs.go, V.pure, V.pure.go, pure_mapq, pure_mapb, pure_mapu, refs_mapq, refs_mapb, refs_mapu, refs_append, Bool.and_true, Bool.true_and, Bool.and_self, hrf] <;> exact rfl) | (simp only [V.cells, refsE, refsM, V.refs, V.refs.go, V.pure, V.pure.go, pure_mapq, pure_mapb, pure_mapu, refs_mapq, refs_mapb, refs_mapu, refs_append, Bool.and_true, Bool.true_and, Bool.and_self, hrf, hrg] <;> exact rfl) | exact lz) (by first | exact rfl | (simp only [V.cells, refsE, refsM, V.refs, V.refs.go, V.pure, V.pure.go, pure_mapq, pure_mapb, pure_mapu, refs_mapq, refs_mapb, refs_mapu, refs_append, Bool.and_true, Bool.true_and, Bool.and_self] <;> exact rfl) | (simp only [V.cells, refsE, refsM, V.refs, V.refs.go, V.pure, V.pure.go, pure_mapq, pure_mapb, pure_mapu, refs_mapq, refs_mapb, refs_mapu, refs_append, Bool.and_true, Bool.true_and, Bool.and_self, hrf] <;> exact rfl) | (simp only [V.cells, refsE, refsM, V.refs, V.refs.go, V.pure, V.pure.go, pure_mapq, pure_mapb, pure_mapu, refs_mapq, refs_mapb, refs_mapu, refs_append, Bool.and_true, Bool.true_and, Bool.and_self, hrf, hrg] <;> exact rfl) | exact lz) ?_
  rintro i S ⟨hstr, ⟨h, rfl⟩ | ⟨rfl, rfl⟩⟩
  · have hd := drop_get (l := B) (i := i) (by omega)
    by_cases hz : (B.getD i default).toNat = 0
    · have hz2 : ((B.getD (i + 0) default).toNat : Int) = 0 := by rw [Nat.add_zero, hz]; rfl
      have hs2 : Ps.strip (B.drop (i + 1)) = Ps.strip B := by rw [← hstr, hd, strip_cons _ _ (u8_zero hz)]
      clear hd
      rcases Nat.lt_or_ge i 31 with h31 | h31
      · have hok : Ps.strip (B.drop (i + 1)) = Ps.strip B ∧ ((i + 1 < 32 ∧ V.sb 3 (i + 1) (32 - (i + 1)) (32 - (i + 1)) = .sb 3 (i + 1) (32 - (i + 1)) (32 - (i + 1))) ∨ (i + 1 = 32 ∧ V.sb 3 (i + 1) (32 - (i + 1)) (32 - (i + 1)) = .s none [])) := ⟨hs2, .inl ⟨by omega, rfl⟩⟩
        exact wk trueW trueW trueW
      · obtain rfl : i = 31 := by omega
        have hok : Ps.strip (B.drop 32) = Ps.strip B ∧ ((32 < 32 ∧ V.s none [] = .sb 3 32 (32 - 32) (32 - 32)) ∨ (32 = 32 ∧ V.s none [] = .s none [])) := ⟨hs2, .inr ⟨rfl, rfl⟩⟩
        exact wk trueW trueW trueW
    · have hz2 : ¬ ((B.getD (i + 0) default).toNat : Int) = 0 := by rw [Nat.add_zero]; omega
      have hv1 : V.s none (((B.drop i).take (32 - i)).map bK) = V.s none ((Ps.strip B).map bK) := by
        rw [← hstr, Ps.strip_id (l := B.drop i) (by rw [hd]; intro e; simp only [List.head?_cons, Option.some.injEq] at e; rw [e] at hz; exact hz rfl), List.take_of_length_le (by rw [List.length_drop]; omega)]
      clear hd hstr
      have hn : ((B.drop i).take (32 - i)).length = 32 - i := by rw [List.length_take, List.length_drop]; omega
      exact wk trueW trueW trueW
  · have hv1 : V.s none [] = V.s none ((Ps.strip B).map bK) := by
      rw [← hstr, List.drop_of_length_le (by omega)]; rfl
    clear hstr
    exact wk trueW trueW trueW
end Pw
end Lf
end Go.Proofs.Ytgeccggkdgpkiaa

/- Package pack: ToNum, heads, Encode; items held against each other. -/
namespace Go.Proofs.Ytgeccggkdgpkiaa
open Go.RowKit Rg Wm Ar
namespace Lf
open Pk
mutual
def itC : Itm → List V
  | .mk l t ks => [.k (.bool l), bV t, .s none (itL ks)]
def itL : List Itm → List V
  | [] => []
  | k :: r => .a (itC k) :: itL r
end
abbrev itV (x : Itm) : V := .a (itC x)
theorem itL_map : ∀ ks : List Itm, itL ks = ks.map itV
  | [] => rfl
  | k :: r => by rw [itL, itL_map r]; rfl
theorem itC_eq (l : Bool) (t : List UInt8) (ks : List Itm) : itC (.mk l t ks) = [.k (.bool l), bV t, .s none (ks.map itV)] := by rw [itC, itL_map]
theorem itC_len (x : Itm) : (itC x).length = 3 := by obtain ⟨l, t, ks⟩ := x; rw [itC_eq]; rfl
theorem itC_refs (m : Mem) (x : Itm) : V.refs.go m (itC x) = true := by obtain ⟨l, t, ks⟩ := x; rw [itC_eq]; rfl
theorem itC_bare (x : Itm) : (itV x).bare = some (itV x) := by obtain ⟨l, t, ks⟩ := x; simp only [itV, itC_eq]; rfl
theorem itC_cv (x : Itm) (keep : Nat → Bool) (nn : Bool) : V.cv.go keep nn (itC x) = itC x := by obtain ⟨l, t, ks⟩ := x; rw [itC_eq]; simp [V.cv.go, V.cv]
theorem sizeL_take {ks : List Itm} {i : Nat} (h : i < ks.length) : Itm.sizeL (ks.take (i + 1)) = Itm.sizeL (ks.take i) + ((ks.getD i default).size + 1) := by
  rw [List.take_succ_eq_append_getElem h]
  have : ∀ (a b : List Itm), Itm.sizeL (a ++ b) = Itm.sizeL a + Itm.sizeL b := by
    intro a b
    induction a with
    | nil => simp [Itm.sizeL]
    | cons k r ih => simp only [List.cons_append, Itm.sizeL, ih]; omega
  rw [this, List.getD_eq_getElem?_getD, List.getElem?_eq_getElem h]
  simp [Itm.sizeL]
theorem sizeL_mem {ks : List Itm} {k : Itm} (h : k ∈ ks) : k.size < Itm.sizeL ks := by
  induction ks with
  | nil => cases h
  | cons a r ih =>
    simp only [Itm.sizeL]
    rcases List.mem_cons.1 h with rfl | h
    · omega
    · have := ih h; omega
theorem encL_take {ks : List Itm} {i : Nat} (h : i < ks.length) : encL (ks.take (i + 1)) = encL (ks.take i) ++ enc (ks.getD i default) := by
  rw [List.take_succ_eq_append_getElem h]
  have : ∀ (a b : List Itm), encL (a ++ b) = encL a ++ encL b := by
    intro a b
    induction a with
    | nil => simp [encL]
    | cons k r ih => simp only [List.cons_append, encL, ih, List.append_assoc]
  rw [this, List.getD_eq_getElem?_getD, List.getElem?_eq_getElem h]
  simp [encL]
theorem encL_take_le (ks : List Itm) (i : Nat) : (encL (ks.take i)).length ≤ (encL ks).length := by
  have : ∀ (a b : List Itm), encL (a ++ b) = encL a ++ encL b := by
    intro a b
    induction a with
    | nil => simp [encL]
    | cons k r ih => simp only [List.cons_append, encL, ih, List.append_assoc]
  have h2 := this (ks.take i) (ks.drop i)
  rw [List.take_append_drop] at h2
  rw [h2, List.length_append]
  omega
attribute [irreducible] itC
namespace Pw
set_option maxHeartbeats 1000000 in
theorem ToNum_ok (l : List UInt8) (h1 : l.length ≤ 32) (h2 : l.head? ≠ some 0) : LF Try.prog 36 [bV l] (fun _ => .t [wV (Ps.beN l), .k (.int .i64 0)]) none := by
  have c1 := Wo.Read l h1
  have hz : 0 < l.length → ¬ ((l.getD 0 default).toNat : Int) = 0 := fun h0 e => by
    cases l with
    | nil => simp at h0
    | cons a r => exact h2 (by simp only [List.head?_cons, Option.some.injEq]; exact u8_zero (by simpa using e))
  have hl := limbs_len (Ps.beN l)
  rcases Nat.eq_zero_or_pos l.length with h0 | h0
  · clear hz
    refine LFx.mk' tt Try.func36 rfl rfl rfl (by kernel_rfl) rfl rfl fun F => ?_
    exact wk trueW trueW trueW
  · have hz2 := hz h0
    clear hz
    refine LFx.mk' tt Try.func36 rfl rfl rfl (by kernel_rfl) rfl rfl fun F => ?_
    exact wk trueW trueW trueW
set_option maxHeartbeats 1000000 in
theorem ToNum_no (l : List UInt8) (h : 32 < l.length ∨ l.head? = some 0) (hm : l.length < 1073741824) : LF Try.prog 36 [bV l] (fun _ => .t [.a ((List.replicate 4 0).map uK), .k (.int .i64 1)]) none := by
  rcases Nat.lt_or_ge 32 l.length with h1 | h1
  · clear h
    refine LFx.mk' tt Try.func36 rfl rfl rfl (by kernel_rfl) rfl rfl fun F => ?_
    exact wk trueW trueW trueW
  · have h0 : 0 < l.length := by
      rcases h with h | h
      · omega
      · cases l with
        | nil => cases h
        | cons a r => simp
    have hz : ((l.getD 0 default).toNat : Int) = 0 := by
      rcases h with h | h
      · omega
      · cases l with
        | nil => cases h
        | cons a r => simp only [List.head?_cons, Option.some.injEq] at h; subst h; rfl
    clear h
    refine LFx.mk' tt Try.func36 rfl rfl rfl (by kernel_rfl) rfl rfl fun F => ?_
    exact wk trueW trueW trueW
theorem head_lt (b n : Nat) (h : n < 1073741824) : (numL n).length ≤ 4 := numL_len (by simpa using (by omega : n < 4294967296))
set_option maxHeartbeats 1000000 in
theorem head (b : UInt8) (hb : b.toNat = 128 ∨ b.toNat = 192) (n : Nat) (hn : n < 1073741824) (k : Nat) : LM Try.prog 46 [bK b, .k (.int .i64 (n : Int))] [] fun o m => o = .ret (.s (some k) ((Pk.head b.toNat n).map bK)) ∧ m = [(k, .r 5 1 (Pk.head b.toNat n).length)] := by
  have e : Pk.head b.toNat n = if n < 48 then [UInt8.ofNat (b.toNat + n)] else UInt8.ofNat (b.toNat + 48 + ((numL n).length - 1)) :: numL n := by unfold Pk.head; rfl
  rcases Nat.lt_or_ge n 48 with h | h
  · rw [if_pos h] at e
    rw [e]
    have hx : IntKind.u8.wrap ((b.toNat : Int) + (n : Int)) = ((UInt8.ofNat (b.toNat + n)).toNat : Int) := by rw [wrap_u8 (by omega), Pk.ofNat_toNat (by omega)]; omega
    generalize UInt8.ofNat (b.toNat + n) = y at *
    refine LM.row1 (k0 := 12) (fun ρ => by simp [V.ren, bK]) ?_ k
    clear e
    refine LFx.mk' tt Try.func46 rfl rfl rfl (by kernel_rfl) rfl rfl fun F => ?_
    exact wk trueW trueW trueW
  · rw [if_neg (by omega)] at e
    have hn4 := head_lt 0 n hn
    have hp := numL_pos (n := n) (by omega)
    have hx : IntKind.u8.wrap ((b.toNat : Int) + 48 + (((numL n).length - 1 : Nat) : Int)) = ((UInt8.ofNat (b.toNat + 48 + ((numL n).length - 1))).toNat : Int) := by rw [wrap_u8 (by omega), Pk.ofNat_toNat (by omega)]; omega
    have c1 := Wo.IntW n (by unfold m64; omega)
    have c2 := Num n
    rw [Nat.mod_eq_of_lt (show n < M256 by unfold M256 m64; omega)] at c2
    rw [e]
    clear e
    generalize UInt8.ofNat (b.toNat + 48 + ((numL n).length - 1)) = y at *
    generalize numL n = L at *
    refine LM.row1 (k0 := 24) (fun ρ => by simp [V.ren, bK]) ?_ k
    refine LFx.mk' tt Try.func46 rfl rfl rfl (by kernel_rfl) rfl rfl fun F => ?_
    exact wk trueW trueW trueW
end Pw
end Lf
end Go.Proofs.Ytgeccggkdgpkiaa

/- Package pack: Encode; items held against each other. -/
namespace Go.Proofs.Ytgeccggkdgpkiaa
open Go.RowKit Rg Wm Ar
set_option maxRecDepth 100000
namespace Lf
open Pk
theorem sameL_get : ∀ {a b : List Itm}, a.length = b.length → (sameL a b = true ↔ ∀ i, i < a.length → same (a.getD i default) (b.getD i default) = true)
  | [], [], _ => by simp [sameL]
  | x :: r, y :: s, h => by
    have ih := sameL_get (a := r) (b := s) (by simpa using h)
    rw [sameL, Bool.and_eq_true, ih]
    constructor
    · rintro ⟨h1, h2⟩ i hi
      cases i with
      | zero => exact h1
      | succ i => exact h2 i (by simpa using hi)
    · intro h1
      exact ⟨h1 0 (by simp), fun i hi => h1 (i + 1) (by simpa using hi)⟩
  | [], _ :: _, h => by simp at h
  | _ :: _, [], h => by simp at h
theorem sizeL_len (ks : List Itm) : ks.length ≤ Itm.sizeL ks := by
  induction ks with
  | nil => simp
  | cons a r ih => simp only [List.length_cons, Itm.sizeL]; omega
theorem getD_mem {ks : List Itm} {i : Nat} (h : i < ks.length) : ks.getD i default ∈ ks := by
  rw [List.getD_eq_getElem?_getD, List.getElem?_eq_getElem h]; exact List.getElem_mem h
namespace Pw
set_option maxHeartbeats 2000000 in
theorem Encode : ∀ (n : Nat) (x : Itm), x.size ≤ n → n < 100000000 → LF Try.prog 32 [itV x] (fun _ => .s none ((enc x).map bK)) none := by
  intro n
  induction n with
  | zero => intro x hx; obtain ⟨l, t, ks⟩ := x; simp only [Itm.size] at hx; omega
  | succ n ih =>
    intro x hx hn
    have hlen := enc_len x (by omega)
    obtain ⟨l, t, ks⟩ := x
    simp only [Itm.size] at hx hlen
    simp only [itV, itC_eq]
    cases l with
    | false =>
      by_cases hc : t.length = 1 ∧ t.getD 0 default < 128
      · have e : enc (.mk false t ks) = t := by unfold enc; rw [if_pos hc]
        rw [e]
        obtain ⟨h1, h2⟩ := hc
        have h3 : ((t.getD 0 default).toNat : Int) < 128 := by have : (t.getD 0 default).toNat < 128 := h2; omega
        have hv : V.s none [bK (t.getD 0 default)] = V.s none (t.map bK) := by
          match t, h1 with
          | [c], _ => rfl
        clear h2 hlen e
        refine LFx.mk' tt Try.func32 rfl rfl rfl (by kernel_rfl) rfl rfl fun F => ?_
        exact wk trueW trueW trueW
      · have e : enc (.mk false t ks) = Pk.head 128 t.length ++ t := by unfold enc; rw [if_neg hc]
        rw [e] at hlen ⊢
        rw [List.length_append] at hlen
        have c1 := head 128 (.inl rfl) t.length (by omega) 28
        rw [show (128 : UInt8).toNat = 128 from rfl] at c1
        generalize Pk.head 128 t.length = H at *
        clear e
        by_cases h1 : t.length = 1
        · have h3 : ¬ ((t.getD 0 default).toNat : Int) < 128 := fun h => hc ⟨h1, (show (t.getD 0 default).toNat < 128 by omega)⟩
          clear hc
          refine LFx.mk' tt Try.func32 rfl rfl rfl (by kernel_rfl) rfl rfl fun F => ?_
          exact wk trueW trueW trueW
        · clear hc
          refine LFx.mk' tt Try.func32 rfl rfl rfl (by kernel_rfl) rfl rfl fun F => ?_
          exact wk trueW trueW trueW
    | true =>
      have e : enc (.mk true t ks) = Pk.head 192 (encL ks).length ++ encL ks := by unfold enc; rfl
      rw [e] at hlen ⊢
      rw [List.length_append] at hlen
      have c2 := head 192 (.inr rfl) (encL ks).length (by omega) 46
      rw [show (192 : UInt8).toNat = 192 from rfl] at c2
      generalize Pk.head 192 (encL ks).length = H at *
      clear e
      have hkl := sizeL_len ks
      refine LFx.mk' tt Try.func32 rfl rfl rfl (by kernel_rfl) rfl rfl fun F => ?_
      refine wk ?_ trueW trueW
      refine LC.nilrow 3 3 5 1 rfl rfl rfl ?_
      refine LC.loop2 (fun i S => [(1, .p 1 0), (3, .s (some 3) (S.map bK)), (33, .s none (ks.map itV)), (34, .k (.int .i64 ((ks.length : Nat) : Int))), (35, .k (.int .i64 ((i : Nat) : Int)))]) (fun i S => [(1, .b [.k (.bool true), bV t, .s none (ks.map itV)]), (3, .r 5 1 S.length)]) (fun i S => i ≤ ks.length ∧ S = encL (ks.take i)) ((ks.length - ·)) (0) ([]) ⟨by omega, by rw [List.take_zero]; unfold encL; rfl⟩ ⟨rfl, rfl, rfl, rfl, rfl, trivial⟩ ⟨rfl, rfl, trivial⟩ rfl (by first | exact rfl | (simp only [V.cells, refsE, refsM, V.refs, V.refs.go, V.pure, V.pure.go, pure_mapq, pure_mapb, pure_mapu, refs_mapq, refs_mapb, refs_mapu, refs_append, Bool.and_true, Bool.true_and, Bool.and_self] <;> exact rfl) | (simp only [V.cells, refsE, refsM, V.refs, V.refs.go, V.pure, V.pure.go, pure_mapq, pure_mapb, pure_mapu, refs_mapq, refs_mapb, refs_mapu, refs_append, Bool.and_true, Bool.true_and, Bool.and_self, hrf] <;> exact rfl) | (simp only [V.cells, refsE, refsM, V.refs, V.refs.go, V.pure, V.pure.go, pure_mapq, pure_mapb, pure_mapu, refs_mapq, refs_mapb, refs_mapu, refs_append, Bool.and_true, Bool.true_and, Bool.and_self, hrf, hrg] <;> exact rfl) | exact lz) (by first | exact rfl | (simp only [V.cells, refsE, refsM, V.refs, V.refs.go, V.pure, V.pure.go, pure_mapq, pure_mapb, pure_mapu, refs_mapq, refs_mapb, refs_mapu, refs_append, Bool.and_true, Bool.true_and, Bool.and_self] <;> exact rfl) | (simp only [V.cells, refsE, refsM, V.refs, V.refs.go, V.pure, V.pure.go, pure_mapq, pure_mapb, pure_mapu, refs_mapq, refs_mapb, refs_mapu, refs_append, Bool.and_true, Bool.true_and, Bool.and_self, hrf] <;> exact rfl) | (simp only [V.cells, refsE, refsM, V.refs, V.refs.go, V.pure, V.pure.go, pure_mapq, pure_mapb, pure_mapu, refs_mapq, refs_mapb, refs_mapu, refs_append, Bool.and_true, Bool.true_and, Bool.and_self, hrf, hrg] <;> exact rfl) | exact lz) ?_
      rintro i S ⟨hi, hS⟩
      have hSl := encL_take_le ks i
      rw [← hS] at hSl
      rcases Nat.lt_or_ge i ks.length with h | h
      · have hm := sizeL_mem (getD_mem h)
        have c1 := ih (ks.getD i default) (by omega) (by omega)
        have hk3 := itC_len (ks.getD i default)
        have hE := encL_take h
        rw [← hS] at hE
        have hSl2 := encL_take_le ks (i + 1)
        rw [hE, List.length_append] at hSl2
        have hok : i + 1 ≤ ks.length ∧ S ++ enc (ks.getD i default) = encL (ks.take (i + 1)) := ⟨h, hE.symm⟩
        have hrf := itC_refs
        clear ih hS hE
        exact wk trueW trueW trueW
      · obtain rfl : i = ks.length := by omega
        rw [List.take_length] at hS
        subst hS
        clear ih
        exact wk trueW trueW trueW
set_option maxHeartbeats 2000000 in
theorem SameItem : ∀ (n : Nat) (x y : Itm), x.size ≤ n → n < 100000000 → y.size < 100000000 → LF Try.prog 31 [itV x, itV y] (fun _ => .k (.bool (same x y))) none := by
  intro n
  induction n with
  | zero => intro x y hx; obtain ⟨l, t, ks⟩ := x; simp only [Itm.size] at hx; omega
  | succ n ih =>
    intro x y hx hn hy
    obtain ⟨l, t, ks⟩ := x
    obtain ⟨l', t', ks'⟩ := y
    simp only [Itm.size] at hx hy
    simp only [itV, itC_eq]
    have hkl := sizeL_len ks
    have hkl' := sizeL_len ks'
    have e : same (.mk l t ks) (.mk l' t' ks') = (decide (l = l') && (if l = false then decide (t = t') else decide (ks.length = ks'.length) && sameL ks ks')) := by rw [same]
    rw [e]
    clear e
    cases l <;> cases l'
    · simp only [decide_true, Bool.true_and, if_true]
      have hs : arithS .eql ⟨t.toArray⟩ ⟨t'.toArray⟩ = some (.bool (decide (t = t'))) := by
        simp only [arithS, ByteArray.toList_mk]
        by_cases h : t = t'
        · subst h; simp
        · simp [h]
      clear ih
      refine LFx.mk' tt Try.func31 rfl rfl rfl (by kernel_rfl) rfl rfl fun F => ?_
      exact wk trueW trueW trueW
    · clear ih
      refine LFx.mk' tt Try.func31 rfl rfl rfl (by kernel_rfl) rfl rfl fun F => ?_
      exact wk trueW trueW trueW
    · clear ih
      refine LFx.mk' tt Try.func31 rfl rfl rfl (by kernel_rfl) rfl rfl fun F => ?_
      exact wk trueW trueW trueW
    · simp only [decide_true, Bool.true_and, Bool.true_eq_false, if_false]
      by_cases hl : ks.length = ks'.length
      · rw [show decide (ks.length = ks'.length) = true from decide_eq_true hl, Bool.true_and]
        have hg := sameL_get hl
        refine LFx.mk' tt Try.func31 rfl rfl rfl (by kernel_rfl) rfl rfl fun F => ?_
        refine wk ?_ trueW trueW
        refine LC.loopN (fun i => [(2, .p 2 0), (3, .p 3 0), (30, .k (.int .i64 ((ks.length : Nat) : Int))), (31, .k (.int .i64 ((i : Nat) : Int)))]) (fun i => [(2, .b [.k (.bool true), bV t, .s none (ks.map itV)]), (3, .b [.k (.bool true), bV t', .s none (ks'.map itV)])]) (fun i => i ≤ ks.length ∧ ∀ j, j < i → same (ks.getD j default) (ks'.getD j default) = true) ((ks.length - ·)) (0) ⟨by omega, fun j hj => by omega⟩ ⟨rfl, rfl, rfl, rfl, trivial⟩ ⟨rfl, rfl, trivial⟩ rfl (by first | exact rfl | (simp only [V.cells, refsE, refsM, V.refs, V.refs.go, V.pure, V.pure.go, pure_mapq, pure_mapb, pure_mapu, refs_mapq, refs_mapb, refs_mapu, refs_append, Bool.and_true, Bool.true_and, Bool.and_self] <;> exact rfl) | (simp only [V.cells, refsE, refsM, V.refs, V.refs.go, V.pure, V.pure.go, pure_mapq, pure_mapb, pure_mapu, refs_mapq, refs_mapb, refs_mapu, refs_append, Bool.and_true, Bool.true_and, Bool.and_self, hrf] <;> exact rfl) | (simp only [V.cells, refsE, refsM, V.refs, V.refs.go, V.pure, V.pure.go, pure_mapq, pure_mapb, pure_mapu, refs_mapq, refs_mapb, refs_mapu, refs_append, Bool.and_true, Bool.true_and, Bool.and_self, hrf, hrg] <;> exact rfl) | exact lz) (by first | exact rfl | (simp only [V.cells, refsE, refsM, V.refs, V.refs.go, V.pure, V.pure.go, pure_mapq, pure_mapb, pure_mapu, refs_mapq, refs_mapb, refs_mapu, refs_append, Bool.and_true, Bool.true_and, Bool.and_self] <;> exact rfl) | (simp only [V.cells, refsE, refsM, V.refs, V.refs.go, V.pure, V.pure.go, pure_mapq, pure_mapb, pure_mapu, refs_mapq, refs_mapb, refs_mapu, refs_append, Bool.and_true, Bool.true_and, Bool.and_self, hrf] <;> exact rfl) | (simp only [V.cells, refsE, refsM, V.refs, V.refs.go, V.pure, V.pure.go, pure_mapq, pure_mapb, pure_mapu, refs_mapq, refs_mapb, refs_mapu, refs_append, Bool.and_true, Bool.true_and, Bool.and_self, hrf, hrg] <;> exact rfl) | exact lz) ?_
        rintro i ⟨hi, hall⟩
        rcases Nat.lt_or_ge i ks.length with h | h
        · have h' : i < ks'.length := by omega
          have hm := sizeL_mem (getD_mem h)
          have hm' := sizeL_mem (getD_mem h')
          have c1 := ih (ks.getD i default) (ks'.getD i default) (by omega) (by omega) (by omega)
          have hk3 := itC_len (ks.getD i default)
          have hk4 := itC_len (ks'.getD i default)
          have hrf := itC_refs
          by_cases hsm : same (ks.getD i default) (ks'.getD i default) = true
          · have hok : i + 1 ≤ ks.length ∧ ∀ j, j < i + 1 → same (ks.getD j default) (ks'.getD j default) = true := ⟨h, fun j hj => by
              by_cases e : j = i
              · subst e; exact hsm
              · exact hall j (by omega)⟩
            rw [hsm] at c1
            clear ih hg hall hsm
            exact wk trueW trueW trueW
          · have hF : sameL ks ks' = false := by rw [← Bool.not_eq_true]; exact fun hh => hsm (hg.1 hh i h)
            rw [show same (ks.getD i default) (ks'.getD i default) = false by simpa using hsm] at c1
            have hv : V.k (.bool false) = V.k (.bool (sameL ks ks')) := by rw [hF]
            clear ih hg hall hsm hF
            exact wk trueW trueW trueW
        · obtain rfl : i = ks.length := by omega
          have hT : sameL ks ks' = true := hg.2 hall
          have hv : V.k (.bool true) = V.k (.bool (sameL ks ks')) := by rw [hT]
          clear ih hg hall hT
          exact wk trueW trueW trueW
      · rw [show decide (ks.length = ks'.length) = false from decide_eq_false hl, Bool.false_and]
        clear ih
        refine LFx.mk' tt Try.func31 rfl rfl rfl (by kernel_rfl) rfl rfl fun F => ?_
        exact wk trueW trueW trueW
end Pw
end Lf
end Go.Proofs.Ytgeccggkdgpkiaa

/- Package pack: the reader. -/
namespace Go.Proofs.Ytgeccggkdgpkiaa
open Go.RowKit Rg Wm Ar
set_option maxRecDepth 100000
namespace Lf
open Pk
abbrev misV : V := .i 80 (.a [])
namespace Pw
set_option maxHeartbeats 1000000 in
theorem take_ok (l : List UInt8) (n : Nat) (hn : n ≤ l.length) (hl : l.length < 1073741824) (i : Nat) : LM Try.prog 53 [.p i 0, uK n] [(i, .b [bV l])] fun o m => o = .ret (bV (l.take n)) ∧ m = [(i, .b [bV (l.drop n)])] := by
  refine LM.box1 (fun k => [.p k 0, uK n]) (fun _ _ => rfl) rfl rfl rfl ?_ i
  refine LM.enter tt Try.func53 rfl rfl rfl (by kernel_rfl) rfl rfl rfl (fun o mo h => by rw [h.2]; rfl) fun F _ => ?_
  exact wk trueW trueW trueW
theorem LM.box1P {P : Program} {f : Nat} (A : Nat → List V) {cs cs' : List V} {v : V} (hA : ∀ (ρ : Nat → Nat) k, (A k).map (V.ren ρ) = A (ρ k)) (h1 : V.refs.go [] cs = true) (h2 : V.refs.go [] cs' = true) (hv : v.refs [] = true)
    (h : LM P f (A 1000) [(1000, .b cs)] fun o m => o = .pan v ∧ m = [(1000, .b cs')]) (i : Nat) : LM P f (A i) [(i, .b cs)] fun o m => o = .pan v ∧ m = [(i, .b cs')] :=
  LM.gen [1000] [i] (by simp) (by simp) rfl h fun ρ hρ => by
    simp at hρ
    refine ⟨by rw [hA, hρ], ?_, ?_, ?_⟩
    · simp [Mem.ren, M.ren, hρ, ren_cells h1]
    · simp [Out.ren, ren_refs v hv]
    · simp [Mem.ren, M.ren, hρ, ren_cells h2]
set_option maxHeartbeats 1000000 in
theorem take_no (l : List UInt8) (n : Nat) (hn : l.length < n) (hl : l.length < 1073741824) (i : Nat) : LM Try.prog 53 [.p i 0, uK n] [(i, .b [bV l])] fun o m => o = .pan misV ∧ m = [(i, .b [bV l])] := by
  refine LM.box1P (fun k => [.p k 0, uK n]) (fun _ _ => rfl) rfl rfl rfl ?_ i
  refine LM.enter tt Try.func53 rfl rfl rfl (by kernel_rfl) rfl rfl rfl (fun o mo h => by rw [h.2]; rfl) fun F _ => ?_
  exact wk trueW trueW trueW
end Pw
end Lf
end Go.Proofs.Ytgeccggkdgpkiaa

/- Package pack: the reader's length. -/
namespace Go.Proofs.Ytgeccggkdgpkiaa
open Go.RowKit Rg Wm Ar
set_option maxRecDepth 100000
namespace Lf
open Pk
theorem len_eq (c b : Nat) (l : List UInt8) (h : ¬ c < b + 48) : lenR c b l = if c - b - 48 + 1 ≤ l.length then (if (l.take (c - b - 48 + 1)).head? = some 0 ∨ 8 < (l.take (c - b - 48 + 1)).length then none else if Ps.beN (l.take (c - b - 48 + 1)) < 48 then none else some (Ps.beN (l.take (c - b - 48 + 1)), l.drop (c - b - 48 + 1))) else none := by
  unfold lenR take?
  rw [if_neg h]
  by_cases h2 : c - b - 48 + 1 ≤ l.length
  · rw [if_pos h2, if_pos h2]
  · rw [if_neg h2, if_neg h2]
theorem limb0 {x : Nat} (h : x < 18446744073709551616) : (limbs x).getD 0 default = x := by
  rw [limbs_get x (by decide)]
  unfold limb m64
  omega
theorem head0 {h : List UInt8} (h0 : 0 < h.length) : (h.head? = some 0 ↔ ((h.getD 0 default).toNat : Int) = 0) := by
  cases h with
  | nil => simp at h0
  | cons a r =>
    simp only [List.head?_cons, Option.some.injEq, List.getD_cons_zero]
    constructor
    · rintro rfl; rfl
    · intro e; exact u8_zero (by omega)
namespace Pw
set_option maxHeartbeats 2000000 in
theorem length_ (c b : UInt8) (hb : b.toNat = 128 ∨ b.toNat = 192) (hcb : b.toNat ≤ c.toNat) (hc : c.toNat < b.toNat + 64) (l : List UInt8) (hl : l.length < 1073741824) (i : Nat) :
    (∀ n r, lenR c.toNat b.toNat l = some (n, r) → LM Try.prog 54 [.p i 0, bK c, bK b] [(i, .b [bV l])] fun o m => o = .ret (uK n) ∧ m = [(i, .b [bV r])]) ∧
    (lenR c.toNat b.toNat l = none → ∃ r, LM Try.prog 54 [.p i 0, bK c, bK b] [(i, .b [bV l])] fun o m => o = .pan misV ∧ m = [(i, .b [bV r])]) := by
  have hcl := c.toNat_lt
  by_cases h1 : c.toNat < b.toNat + 48
  · have e : lenR c.toNat b.toNat l = some (c.toNat - b.toNat, l) := by unfold lenR; rw [if_pos h1]
    rw [e]
    refine ⟨fun n r h => ?_, fun h => by cases h⟩
    cases h
    have hv1 : V.k (.int .u64 ((c.toNat : Int) - (b.toNat : Int))) = uK (c.toNat - b.toNat) := by unfold uK; rw [Int.natCast_sub hcb]
    clear e
    refine LM.box1 (fun k => [.p k 0, bK c, bK b]) (fun _ _ => rfl) rfl rfl rfl ?_ i
    refine LM.enter tt Try.func54 rfl rfl rfl (by kernel_rfl) rfl rfl rfl (fun o mo h => by rw [h.2]; rfl) fun F _ => ?_
    exact wk trueW trueW trueW
  · rw [len_eq _ _ _ h1]
    have hx : IntKind.u64.wrap ((c.toNat : Int) - (b.toNat : Int) - 48 + 1) = ((c.toNat - b.toNat - 48 + 1 : Nat) : Int) := by rw [wrap_u64 (by omega)]; omega
    generalize hn0 : c.toNat - b.toNat - 48 + 1 = n0 at *
    have hn1 : 1 ≤ n0 := by omega
    by_cases h2 : n0 ≤ l.length
    · rw [if_pos h2]
      have c1 := take_ok l n0 h2 hl
      have hlen : (l.take n0).length = n0 := by rw [List.length_take]; omega
      generalize l.take n0 = h at *
      generalize l.drop n0 = r at *
      have hz := head0 (h := h) (by omega)
      by_cases h3 : h.head? = some 0
      · rw [if_pos (.inl h3)]
        refine ⟨fun n r h => (by cases h), fun _ => ⟨r, ?_⟩⟩
        have hz2 := hz.1 h3
        clear hz h3
        refine LM.box1P (fun k => [.p k 0, bK c, bK b]) (fun _ _ => rfl) rfl rfl rfl ?_ i
        refine LM.enter tt Try.func54 rfl rfl rfl (by kernel_rfl) rfl rfl rfl (fun o mo h => by rw [h.2]; rfl) fun F _ => ?_
        exact wk trueW trueW trueW
      · have hz2 : ¬ ((h.getD 0 default).toNat : Int) = 0 := fun e => h3 (hz.2 e)
        by_cases h4 : 8 < h.length
        · rw [if_pos (.inr h4)]
          refine ⟨fun n r h => (by cases h), fun _ => ⟨r, ?_⟩⟩
          clear hz h3
          refine LM.box1P (fun k => [.p k 0, bK c, bK b]) (fun _ _ => rfl) rfl rfl rfl ?_ i
          refine LM.enter tt Try.func54 rfl rfl rfl (by kernel_rfl) rfl rfl rfl (fun o mo h => by rw [h.2]; rfl) fun F _ => ?_
          exact wk trueW trueW trueW
        · rw [if_neg (by intro e; rcases e with e | e; exact h3 e; exact h4 e)]
          have hlt : Ps.beN h < 18446744073709551616 := by
            have k1 := Ps.beN_lt h
            have k2 : 256 ^ h.length ≤ 256 ^ 8 := Nat.pow_le_pow_right (by decide) (by omega)
            have k3 : (256 : Nat) ^ 8 = 18446744073709551616 := by decide
            omega
          have c2 := Wo.Read h (by omega)
          have hq := limb0 hlt
          have hl4 := limbs_len (Ps.beN h)
          clear hz h3 hlt
          generalize Ps.beN h = x at *
          by_cases h5 : x < 48
          · rw [if_pos h5]
            refine ⟨fun n r h => (by cases h), fun _ => ⟨r, ?_⟩⟩
            refine LM.box1P (fun k => [.p k 0, bK c, bK b]) (fun _ _ => rfl) rfl rfl rfl ?_ i
            refine LM.enter tt Try.func54 rfl rfl rfl (by kernel_rfl) rfl rfl rfl (fun o mo h => by rw [h.2]; rfl) fun F _ => ?_
            exact wk trueW trueW trueW
          · rw [if_neg h5]
            refine ⟨fun n r' h => ?_, fun h => by cases h⟩
            cases h
            have hv1 : uK ((limbs x).getD 0 default) = uK x := by rw [hq]
            refine LM.box1 (fun k => [.p k 0, bK c, bK b]) (fun _ _ => rfl) rfl rfl rfl ?_ i
            refine LM.enter tt Try.func54 rfl rfl rfl (by kernel_rfl) rfl rfl rfl (fun o mo h => by rw [h.2]; rfl) fun F _ => ?_
            exact wk trueW trueW trueW
    · rw [if_neg h2]
      refine ⟨fun n r h => (by cases h), fun _ => ⟨l, ?_⟩⟩
      have p1 := take_no l n0 (by omega) hl
      have hp1 : PanIn 3 7 := ⟨trivial⟩
      refine LM.box1P (fun k => [.p k 0, bK c, bK b]) (fun _ _ => rfl) rfl rfl rfl ?_ i
      refine LM.enter tt Try.func54 rfl rfl rfl (by kernel_rfl) rfl rfl rfl (fun o mo h => by rw [h.2]; rfl) fun F _ => ?_
      exact wk trueW trueW trueW
end Pw
end Lf
end Go.Proofs.Ytgeccggkdgpkiaa

/- Package pack: an item is read. -/
namespace Go.Proofs.Ytgeccggkdgpkiaa
open Go.RowKit Rg Wm Ar
set_option maxRecDepth 100000
namespace Lf
open Pk
def ItemC (l : List UInt8) : Prop :=
  (∀ k r, rd l = some (k, r) → ∀ i, LM Try.prog 48 [.p i 0] [(i, .b [bV l])] fun o m => o = .ret (itV k) ∧ m = [(i, .b [bV r])]) ∧
  (rd l = none → ∃ r, ∀ i, LM Try.prog 48 [.p i 0] [(i, .b [bV l])] fun o m => o = .pan misV ∧ m = [(i, .b [bV r])])
theorem itV_false (t : List UInt8) : itV (.mk false t []) = .a [.k (.bool false), bV t, .s none []] := by simp only [itV, itC_eq]; rfl
theorem itV_true (ks : List Itm) : itV (.mk true [] ks) = .a [.k (.bool true), .s none [], .s none (ks.map itV)] := by simp only [itV, itC_eq]; rfl
namespace Pw
theorem item_ok {l r : List UInt8} {k : Itm} (hv : (itV k).refs [] = true)
    (h : LM Try.prog 48 [.p 1000 0] [(1000, .b [bV l])] fun o m => o = .ret (itV k) ∧ m = [(1000, .b [bV r])]) (i : Nat) : LM Try.prog 48 [.p i 0] [(i, .b [bV l])] fun o m => o = .ret (itV k) ∧ m = [(i, .b [bV r])] :=
  LM.box1 (fun k => [.p k 0]) (fun _ _ => rfl) rfl rfl hv h i
theorem item_no {l r : List UInt8}
    (h : LM Try.prog 48 [.p 1000 0] [(1000, .b [bV l])] fun o m => o = .pan misV ∧ m = [(1000, .b [bV r])]) (i : Nat) : LM Try.prog 48 [.p i 0] [(i, .b [bV l])] fun o m => o = .pan misV ∧ m = [(i, .b [bV r])] :=
  LM.box1P (fun k => [.p k 0]) (fun _ _ => rfl) rfl rfl rfl h i
theorem itV_refs (k : Itm) : (itV k).refs [] = true := itC_refs [] k
set_option maxHeartbeats 4000000 in
theorem item_flat (c : UInt8) (l : List UInt8) (hl : l.length < 1073741000) (h2 : c.toNat < 192) : ItemC (c :: l) := by
  have c1 := take_ok (c :: l) 1 (by simp) (by simp; omega)
  rw [show (c :: l).take 1 = [c] from rfl, show (c :: l).drop 1 = l from rfl] at c1
  have hc0 : ([c].getD 0 default).toNat = c.toNat := rfl
  unfold ItemC
  rw [rd]
  by_cases h1 : c.toNat < 128
  · rw [if_pos h1]
    refine ⟨fun k r h => ?_, fun h => (by cases h)⟩
    cases h
    refine item_ok (itV_refs _) ?_
    rw [itV_false]
    refine LM.enter tt Try.func48 rfl rfl rfl (by kernel_rfl) rfl rfl rfl (fun o mo h => by rw [h.2]; rfl) fun F _ => ?_
    exact wk trueW trueW trueW
  · rw [if_neg h1, if_pos h2]
    obtain ⟨k1, k2⟩ := length_ c 128 (.inl rfl) (by show 128 ≤ _; omega) (by show _ < 128 + 64; omega) l (by omega) 1000
    rw [show (128 : UInt8).toNat = 128 from rfl] at k1 k2
    unfold Pk.part
    cases hln : lenR c.toNat 128 l with
    | none =>
      obtain ⟨r, p1⟩ := k2 hln
      refine ⟨fun k r h => (by cases h), fun _ => ⟨r, item_no ?_⟩⟩
      have hp1 : PanIn 5 3 := ⟨trivial⟩
      clear k1 k2
      refine LM.enter tt Try.func48 rfl rfl rfl (by kernel_rfl) rfl rfl rfl (fun o mo h => by rw [h.2]; rfl) fun F _ => ?_
      exact wk trueW trueW trueW
    | some x =>
      obtain ⟨n, r1⟩ := x
      have c2 := k1 n r1 hln
      have hr1 := lenR_spec hln
      clear k1 k2 hln
      simp only []
      unfold take?
      by_cases hn : n ≤ r1.length
      · rw [if_pos hn]
        simp only []
        have c3 := take_ok r1 n hn (by omega)
        have hlb : (r1.take n).length = n := by rw [List.length_take]; omega
        generalize r1.take n = b at *
        generalize r1.drop n = r at *
        by_cases hb : b.length = 1 ∧ b.getD 0 default < 128
        · rw [if_pos hb]
          refine ⟨fun k r h => (by cases h), fun _ => ⟨r, item_no ?_⟩⟩
          have hb1 := hb.1
          have hb2 : ((b.getD 0 default).toNat : Int) < 128 := by have : (b.getD 0 default).toNat < 128 := hb.2; omega
          clear hb
          refine LM.enter tt Try.func48 rfl rfl rfl (by kernel_rfl) rfl rfl rfl (fun o mo h => by rw [h.2]; rfl) fun F _ => ?_
          exact wk trueW trueW trueW
        · rw [if_neg hb]
          refine ⟨fun k r h => ?_, fun h => (by cases h)⟩
          cases h
          refine item_ok (itV_refs _) ?_
          rw [itV_false]
          by_cases hb1 : b.length = 1
          · have hb2 : ¬ ((b.getD 0 default).toNat : Int) < 128 := fun e => hb ⟨hb1, (show (b.getD 0 default).toNat < 128 by omega)⟩
            clear hb
            refine LM.enter tt Try.func48 rfl rfl rfl (by kernel_rfl) rfl rfl rfl (fun o mo h => by rw [h.2]; rfl) fun F _ => ?_
            exact wk trueW trueW trueW
          · clear hb
            refine LM.enter tt Try.func48 rfl rfl rfl (by kernel_rfl) rfl rfl rfl (fun o mo h => by rw [h.2]; rfl) fun F _ => ?_
            exact wk trueW trueW trueW
      · rw [if_neg hn]
        have p1 := take_no r1 n (by omega) (by omega)
        refine ⟨fun k r h => (by cases h), fun _ => ⟨r1, item_no ?_⟩⟩
        have hp1 : PanIn 5 4 := ⟨trivial⟩
        refine LM.enter tt Try.func48 rfl rfl rfl (by kernel_rfl) rfl rfl rfl (fun o mo h => by rw [h.2]; rfl) fun F _ => ?_
        exact wk trueW trueW trueW
end Pw
end Lf
end Go.Proofs.Ytgeccggkdgpkiaa

/- Package pack: lists are read; every item. -/
namespace Go.Proofs.Ytgeccggkdgpkiaa
open Go.RowKit Rg Wm Ar
set_option maxRecDepth 100000
namespace Lf
open Pk
theorem map_none {α β : Type} {f : α → β} {o : Option α} (h : o = none) : o.map f = none := by rw [h]; rfl
namespace Pw
theorem item_nil : ItemC [] := by
  unfold ItemC
  rw [rd]
  refine ⟨fun k r h => (by cases h), fun _ => ⟨[], item_no ?_⟩⟩
  have p1 := take_no [] 1 (by decide) (by decide)
  have hp1 : PanIn 1 1 := ⟨trivial⟩
  refine LM.enter tt Try.func48 rfl rfl rfl (by kernel_rfl) rfl rfl rfl (fun o mo h => by rw [h.2]; rfl) fun F _ => ?_
  exact wk trueW trueW trueW
set_option maxHeartbeats 4000000 in
theorem item_list (c : UInt8) (l : List UInt8) (hl : l.length < 1073741000) (h2 : ¬ c.toNat < 192) (ih : ∀ b : List UInt8, b.length ≤ l.length → ItemC b) : ItemC (c :: l) := by
  have c1 := take_ok (c :: l) 1 (by simp) (by simp; omega)
  rw [show (c :: l).take 1 = [c] from rfl, show (c :: l).drop 1 = l from rfl] at c1
  have hc0 : ([c].getD 0 default).toNat = c.toNat := rfl
  have hcl := c.toNat_lt
  have h1 : ¬ c.toNat < 128 := by omega
  obtain ⟨k1, k2⟩ := length_ c 192 (.inr rfl) (by show 192 ≤ _; omega) (by show _ < 192 + 64; omega) l (by omega) 1000
  rw [show (192 : UInt8).toNat = 192 from rfl] at k1 k2
  have e : rd (c :: l) = match Pk.part c.toNat 192 l with
      | none => none
      | some (b, r) => match rdL b with
        | none => none
        | some ks => some (.mk true [] ks, r) := by
    rw [rd, if_neg h1, if_neg h2]
    split
    · rename_i hp; rw [hp]
    · rename_i b r hp; rw [hp]; first | done | rfl
  unfold ItemC
  rw [e]
  unfold Pk.part
  clear e
  cases hln : lenR c.toNat 192 l with
  | none =>
    obtain ⟨r, p1⟩ := k2 hln
    refine ⟨fun k r h => (by cases h), fun _ => ⟨r, item_no ?_⟩⟩
    have hp1 : PanIn 9 3 := ⟨trivial⟩
    clear k1 k2 ih
    refine LM.enter tt Try.func48 rfl rfl rfl (by kernel_rfl) rfl rfl rfl (fun o mo h => by rw [h.2]; rfl) fun F _ => ?_
    exact wk trueW trueW trueW
  | some x =>
    obtain ⟨n, r1⟩ := x
    have c2 := k1 n r1 hln
    have hr1 := lenR_spec hln
    clear k1 k2 hln
    simp only []
    unfold take?
    by_cases hn : n ≤ r1.length
    · rw [if_pos hn]
      simp only []
      have c3 := take_ok r1 n hn (by omega)
      have hlb : (r1.take n).length ≤ l.length := by rw [List.length_take]; omega
      generalize r1.take n = b at *
      generalize r1.drop n = r at *
      clear hn
      have hbr := itC_bare
      cases hL : rdL b with
      | none =>
        refine ⟨fun k r h => (by cases h), fun _ => ⟨r, item_no ?_⟩⟩
        refine LM.enter tt Try.func48 rfl rfl rfl (by kernel_rfl) rfl rfl rfl (fun o mo h => by rw [h.2]; rfl) fun F _ => ?_
        refine wk ?_ trueW trueW
        refine LC.nilcell 6 2 55 48 3 rfl rfl rfl (by decide) rfl ?_
        refine LC.loop3 (fun b' ks => [(0, .p 1000 0), (2, .p 2 0), (5, .p 5 0), (6, .p 6 0)]) (fun b' ks => [(1000, .b [bV r]), (2, .b [.k (.bool false), .nil, .nil]), (5, .b [bV b']), (6, .b [.k (.bool true), .nil, .s (some 55) (ks.map itV)]), (55, .r 48 3 ks.length)]) (fun b' ks => b'.length + ks.length ≤ l.length ∧ rdL b' = none) ((·.length)) (b) ([]) ⟨by simp; omega, hL⟩ ⟨rfl, rfl, rfl, rfl, trivial⟩ ⟨rfl, rfl, rfl, rfl, rfl, trivial⟩ rfl (by first | exact rfl | (simp only [V.cells, refsE, refsM, V.refs, V.refs.go, V.pure, V.pure.go, pure_mapq, pure_mapb, pure_mapu, refs_mapq, refs_mapb, refs_mapu, refs_append, Bool.and_true, Bool.true_and, Bool.and_self] <;> exact rfl) | (simp only [V.cells, refsE, refsM, V.refs, V.refs.go, V.pure, V.pure.go, pure_mapq, pure_mapb, pure_mapu, refs_mapq, refs_mapb, refs_mapu, refs_append, Bool.and_true, Bool.true_and, Bool.and_self, hrf] <;> exact rfl) | (simp only [V.cells, refsE, refsM, V.refs, V.refs.go, V.pure, V.pure.go, pure_mapq, pure_mapb, pure_mapu, refs_mapq, refs_mapb, refs_mapu, refs_append, Bool.and_true, Bool.true_and, Bool.and_self, hrf, hrg] <;> exact rfl) | exact lz) (by first | exact rfl | (simp only [V.cells, refsE, refsM, V.refs, V.refs.go, V.pure, V.pure.go, pure_mapq, pure_mapb, pure_mapu, refs_mapq, refs_mapb, refs_mapu, refs_append, Bool.and_true, Bool.true_and, Bool.and_self] <;> exact rfl) | (simp only [V.cells, refsE, refsM, V.refs, V.refs.go, V.pure, V.pure.go, pure_mapq, pure_mapb, pure_mapu, refs_mapq, refs_mapb, refs_mapu, refs_append, Bool.and_true, Bool.true_and, Bool.and_self, hrf] <;> exact rfl) | (simp only [V.cells, refsE, refsM, V.refs, V.refs.go, V.pure, V.pure.go, pure_mapq, pure_mapb, pure_mapu, refs_mapq, refs_mapb, refs_mapu, refs_append, Bool.and_true, Bool.true_and, Bool.and_self, hrf, hrg] <;> exact rfl) | exact lz) ?_
        rintro b' ks ⟨hlen, hrd⟩
        have hne : 0 < b'.length := by
          rcases Nat.eq_zero_or_pos b'.length with h0 | h0
          · rw [List.eq_nil_of_length_eq_zero h0, rdL] at hrd
            simp at hrd
          · exact h0
        obtain ⟨q1, q2⟩ := ih b' (by omega)
        cases hb : rd b' with
        | none =>
          obtain ⟨r2, p1⟩ := q2 hb
          have hq1 : PanInD 12 2 [0, 1, 5] := ⟨trivial⟩
          have hrf := itC_refs
          clear q1 q2 hb hrd hL ih
          exact wk trueW trueW trueW
        | some y =>
          obtain ⟨k, r2⟩ := y
          have c4 := q1 k r2 hb
          have hlt := rd_len hb
          have hok : r2.length + (ks ++ [k]).length ≤ l.length ∧ rdL r2 = none := ⟨by simp; omega, by
            rw [rdL_cons hb] at hrd
            simpa using hrd⟩
          have hk3 := itC_len k
          have hrf := itC_refs
          have hsz : ∀ e ∈ ks.map itV, e.cells.length = 3 := fun e he => by obtain ⟨a, _, rfl⟩ := List.mem_map.1 he; exact itC_len a
          clear q1 q2 hb hrd hL ih
          exact wk trueW trueW trueW
      | some ks0 =>
        refine ⟨fun k r h => ?_, fun h => (by cases h)⟩
        cases h
        refine item_ok (itV_refs _) ?_
        rw [itV_true]
        refine LM.enter tt Try.func48 rfl rfl rfl (by kernel_rfl) rfl rfl rfl (fun o mo h => by rw [h.2]; rfl) fun F _ => ?_
        refine wk ?_ trueW trueW
        refine LC.nilcell 6 2 55 48 3 rfl rfl rfl (by decide) rfl ?_
        refine LC.loop3 (fun b' ks => [(0, .p 1000 0), (2, .p 2 0), (5, .p 5 0), (6, .p 6 0)]) (fun b' ks => [(1000, .b [bV r]), (2, .b [.k (.bool false), .nil, .nil]), (5, .b [bV b']), (6, .b [.k (.bool true), .nil, .s (some 55) (ks.map itV)]), (55, .r 48 3 ks.length)]) (fun b' ks => b'.length + ks.length ≤ l.length ∧ (rdL b').map (ks ++ ·) = some ks0) ((·.length)) (b) ([]) ⟨by simp; omega, by rw [hL]; rfl⟩ ⟨rfl, rfl, rfl, rfl, trivial⟩ ⟨rfl, rfl, rfl, rfl, rfl, trivial⟩ rfl (by first | exact rfl | (simp only [V.cells, refsE, refsM, V.refs, V.refs.go, V.pure, V.pure.go, pure_mapq, pure_mapb, pure_mapu, refs_mapq, refs_mapb, refs_mapu, refs_append, Bool.and_true, Bool.true_and, Bool.and_self] <;> exact rfl) | (simp only [V.cells, refsE, refsM, V.refs, V.refs.go, V.pure, V.pure.go, pure_mapq, pure_mapb, pure_mapu, refs_mapq, refs_mapb, refs_mapu, refs_append, Bool.and_true, Bool.true_and, Bool.and_self, hrf] <;> exact rfl) | (simp only [V.cells, refsE, refsM, V.refs, V.refs.go, V.pure, V.pure.go, pure_mapq, pure_mapb, pure_mapu, refs_mapq, refs_mapb, refs_mapu, refs_append, Bool.and_true, Bool.true_and, Bool.and_self, hrf, hrg] <;> exact rfl) | exact lz) (by first | exact rfl | (simp only [V.cells, refsE, refsM, V.refs, V.refs.go, V.pure, V.pure.go, pure_mapq, pure_mapb, pure_mapu, refs_mapq, refs_mapb, refs_mapu, refs_append, Bool.and_true, Bool.true_and, Bool.and_self] <;> exact rfl) | (simp only [V.cells, refsE, refsM, V.refs, V.refs.go, V.pure, V.pure.go, pure_mapq, pure_mapb, pure_mapu, refs_mapq, refs_mapb, refs_mapu, refs_append, Bool.and_true, Bool.true_and, Bool.and_self, hrf] <;> exact rfl) | (simp only [V.cells, refsE, refsM, V.refs, V.refs.go, V.pure, V.pure.go, pure_mapq, pure_mapb, pure_mapu, refs_mapq, refs_mapb, refs_mapu, refs_append, Bool.and_true, Bool.true_and, Bool.and_self, hrf, hrg] <;> exact rfl) | exact lz) ?_
        rintro b' ks ⟨hlen, hrd⟩
        rcases Nat.eq_zero_or_pos b'.length with h0 | h0
        · have hb0 : b' = [] := List.eq_nil_of_length_eq_zero h0
          subst hb0
          rw [rdL] at hrd
          simp at hrd
          subst hrd
          clear ih hL hlb
          have hrf := itC_refs
          exact wk trueW trueW trueW
        · obtain ⟨q1, q2⟩ := ih b' (by omega)
          cases hb : rd b' with
          | none =>
            exfalso
            rw [rdL_none (fun e => by subst e; simp at h0) hb] at hrd
            cases hrd
          | some y =>
            obtain ⟨k, r2⟩ := y
            have c4 := q1 k r2 hb
            have hlt := rd_len hb
            have hok : r2.length + (ks ++ [k]).length ≤ l.length ∧ (rdL r2).map ((ks ++ [k]) ++ ·) = some ks0 := ⟨by simp; omega, by
              rw [rdL_cons hb, Option.map_map] at hrd
              rw [← hrd]
              congr 1
              funext z
              simp⟩
            have hk3 := itC_len k
            have hrf := itC_refs
            have hsz : ∀ e ∈ ks.map itV, e.cells.length = 3 := fun e he => by obtain ⟨a, _, rfl⟩ := List.mem_map.1 he; exact itC_len a
            clear q1 q2 hb hrd hL ih
            exact wk trueW trueW trueW
    · rw [if_neg hn]
      have p1 := take_no r1 n (by omega) (by omega)
      refine ⟨fun k r h => (by cases h), fun _ => ⟨r1, item_no ?_⟩⟩
      have hp1 : PanIn 9 4 := ⟨trivial⟩
      clear ih
      refine LM.enter tt Try.func48 rfl rfl rfl (by kernel_rfl) rfl rfl rfl (fun o mo h => by rw [h.2]; rfl) fun F _ => ?_
      exact wk trueW trueW trueW
theorem item_all : ∀ (n : Nat) (l : List UInt8), l.length ≤ n → n < 1073741000 → ItemC l := by
  intro n
  induction n with
  | zero =>
    intro l hl _
    have : l = [] := List.eq_nil_of_length_eq_zero (by omega)
    subst this
    exact item_nil
  | succ n ih =>
    intro l hl hn
    cases l with
    | nil => exact item_nil
    | cons c l =>
      have hl' : l.length ≤ n := by simpa using hl
      by_cases h2 : c.toNat < 192
      · exact item_flat c l (by omega) h2
      · exact item_list c l (by omega) h2 fun b hb => ih b (by omega) (by omega)
end Pw
end Lf
end Go.Proofs.Ytgeccggkdgpkiaa

/- Deferred closures that recover: their contracts; a function that defers one and then goes on. -/
namespace Go.Proofs.Ytgeccggkdgpkiaa
open Go.RowKit Rg
namespace Lf
section
variable {P : Program}
/-- The frame's mode: it returns, or it panics with v. -/
def RvAt (w : World) (g : Gh) (u : FrameMode) : Option V → Prop
  | none => u = .returning
  | some v => ∃ x, u = .panicking [{ v := x, recovered := false }] ∧ Rep w g v x
/-- The contract of a deferred closure that hands back nothing: entered as its frame returns (none), or as it panics with v (some v); it recovers. -/
structure DefC (P : Program) (f : Nat) (args : List V) (rv : Option V) (mi mo : Mem) : Prop where
  go : ∀ (g : Gh) (w : World) (vals : Array Value) (u : FrameMode), RelM (lentF g mi w) g mi w → args.length = vals.size → (∀ (j : Nat) y x, args[j]? = some y → vals[j]? = some x → Rep w g y x) →
    RvAt w g u rv →
    CallsD P f vals u w fun e u' w' => (∃ y, e = .returned y) ∧ settle u' = .returning ∧ ∃ g', Ev g w g' w' ∧ RelM (lentF g mi w) g' mo w' ∧ Kept (lentF g mi w) g' w'
def rvV : Option V → V
  | none => .k .nilIface
  | some v => v
theorem DefC.enter (X : TOk P) {f N d1 d2 id : Nat} {fn : Func} {c : Code} {o1 o2 : Oper} {cl : Call} {args : List V} {rv : Option V} {mi mo : Mem} (hf : P.funcs[f]? = some fn) (hb : fn.body = some (.seq (.region id #[o1, o2] false) c)) (hN : fn.ntmps = N) (hrs : fn.results = #[])
    (h1 : o1.op = .call cl) (hcl : cl.callee = .builtin .recover) (hca : cl.args = #[]) (hd1 : o1.dst = some d1) (hg1 : o1.guard = none) (h2 : o2.op = .assign (.tmp d1)) (hd2 : o2.dst = some d2) (hg2 : o2.guard = none) (hn1 : Nat.blt d1 N = true) (hn2 : Nat.blt d2 N = true)
    (hle : Nat.ble args.length N = true) (hbig : (mi.all fun x => Nat.ble 1000 x.1) = true) (hks : keysOk mi mo = true)
    (h : ∀ F, F.D = [] → LC P F N c (LRet X [] fun o m => o = .ret (.t []) ∧ m = mo) ((d2, rvV rv) :: (d1, rvV rv) :: params 0 args) mi) : DefC P f args rv mi mo := by
  refine ⟨fun g w vals u hm hl hr hu => callsD_of_wpS hf hb fun c₀ cs hc => wpS_seq (wpS_region ?_)⟩
  have hle' := Nat.le_of_ble_eq_true hle
  have hbg : (lentF g mi w).Big := fun i hi => by
    have : aget mi i = none := by
      cases hg : aget mi i with
      | none => rfl
      | some m =>
        have h1 := Nat.le_of_ble_eq_true (List.all_eq_true.1 hbig _ (aget_mem hg))
        exact absurd h1 (by simp; omega)
    exact ⟨hm.nbx i this, hm.nrw i this⟩
  have hrel : Rel (lentF g mi w) N g (params 0 args) mi { tmps := vals ++ Array.replicate (fn.ntmps - vals.size) undef, defers := [] } w := by
    refine ⟨fun t v ht => ?_, hm, ⟨rfl, rfl, rfl, Nat.le_refl _, fun _ _ _ => rfl, fun _ _ _ _ => ⟨rfl, rfl⟩, fun _ _ _ _ h => h, fun _ _ _ h => h, fun _ _ _ _ => rfl⟩, rfl, by simp; omega, hbg⟩
    obtain ⟨_, h2⟩ := params_get ht
    rw [Nat.sub_zero] at h2
    have hlt := (List.getElem?_eq_some_iff.1 h2).1
    have hx : vals[t]? = some vals[t] := Array.getElem?_eq_getElem (by omega)
    exact ⟨vals[t], by rw [Array.getElem?_append_left (by omega)]; exact hx, hr t v _ h2 hx⟩
  generalize hact : ({ tmps := vals ++ Array.replicate (fn.ntmps - vals.size) undef, defers := [] } : Act) = act at *
  have hrun1 : ∀ a : Act, (execOp a.eval o1).run P w = .ok .recover w := fun a => by
    obtain ⟨ce, ca, ct⟩ := cl
    simp only at hcl hca
    subst hcl; subst hca
    simp [execOp, h1, resolve, invoke, builtin]
  have hrun2 : ∀ a : Act, (execOp a.eval o2).run P w = .ok (.value (a.eval (.tmp d1))) w := fun a => by simp [execOp, h2]
  have hw1 : ∀ t, Region.wanted o1 t = true := fun t => by unfold Region.wanted; rw [hg1]
  have hw2 : ∀ t, Region.wanted o2 t = true := fun t => by unfold Region.wanted; rw [hg2]
  have main : ∀ (x : Value) (cs' : List Frame) (u' : FrameMode), Rep w g (rvV rv) x → settle u' = .returning → cs' = { c₀ with mode := u' } :: cs →
      c.wpS P (bodyPostS P fn c₀ cs fun e u' w' => (∃ y, e = .returned y) ∧ settle u' = .returning ∧ ∃ g', Ev g w g' w' ∧ RelM (lentF g mi w) g' mo w' ∧ Kept (lentF g mi w) g' w') ((act.put (some d1) x).put (some d2) ((act.put (some d1) x).eval (.tmp d1))) cs' w := by
    intro x cs' u' hx hset hcs
    have r1 := hrel.put (d := some d1) (v := rvV rv) (Ev.refl g w) hrel.mem hrel.kept hx hn1
    have hev : (act.put (some d1) x).eval (.tmp d1) = x := by
      have hlt : d1 < N := Nat.le_of_ble_eq_true hn1
      have hnot : ¬ N ≤ d1 := by omega
      simp [Act.put, Act.eval, hrel.size, hlt, hnot]
    rw [hev]
    have r2 := r1.put (d := some d2) (v := rvV rv) (Ev.refl g w) r1.mem r1.kept hx hn2
    refine wpS_of_wp (wp_mono ((h _ rfl).go _ _ _ r2) fun e a' w' ⟨env, mem, g', le, q1, q3, q2⟩ => ?_)
    have key : LFin X [] (fun o m => o = .ret (.t []) ∧ m = mo) env mem → a'.defers = [] ∧ ∃ u', cs' = { c₀ with mode := u' } :: cs ∧ ∃ v, (results fn a'.tmps).run P w' = .ok v w' ∧ ((∃ y, Ending.returned v = .returned y) ∧ settle u' = .returning ∧ ∃ g', Ev g w g' w' ∧ RelM (lentF g mi w) g' mo w' ∧ Kept (lentF g mi w) g' w') := by
      rintro ⟨v, v', mo', hv, ht, hR⟩
      obtain ⟨_, rfl⟩ := hR
      obtain ⟨y, hy, hrep⟩ := resV_run X q1 (fn := fn) (rs := []) (by rw [hrs]) (by decide) hv
      obtain ⟨r1, r2, r3, r4⟩ := ht.rep rfl hks hm hrep q1.mem q1.kept
      exact ⟨q1.defers, u', hcs, y, hy, ⟨y, rfl⟩, hset, _, r4, r2, r3⟩
    cases le with
    | normal => cases q3; exact key q2
    | ret => cases q3; exact key q2
    | exit _ => exact q2.elim
    | goto _ => exact q2.elim
    | pan v =>
      obtain ⟨v', mo', _, hR⟩ := q2
      cases hR.1
  have hrange : List.range (#[o1, o2] : Array Oper).size = [0, 1] := rfl
  rw [hrange]
  have e0 : (#[o1, o2] : Array Oper)[0]? = some o1 := rfl
  have e1 : (#[o1, o2] : Array Oper)[1]? = some o2 := rfl
  cases rv with
  | none =>
    have hu : u = .returning := hu
    have hrec : recoverD (c₀ :: cs) = none := by
      simp only [recoverD, hc, hu]
    simp only [wpOpsS, e0, hw1, if_true, hrun1, hrec, e1, hw2, hrun2, Oper.upon, hd1, hd2]
    exact main .nilIface _ c₀.mode (.k _) (by rw [hc, hu]; rfl) (by cases c₀; rfl)
  | some v =>
    obtain ⟨x, hu, hx⟩ := hu
    have hrec : recoverD (c₀ :: cs) = some (x, { c₀ with mode := .panicking [{ v := x, recovered := true }] } :: cs) := by
      simp only [recoverD, hc, hu]
    simp only [wpOpsS, e0, hw1, if_true, hrun1, hrec, e1, hw2, hrun2, Oper.upon, hd1, hd2]
    exact main x _ _ hx rfl rfl
end
end Lf
end Go.Proofs.Ytgeccggkdgpkiaa

/- A function that defers one closure over boxes of its own, and then goes on. -/
namespace Go.Proofs.Ytgeccggkdgpkiaa
open Go.RowKit Rg
namespace Lf
section
variable {P : Program}
/-- How the rest of the body may end: the deferred closure turns the boxes, then the results are read. -/
def DefFin (P : Program) (X : TOk P) (fc : Nat) (cs : List Nat) (rs : List ResultVar) (R : Out → Mem → Prop) (rv : Option V) (env : Env) (mem : Mem) : Prop :=
  ∃ (envR : Env) (mo3 mo4 : Mem) (u v' : V), SubE env envR ∧ SubM mem mo3 ∧ (refsE mo3 envR && (refsM mo3 mo3 && ((mem.all fun x => Nat.blt x.1 1000 || (aget mo3 x.1).isSome) && (mo3.all fun x => Nat.ble 1000 x.1)))) = true ∧
    ((match rv with | none => true | some v => v.refs mo3) && (cs.all fun i => (aget mo3 i).isSome)) = true ∧ DefC P fc (cs.map fun i => .p i 0) rv mo3 mo4 ∧ resV X.tab envR mo4 rs = some u ∧ (∃ keep nn, u.cv keep nn = v') ∧ v'.refs [] = true ∧ R (.ret v') []
def DefQ (P : Program) (X : TOk P) (fc : Nat) (cs : List Nat) (rs : List ResultVar) (R : Out → Mem → Prop) : LQ
  | .normal, env, mem => DefFin P X fc cs rs R none env mem
  | .ret, env, mem => DefFin P X fc cs rs R none env mem
  | .pan v, env, mem => DefFin P X fc cs rs R (some v) env mem
  | _, _, _ => False
def AtQ (env1 : Env) (mem1 : Mem) : LQ
  | .normal, env, mem => Sub env mem env1 mem1
  | _, _, _ => False
theorem LM.enterD (X : TOk P) {f N s fc id : Nat} {fn : Func} {r0 c2 : Code} {oM oD : Oper} {cl : Call} {caps : List Operand} {args : List V} {rs : List ResultVar} {R : Out → Mem → Prop} (ks is : List Nat) (env1 env2 : Env) (mem1 mem2 : Mem)
    (hf : P.funcs[f]? = some fn) (hb : fn.body = some (.seq r0 (.seq (.region id [oM, oD].toArray false) c2))) (hN : fn.ntmps = N) (hrs : fn.results = rs.toArray) (hok : callOk P f = true) (hokc : callOk P fc = true) (hle : Nat.ble args.length N = true) (hrl : Nat.ble rs.length 3 = true)
    (hM : oM.op = .makeFunc (.func fc) ([] : List Operand).toArray caps.toArray) (hMd : oM.dst = some s) (hMg : oM.guard = none) (hsN : Nat.blt s N = true) (hcaps : evs env1 caps = some (is.map fun i => .p i 0))
    (hD : oD.op = .defer cl) (hcl : cl.callee = .value (.tmp s)) (hca : cl.args = #[]) (hDd : oD.dst = none) (hDg : oD.guard = none)
    (hk1 : ks.Nodup) (hk2 : is.Nodup) (hk3 : ks.length = is.length) (hren : ∀ ρ : Pm, ks.map ρ.f = is → Mem.ren ρ.f mem2 = mem1 ∧ ∀ t v, aget env2 t = some v → aget env1 t = some (v.ren ρ.f))
    (hbig : (mem2.all fun x => Nat.ble 1000 x.1) = true) (hns : ∀ t v, aget env2 t = some v → t ≠ s)
    (h0 : ∀ F, F.D = [] → LC P F N r0 (AtQ env1 mem1) (params 0 args) [])
    (h2 : ∀ F, LC P F N c2 (DefQ P X fc ks rs R) env2 mem2) : LM P f args [] R := by
  obtain ⟨ρ, hρ⟩ := exists_pm ks is hk1 hk2 hk3
  obtain ⟨hmr, her⟩ := hren ρ hρ
  refine ⟨hok, fun g w vals hm hl hr => ?_⟩
  have hle' := Nat.le_of_ble_eq_true hle
  have hsN' : s < N := Nat.le_of_ble_eq_true hsN
  refine calls_of_wp_defers hf hb ?_
  have hbg : (lentF g [] w).Big := fun i hi => ⟨hm.nbx i rfl, hm.nrw i rfl⟩
  have hrel : Rel (lentF g [] w) N g (params 0 args) [] { tmps := vals ++ Array.replicate (fn.ntmps - vals.size) undef, defers := [] } w := by
    refine ⟨fun t v ht => ?_, hm, ⟨rfl, rfl, rfl, Nat.le_refl _, fun _ _ _ => rfl, fun _ _ _ _ => ⟨rfl, rfl⟩, fun _ _ _ _ h => h, fun _ _ _ h => h, fun _ _ _ _ => rfl⟩, rfl, by simp; omega, hbg⟩
    obtain ⟨_, h2⟩ := params_get ht
    rw [Nat.sub_zero] at h2
    have hlt := (List.getElem?_eq_some_iff.1 h2).1
    have hx : vals[t]? = some vals[t] := Array.getElem?_eq_getElem (by omega)
    exact ⟨vals[t], by rw [Array.getElem?_append_left (by omega)]; exact hx, hr t v _ h2 hx⟩
  refine wp_seq (wp_mono ((h0 _ rfl).go _ _ _ hrel) fun e a1 w1 ⟨env, mem, gx, le, q1, q3, q2⟩ => ?_)
  cases le with
  | exit _ => exact q2.elim
  | goto _ => exact q2.elim
  | ret => exact q2.elim
  | pan _ => exact q2.elim
  | normal =>
  cases q3
  have hr1 := q1.sub q2
  clear q1 q2
  generalize gx.only mem1 = g1 at hr1
  -- the closure, and its deferral
  show (Code.seq (.region id [oM, oD].toArray false) c2).wp P (bodyPostD P fn _) a1 w1
  obtain ⟨e1, e2⟩ := evs_get hcaps
  let us : Array Value := (caps.map a1.eval).toArray
  have hus : ∀ (j i : Nat), is[j]? = some i → ∃ x, us[j]? = some x ∧ Rep w1 g1 (.p i 0) x := fun j i hj => by
    obtain ⟨y, hy, hev⟩ := e2 j (.p i 0) (by rw [List.getElem?_map, hj]; rfl)
    exact ⟨a1.eval y, by simp [us, hy], hr1.evo hev⟩
  have husz : us.size = is.length := by simp [us]; simpa using e1
  have hrunM : ∀ a : Act, a.tmps = a1.tmps → (execOp a.eval oM).run P w1 = .ok (.value (.func (.func fc) #[] us)) w1 := fun a ha => by
    have : a.eval = a1.eval := by funext x; cases x <;> simp [Act.eval, ha]
    simp [execOp, hM, Instr.makeFunc, this, us]
  let a2 : Act := { tmps := a1.tmps.setIfInBounds s (.func (.func fc) #[] us), defers := [{ target := .fn (.func fc) us, args := #[] }] }
  have hwM : ∀ t, Region.wanted oM t = true := fun t => by unfold Region.wanted; rw [hMg]
  have hwD : ∀ t, Region.wanted oD t = true := fun t => by unfold Region.wanted; rw [hDg]
  refine wp_seq (wp_region_lit ?_)
  refine wpList_step fun K hK => ?_
  rw [hwM, if_pos rfl]
  unfold Oper.wp
  rw [hrunM a1 rfl]
  refine hK _ _ (wpList_step fun K2 hK2 => ?_)
  rw [hwD, if_pos rfl]
  unfold Oper.wp
  have hrunD : (execOp (a1.put oM.dst (.func (.func fc) #[] us)).eval oD).run P w1 = .ok (.defer { target := .fn (.func fc) us, args := #[] }) w1 := by
    obtain ⟨ce, ca, ct⟩ := cl
    simp only at hcl hca
    subst hcl; subst hca
    have hsz := hr1.size
    have hns : ¬ N ≤ s := by omega
    simp [execOp, hD, resolve, Deferred.ofValue, hMd, Act.put, Act.eval, hsz, hsN']
  rw [hrunD]
  have ha2 : ({ (a1.put oM.dst (.func (.func fc) #[] us)) with defers := { target := .fn (.func fc) us, args := #[] } :: (a1.put oM.dst (.func (.func fc) #[] us)).defers } : Act).put oD.dst undef = a2 := by
    rw [hMd, hDd]
    simp only [Act.put, hr1.defers]
    rfl
  show K2 (({ (a1.put oM.dst (.func (.func fc) #[] us)) with defers := { target := .fn (.func fc) us, args := #[] } :: (a1.put oM.dst (.func (.func fc) #[] us)).defers } : Act).put oD.dst undef) w1
  rw [ha2]
  refine hK2 _ _ (wpList_nil ?_)
  show c2.wp P (bodyPostD P fn _) a2 w1
  -- the rest, in a frame of its own
  let g2 : Gh := g1.pull ρ.f
  have hm2 : RelM ((lentF g [] w).pull ρ.f) g2 mem2 w1 := relM_pull ρ (by rw [hmr]; exact hr1.mem)
  let F2 : Fr0 := { lentF g2 mem2 w1 with D := [{ target := .fn (.func fc) us, args := #[] }] }
  have hm3 : RelM F2 g2 mem2 w1 := ⟨hm2.ob, fun i m b o hi hp => .inr ⟨i, m, hi, hp⟩, hm2.dj, hm2.nbx, hm2.nrw, hm2.fut, ⟨fun _ _ h => h, fun i a l c h => ⟨a, l, c, h, Nat.le_refl _, fun _ => ⟨rfl, rfl⟩⟩⟩⟩
  have hbig2 : F2.Big := fun i hi => by
    have : aget mem2 i = none := by
      cases hg : aget mem2 i with
      | none => rfl
      | some m =>
        have h1 := Nat.le_of_ble_eq_true (List.all_eq_true.1 hbig _ (aget_mem hg))
        exact absurd h1 (by simp; omega)
    exact ⟨hm2.nbx i this, hm2.nrw i this⟩
  have hr2 : Rel F2 N g2 env2 mem2 a2 w1 := by
    refine ⟨fun t v ht => ?_, hm3, ⟨rfl, rfl, rfl, Nat.le_refl _, fun _ _ _ => rfl, fun _ _ _ _ => ⟨rfl, rfl⟩, fun _ _ _ _ h => h, fun _ _ _ h => h, fun _ _ _ _ => rfl⟩, rfl, by simp [a2, hr1.size], hbig2⟩
    obtain ⟨x, hx, hrep⟩ := hr1.env t _ (her t v ht)
    refine ⟨x, ?_, rep_pull ρ hrep⟩
    have hne := hns t v ht
    simp only [a2]
    rw [Array.getElem?_setIfInBounds_ne (Ne.symm hne)]
    exact hx
  have hnew : ∀ b o, F2.B b o → w.heap.size ≤ b := fun b o ⟨i, m, hi, hp⟩ => by
    rcases hm2.wr i m b o hi hp with h | ⟨_, _, h, _⟩
    · exact h
    · cases h
  have hks2 : ∀ (j i : Nat), ks[j]? = some i → ∃ x z, us[j]? = some x ∧ g2.bx i = some z ∧ x = .pointer (some ⟨z.1, z.2, none⟩) := fun j i hj => by
    have h1 : is[j]? = some (ρ.f i) := by rw [← hρ, List.getElem?_map, hj]; rfl
    obtain ⟨x, hx, hrep⟩ := hus j _ h1
    cases hrep with
    | @p _ _ _ b o h => exact ⟨_, (b, o), hx, h, rfl⟩
  have hk1' := hr1.kept
  refine wp_mono ((h2 F2).go _ _ _ hr2) fun e a3 w3 ⟨env3, mem3, g3, le, q1, q3, q2⟩ => ?_
  have key : ∀ (rv : Option V) (u0 : FrameMode), DefFin P X fc ks rs R rv env3 mem3 → u0 ≠ .run → RvAt w3 g3 u0 rv →
      Leaves P fn a3.tmps (fun e w' => ∃ o mo g', R o mo ∧ Ev g w g' w' ∧ RelM (lentF g [] w) g' mo w' ∧ Kept (lentF g [] w) g' w' ∧ o.At w' g' e) a3.defers u0 w3 := by
    rintro rv u0 ⟨envR, mo3, mo4, u, v', t1, t2, t3, t4, t5, t6, ⟨keep, nn, t7⟩, t8, t9⟩ hu0 hrv
    simp only [Bool.and_eq_true] at t3 t4
    obtain ⟨t31, t32, t33, t34⟩ := t3
    obtain ⟨t41, t42⟩ := t4
    have hsub : Sub env3 mem3 envR mo3 := ⟨t1, t2, by rw [t31, t32, t33]; rfl⟩
    have hr3 := q1.sub hsub
    have hm4 : RelM (lentF (g3.only mo3) mo3 w3) (g3.only mo3) mo3 w3 := ⟨hr3.mem.ob, fun i m b o hi hp => .inr ⟨i, m, hi, hp⟩, hr3.mem.dj, hr3.mem.nbx, hr3.mem.nrw, hr3.mem.fut, ⟨fun _ _ h => h, fun i a l c h => ⟨a, l, c, h, Nat.le_refl _, fun _ => ⟨rfl, rfl⟩⟩⟩⟩
    have hd3 : a3.defers = [{ target := .fn (.func fc) us, args := #[] }] := q1.defers
    rw [hd3]
    have hargs : ∀ (j : Nat) y x, (ks.map fun i => V.p i 0)[j]? = some y → us[j]? = some x → Rep w3 (g3.only mo3) y x := fun j y x hj hx => by
      rw [List.getElem?_map] at hj
      obtain ⟨i, hi, rfl⟩ := Option.map_eq_some_iff.1 hj
      obtain ⟨x', z, hx', hz, rfl⟩ := hks2 j i hi
      rw [hx] at hx'; cases hx'
      have h3 := q1.mem.loc.bx i z hz
      have h4 := List.all_eq_true.1 t42 i (List.mem_of_getElem? hi)
      refine .p ?_
      show (if (aget mo3 i).isSome then g3.bx i else none) = _
      rw [if_pos h4]; exact h3
    have hrv2 : RvAt w3 (g3.only mo3) u0 rv := by
      cases rv with
      | none => exact hrv
      | some v => obtain ⟨x, h1, h2⟩ := hrv; exact ⟨x, h1, h2.only t41⟩
    have hlen : (ks.map fun i => V.p i 0).length = us.size := by rw [List.length_map, husz, hk3]
    have hinv : (invoke (.fn (.func fc) us) #[]).run P w3 = .ok (.enter fc us) w3 := by
      unfold callOk at hokc
      split at hokc
      · rename_i fn' hfn
        simp only [Bool.and_eq_true, Bool.not_eq_true', beq_eq_false_iff_ne, ne_eq] at hokc
        obtain ⟨hn, hb'⟩ := hokc
        obtain ⟨c, hc⟩ := Option.isSome_iff_exists.1 hb'
        simp [invoke, callFunc, hfn, hn, hc]
      · cases hokc
    refine leaves_cons hu0 hinv ((t5.go (g3.only mo3) w3 us u0 hm4 hlen hargs hrv2).mono fun e u' w4 hh => ?_)
    obtain ⟨⟨y, rfl⟩, hset, g4, hev4, hm5, hk4⟩ := hh
    show Leaves P fn a3.tmps _ [] (settle u') w4
    rw [hset]
    have hbig4 : (lentF (g3.only mo3) mo3 w3).Big := fun i hi => by
      have : aget mo3 i = none := by
        cases hg : aget mo3 i with
        | none => rfl
        | some m =>
          have h1 := Nat.le_of_ble_eq_true (List.all_eq_true.1 t34 _ (aget_mem hg))
          exact absurd h1 (by simp; omega)
      exact ⟨hm4.nbx i this, hm4.nrw i this⟩
    have hrel4 : Rel (lentF (g3.only mo3) mo3 w3) N g4 envR mo4 { a3 with defers := [] } w4 :=
      ⟨fun t v ht => by obtain ⟨x, h1, h2⟩ := hr3.env t v ht; exact ⟨x, h1, h2.mono hev4⟩, hm5, hk4, rfl, q1.size, hbig4⟩
    obtain ⟨x, hx, hrep⟩ := resV_run X hrel4 hrs (Nat.le_of_ble_eq_true hrl) t6
    have hk3' := q1.kept
    -- old blocks are as they were
    have hB4 : ∀ b o, (lentF (g3.only mo3) mo3 w3).B b o → w.heap.size ≤ b := fun b o ⟨i, m, hi, hp⟩ => by
      rcases hr3.mem.wr i m b o hi hp with h | h
      · exact Nat.le_trans hk1'.size h
      · exact hnew b o h
    have hs1 : w.heap.size ≤ w1.heap.size := hk1'.size
    have hs3 : w1.heap.size ≤ w3.heap.size := hk3'.size
    have hs4 : w3.heap.size ≤ w4.heap.size := hk4.size
    have hnB : ∀ b, b < w.heap.size → ∀ o, ¬ F2.B b o := fun b hb o h => by have := hnew b o h; omega
    have hnB4 : ∀ b, b < w.heap.size → ∀ o, ¬ (lentF (g3.only mo3) mo3 w3).B b o := fun b hb o h => by have := hB4 b o h; omega
    have hnB1 : ∀ b o, ¬ (lentF g [] w).B b o := fun b o ⟨_, _, h, _⟩ => by cases h
    have cell : ∀ b o, b < w.heap.size → w4.cell? ⟨b, o, none⟩ = w.cell? ⟨b, o, none⟩ ∧ w4.frozen? ⟨b, o, none⟩ = w.frozen? ⟨b, o, none⟩ := fun b o hb => by
      obtain ⟨p1, p2⟩ := hk1'.cell b o hb (hnB1 b o)
      obtain ⟨p3, p4⟩ := hk3'.cell b o (Nat.lt_of_lt_of_le hb hs1) (hnB b hb o)
      obtain ⟨p5, p6⟩ := hk4.cell b o (Nat.lt_of_lt_of_le hb (Nat.le_trans hs1 hs3)) (hnB4 b hb o)
      exact ⟨p5.trans (p3.trans p1), p6.trans (p4.trans p2)⟩
    have s2 : ∀ b o, b < w.heap.size → g.S b o → g4.S b o := fun b o hb hs =>
      hk4.S2 b o (Nat.lt_of_lt_of_le hb (Nat.le_trans hs1 hs3)) (hk3'.S2 b o (Nat.lt_of_lt_of_le hb hs1) (hk1'.S2 b o hb hs))
    have s1 : ∀ b o, b < w.heap.size → g4.S b o → g.S b o := fun b o hb hs =>
      hk1'.S1 b o hb (hnB1 b o) (hk3'.S1 b o (Nat.lt_of_lt_of_le hb hs1) (hnB b hb o) (hk4.S1 b o (Nat.lt_of_lt_of_le hb (Nat.le_trans hs1 hs3)) (hnB4 b hb o) hs))
    refine ⟨x, hx, .ret v', [], g4.only [], t9, ⟨Nat.le_trans hs1 (Nat.le_trans hs3 hs4), fun b o hb hs => ⟨s2 b o hb hs, (cell b o hb).1⟩, fun i z hz => ?_, fun r a l c hh => ?_⟩, ⟨fun _ _ h => (by cases h), fun _ _ _ _ h => (by cases h), fun _ _ _ _ _ _ _ h => (by cases h), fun i _ => rfl, fun i _ => rfl, hm5.fut, ⟨fun i z hz => ?_, fun i a l c hh => ?_⟩⟩,
      ⟨hk4.os.trans (hk3'.os.trans hk1'.os), hk4.tape.trans (hk3'.tape.trans hk1'.tape), hk4.output.trans (hk3'.output.trans hk1'.output), Nat.le_trans hs1 (Nat.le_trans hs3 hs4), fun b hb _ => ?_, fun b o hb _ => cell b o hb, fun b o hb _ hs => s1 b o hb hs, fun b o hb hs => s2 b o hb hs, fun b o hb _ => (cell b o hb).1⟩, x, rfl, ?_⟩
    · have := hm.nbx i rfl; rw [this] at hz; cases hz
    · have := hm.nrw r rfl; rw [this] at hh; cases hh
    · have := hm.nbx i rfl
      have hz' : g.bx i = some z := hz
      rw [this] at hz'; cases hz'
    · have := hm.nrw i rfl
      have hh' : g.rw i = some (a, l, c) := hh
      rw [this] at hh'; cases hh'
    · exact (hk4.blk b (Nat.lt_of_lt_of_le hb (Nat.le_trans hs1 hs3)) (hnB4 b hb)).trans ((hk3'.blk b (Nat.lt_of_lt_of_le hb hs1) (hnB b hb)).trans (hk1'.blk b hb (hnB1 b)))
    · subst t7
      exact (hrep.cv).only t8
  cases le with
  | normal => cases q3; exact key none .returning q2 (by simp) rfl
  | ret => cases q3; exact key none .returning q2 (by simp) rfl
  | exit _ => exact q2.elim
  | goto _ => exact q2.elim
  | pan v =>
    obtain ⟨x, rfl, hx⟩ := q3
    exact key (some v) (.panicking [{ v := x, recovered := false }]) q2 (by simp) ⟨x, rfl, hx⟩
end
end Lf
end Go.Proofs.Ytgeccggkdgpkiaa

/- Package pack: Split, by what is deferred; Decode. -/
namespace Go.Proofs.Ytgeccggkdgpkiaa
open Go.RowKit Rg Wm Ar
set_option maxRecDepth 100000
namespace Lf
open Pk
abbrev i64K (z : Int) : V := .k (.int .i64 z)
namespace Pw
theorem ren3 (l : List UInt8) (X : List V) (hX : ∀ ρ : Nat → Nat, X.map (V.ren ρ) = X) (Y Z : V) (hY : ∀ ρ : Nat → Nat, Y.ren ρ = Y) (hZ : ∀ ρ : Nat → Nat, Z.ren ρ = Z) (ρ : Pm) (hρ : [1002, 1003, 1004].map ρ.f = [2, 3, 4]) :
    Mem.ren ρ.f [(1002, .b X), (1003, .b [Y]), (1004, .b [Z])] = [(2, .b X), (3, .b [Y]), (4, .b [Z])] ∧
    ∀ t v, aget [(0, bV l), (2, V.p 1002 0), (3, V.p 1003 0), (4, V.p 1004 0)] t = some v → aget [(0, bV l), (2, V.p 2 0), (3, V.p 3 0), (4, V.p 4 0)] t = some (v.ren ρ.f) := by
  simp only [List.map_cons, List.map_nil, List.cons.injEq, and_true] at hρ
  obtain ⟨h1, h2, h3⟩ := hρ
  refine ⟨by simp [Mem.ren, M.ren, h1, h2, h3, hX, hY, hZ], fun t v h => ?_⟩
  simp only [aget_cons] at h ⊢
  by_cases e0 : 0 = t
  · rw [if_pos e0] at h ⊢; cases h; rfl
  · rw [if_neg e0] at h ⊢
    by_cases e2 : 2 = t
    · rw [if_pos e2] at h ⊢; cases h; simp [V.ren, h1]
    · rw [if_neg e2] at h ⊢
      by_cases e3 : 3 = t
      · rw [if_pos e3] at h ⊢; cases h; simp [V.ren, h2]
      · rw [if_neg e3] at h ⊢
        by_cases e4 : 4 = t
        · rw [if_pos e4] at h ⊢; cases h; simp [V.ren, h3]
        · rw [if_neg e4] at h; cases h
set_option maxHeartbeats 1000000 in
theorem Split_idle (k : Itm) (y z : Int) : DefC Try.prog 47 ([1002, 1003, 1004].map fun i => .p i 0) none [(1002, .b (itC k)), (1003, .b [i64K y]), (1004, .b [i64K z])] [(1002, .b (itC k)), (1003, .b [i64K y]), (1004, .b [i64K z])] := by
  have hrf := itC_refs
  refine DefC.enter tt Try.func47 rfl rfl rfl rfl rfl rfl rfl rfl rfl rfl rfl rfl rfl rfl rfl rfl fun F _ => ?_
  exact wk trueW trueW trueW
set_option maxHeartbeats 1000000 in
theorem Split_mis : DefC Try.prog 47 ([1002, 1003, 1004].map fun i => .p i 0) (some misV) [(1002, .b [.k (.bool false), .nil, .nil]), (1003, .b [i64K 0]), (1004, .b [i64K 0])] [(1002, .b [.k (.bool false), .nil, .nil]), (1003, .b [i64K 0]), (1004, .b [i64K 1])] := by
  refine DefC.enter tt Try.func47 rfl rfl rfl rfl rfl rfl rfl rfl rfl rfl rfl rfl rfl rfl rfl rfl fun F _ => ?_
  exact wk trueW trueW trueW
set_option maxHeartbeats 2000000 in
theorem Split_ok (l r : List UInt8) (k : Itm) (hl : l.length < 1073741000) (h : rd l = some (k, r)) : LF Try.prog 34 [bV l] (fun _ => .t [itV k, i64K ((l.length - r.length : Nat) : Int), i64K 0]) none := by
  have c1 := (item_all l.length l (Nat.le_refl _) hl).1 k r h
  have hlt := rd_len h
  have hd := Split_idle k ((l.length - r.length : Nat) : Int) 0
  have hk3 := itC_len k
  have hrf := itC_refs
  refine LM.enterD tt [1002, 1003, 1004] [2, 3, 4] [(0, bV l), (2, .p 2 0), (3, .p 3 0), (4, .p 4 0)] [(0, bV l), (2, .p 1002 0), (3, .p 1003 0), (4, .p 1004 0)] [(2, .b [.k (.bool false), .nil, .nil]), (3, .b [i64K 0]), (4, .b [i64K 0])] [(1002, .b [.k (.bool false), .nil, .nil]), (1003, .b [i64K 0]), (1004, .b [i64K 0])]
    Try.func34 rfl rfl rfl (by kernel_rfl) (by kernel_rfl) rfl rfl (caps := [.tmp 2, .tmp 3, .tmp 4]) rfl rfl rfl rfl rfl rfl rfl rfl rfl rfl (by decide) (by decide) rfl (fun ρ hρ => ren3 l _ (fun _ => rfl) _ _ (fun _ => rfl) (fun _ => rfl) ρ hρ) rfl (fun t v ht e => by subst e; have ht' : (none : Option V) = some v := ht; cases ht') (fun F _ => ?_) fun F => ?_
  · refine wk ?_ trueW trueW
    exact ⟨⟨rfl, rfl, rfl, rfl, trivial⟩, ⟨rfl, rfl, rfl, trivial⟩, rfl⟩
  · refine wk ?_ trueW trueW
    refine ⟨[(2, .p 1002 0), (3, .p 1003 0), (4, .p 1004 0)], [(1002, .b (itC k)), (1003, .b [i64K ((l.length - r.length : Nat) : Int)]), (1004, .b [i64K 0])], [(1002, .b (itC k)), (1003, .b [i64K ((l.length - r.length : Nat) : Int)]), (1004, .b [i64K 0])], _, _, ⟨rfl, rfl, rfl, trivial⟩, ⟨rfl, rfl, rfl, trivial⟩, ?_, rfl, hd, resV_3 (res1_cell rfl rfl rfl (part_whole rfl hk3)) (res1_cell rfl rfl rfl rfl) (res1_cell rfl rfl rfl rfl), ⟨fun _ => true, false, cv_same _⟩, ?_, rfl, rfl⟩
    · simp only [refsE, refsM, V.refs, V.refs.go, hrf, Bool.and_true, Bool.true_and, Bool.and_self]; rfl
    · simp only [V.refs, V.refs.go, hrf, Bool.and_true, Bool.true_and, Bool.and_self]
set_option maxHeartbeats 2000000 in
theorem Split_no (l : List UInt8) (hl : l.length < 1073741000) (h : rd l = none) : LF Try.prog 34 [bV l] (fun _ => .t [.a [.k (.bool false), .s none [], .s none []], i64K 0, i64K 1]) none := by
  obtain ⟨r, p1⟩ := (item_all l.length l (Nat.le_refl _) hl).2 h
  have hd := Split_mis
  have hp1 : PanIn 3 0 := ⟨trivial⟩
  refine LM.enterD tt [1002, 1003, 1004] [2, 3, 4] [(0, bV l), (2, .p 2 0), (3, .p 3 0), (4, .p 4 0)] [(0, bV l), (2, .p 1002 0), (3, .p 1003 0), (4, .p 1004 0)] [(2, .b [.k (.bool false), .nil, .nil]), (3, .b [i64K 0]), (4, .b [i64K 0])] [(1002, .b [.k (.bool false), .nil, .nil]), (1003, .b [i64K 0]), (1004, .b [i64K 0])]
    Try.func34 rfl rfl rfl (by kernel_rfl) (by kernel_rfl) rfl rfl (caps := [.tmp 2, .tmp 3, .tmp 4]) rfl rfl rfl rfl rfl rfl rfl rfl rfl rfl (by decide) (by decide) rfl (fun ρ hρ => ren3 l _ (fun _ => rfl) _ _ (fun _ => rfl) (fun _ => rfl) ρ hρ) rfl (fun t v ht e => by subst e; have ht' : (none : Option V) = some v := ht; cases ht') (fun F _ => ?_) fun F => ?_
  · refine wk ?_ trueW trueW
    exact ⟨⟨rfl, rfl, rfl, rfl, trivial⟩, ⟨rfl, rfl, rfl, trivial⟩, rfl⟩
  · refine wk ?_ trueW trueW
    refine ⟨[(2, .p 1002 0), (3, .p 1003 0), (4, .p 1004 0)], [(1002, .b [.k (.bool false), .nil, .nil]), (1003, .b [i64K 0]), (1004, .b [i64K 0])], [(1002, .b [.k (.bool false), .nil, .nil]), (1003, .b [i64K 0]), (1004, .b [i64K 1])], _, _, ⟨rfl, rfl, rfl, trivial⟩, ⟨rfl, rfl, rfl, trivial⟩, rfl, rfl, hd, resV_3 (res1_cell rfl rfl rfl rfl) (res1_cell rfl rfl rfl rfl) (res1_cell rfl rfl rfl rfl), ⟨fun _ => false, true, rfl⟩, rfl, rfl, rfl⟩
theorem zero_item : V.a [.k (.bool false), .s none [], .s none []] = itV (.mk false [] []) := by rw [itV_false]; rfl
set_option maxHeartbeats 1000000 in
theorem Decode_ok (l : List UInt8) (k : Itm) (hl : l.length < 1073741000) (h : dec l = some k) : LF Try.prog 33 [bV l] (fun _ => .t [itV k, i64K 0]) none := by
  have hr : rd l = some (k, []) := by
    unfold dec at h
    cases hr : rd l with
    | none => rw [hr] at h; cases h
    | some x =>
      obtain ⟨k', r⟩ := x
      rw [hr] at h
      cases r with
      | nil => cases h; rfl
      | cons => cases h
  have c1 := Split_ok l [] k hl hr
  have hk3 := itC_len k
  have hrf := itC_refs
  clear h hr
  refine LFx.mk' tt Try.func33 rfl rfl rfl (by kernel_rfl) rfl rfl fun F => ?_
  exact wk trueW trueW trueW
set_option maxHeartbeats 1000000 in
theorem Decode_no (l : List UInt8) (hl : l.length < 1073741000) (h : dec l = none) : LF Try.prog 33 [bV l] (fun _ => .t [.a [.k (.bool false), .s none [], .s none []], i64K 1]) none := by
  cases hr : rd l with
  | none =>
    have c1 := Split_no l hl hr
    clear h hr
    refine LFx.mk' tt Try.func33 rfl rfl rfl (by kernel_rfl) rfl rfl fun F => ?_
    exact wk trueW trueW trueW
  | some x =>
    obtain ⟨k, r⟩ := x
    have hlt := rd_len hr
    have hne : 0 < r.length := by
      rcases Nat.eq_zero_or_pos r.length with h0 | h0
      · rw [List.eq_nil_of_length_eq_zero h0] at hr
        unfold dec at h
        rw [hr] at h
        cases h
      · exact h0
    have c1 := Split_ok l r k hl hr
    have hk3 := itC_len k
    have hrf := itC_refs
    clear h hr
    refine LFx.mk' tt Try.func33 rfl rfl rfl (by kernel_rfl) rfl rfl fun F => ?_
    exact wk trueW trueW trueW
end Pw
end Lf
end Go.Proofs.Ytgeccggkdgpkiaa
