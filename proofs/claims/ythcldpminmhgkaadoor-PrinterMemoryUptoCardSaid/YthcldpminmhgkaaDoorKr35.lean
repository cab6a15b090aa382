/- Merged for a claim by shake.py: Jan Jop Jba -/
import Derived.Test.YthcldpminmhgkaaDoorKrA
import Derived.Lib.LaidU8
import Derived.Test.YthcldpminmhgkaaDoorKr17
import Derived.Test.YthcldpminmhgkaaDoorKr31
set_option maxRecDepth 100000
set_option maxHeartbeats 4000000
set_option linter.unusedSimpArgs false
set_option linter.unusedVariables false
section
namespace Go.Proofs.YthcldpminmhgkaaDoor
open Go.RowKit
theorem PrEnv.env {w w' : World} (h : PrEnv w w.heap.size) (hb : Below w.heap.size w w') : PrEnv w' w'.heap.size :=
 ⟨h.asks.belowB h.h1 hb, h.cls.belowB h.h2 hb, h.pow.belowB h.h3 hb, Nat.lt_of_lt_of_le h.h1 hb.size, Nat.lt_of_lt_of_le h.h2 hb.size, Nat.lt_of_lt_of_le h.h3 hb.size⟩
theorem pprint_yes (t : Nd) (hg : goodN t = true) (w : World) (F : Nat → Prop) (x : NV) (ea : List Addr) (ei : Nat) (hx : NdR w F x t) (hbk : bkN t ≤ 300000000000) (hA : PrEnv w w.heap.size) (hE : ErrAt w 0 (errI ea ei)) :
  Calls Tryd.prog 19 #[x.val] w fun e w' => Below w.heap.size w w' ∧ e = .returned (.tuple #[.string (str (formN (canonN t))), .nilIface]) := by
 have HA := LH hA; have HE := LH hE; have HX := LH hx
 clear hA hE hx
 obtain ⟨kd, fl, tx, xn, ⟨la, lb, lc⟩, ⟨ra, rb, rc⟩, ⟨oa, on, oc⟩, ⟨ka, kn, kc⟩⟩ := x
 have HB1 := LH ((Below.refl w.heap.size w).alloc (Nat.le_refl _) (.cells #[.int .i64 kd, .string (str fl), .string (str tx), .int .i64 xn, .bool la, .bool lb, .string (str lc), .bool ra, .bool rb, .string (str rc), .slice oa on oc, .slice ka kn kc] 27))
 have HN1 := LH (Blk.new w 27 #[.int .i64 kd, .string (str fl), .string (str tx), .int .i64 xn, .bool la, .bool lb, .string (str lc), .bool ra, .bool rb, .string (str rc), .slice oa on oc, .slice ka kn kc])
 have HX1 := LH (HX.out.belowW HB1.out)
 have HC := LH (pcanonw_yes t hg (w.alloc (.cells #[.int .i64 kd, .string (str fl), .string (str tx), .int .i64 xn, .bool la, .bool lb, .string (str lc), .bool ra, .bool rb, .string (str rc), .slice oa on oc, .slice ka kn kc] 27)) F _ ea ei HX1.out (Nat.le_trans hbk (by decide)) (HA.out.env HB1.out).asks (HE.out.below HE.out.2 HB1.out))
 unfold NV.val at HC ⊢
 simp only [] at HC
 go_enter Tryd.func19, Tryd.ntmps19
 go_wp2_with fail
 generalize (w.alloc (.cells #[.int .i64 kd, .string (str fl), .string (str tx), .int .i64 xn, .bool la, .bool lb, .string (str lc), .bool ra, .bool rb, .string (str rc), .slice oa on oc, .slice ka kn kc] 27)) = w1 at *
 have nzz := HN1.out
 obtain ⟨n0, n1, n2, n3, n4, n5, n6, n7, n8, n9, n10, n11, -, -, -, -, -, -, -, -, -, -, -, -, ln⟩ := blk12 nzz; (try simp only [World.size_alloc] at ln)
 clear nzz
 refine HC.out.mono ?_
 rintro e w2 ⟨hb2, kq, nq, fq, tq, aq, bq, cq, dq, eq, gq, oq, pq, qq, rq, sq, uq, rfl, hy⟩
 have HB2 := LH (HB1.out.trans (hb2.mono HB1.out.size))
 have HB3 := LH ((Below.refl w2.heap.size w2).alloc (Nat.le_refl _) (.cells #[.int .i64 kq, .string (str fq), .string (str tq), .int .i64 nq, .bool aq, .bool bq, .string (str cq), .bool dq, .bool eq, .string (str gq), .slice oq pq qq, .slice rq sq uq] 27))
 have HBW := LH (HB2.out.trans (HB3.out.mono HB2.out.size))
 have HZ3 := LH (Blk.new w2 27 #[.int .i64 kq, .string (str fq), .string (str tq), .int .i64 nq, .bool aq, .bool bq, .string (str cq), .bool dq, .bool eq, .string (str gq), .slice oq pq qq, .slice rq sq uq])
 have HY := LH ((hy.belowW HB3.out))
 have HSZ := LH (show w2.heap.size + 1 = (w2.alloc (.cells #[.int .i64 kq, .string (str fq), .string (str tq), .int .i64 nq, .bool aq, .bool bq, .string (str cq), .bool dq, .bool eq, .string (str gq), .slice oq pq qq, .slice rq sq uq] 27)).heap.size from (World.size_alloc ..).symm)
 have HF := LH (form_any (canonN t) (w2.alloc (.cells #[.int .i64 kq, .string (str fq), .string (str tq), .int .i64 nq, .bool aq, .bool bq, .string (str cq), .bool dq, .bool eq, .string (str gq), .slice oq pq qq, .slice rq sq uq] 27)) (w2.alloc (.cells #[.int .i64 kq, .string (str fq), .string (str tq), .int .i64 nq, .bool aq, .bool bq, .string (str cq), .bool dq, .bool eq, .string (str gq), .slice oq pq qq, .slice rq sq uq] 27)).heap.size _ (.slice none 0 0) [] ((hy.belowW HB3.out).mono (G := fun b => b < (w2.alloc (.cells #[.int .i64 kq, .string (str fq), .string (str tq), .int .i64 nq, .bool aq, .bool bq, .string (str cq), .bool dq, .bool eq, .string (str gq), .slice oq pq qq, .slice rq sq uq] 27)).heap.size) fun b h => by rw [World.size_alloc]; exact Nat.lt_succ_of_lt h.2) (Nat.le_trans (canon_bk t) hbk) (canon_good t hg) (HA.out.env HBW.out) (OwnB.nil _ _) (Nat.le_refl _) (by
  have h1 := form_len (canonN t) (canon_good t hg)
  have h2 := size_bk (canonN t)
  have h3 := canon_bk t
  rw [List.length_nil]; omega))
 unfold NV.val at HF
 simp only [List.nil_append] at HF
 clear hb2 hy n0 n1 n2 n3 n4 n5 n6 n7 n8 n9 n10 n11 ln
 have zzz := HZ3.out
 obtain ⟨z0, z1, z2, z3, z4, z5, z6, z7, z8, z9, z10, z11, -, -, -, -, -, -, -, -, -, -, -, -, lz⟩ := blk12 zzz; (try simp only [World.size_alloc] at lz)
 clear zzz
 go_wp2_with fail
 generalize hw3 : (w2.alloc (.cells #[.int .i64 kq, .string (str fq), .string (str tq), .int .i64 nq, .bool aq, .bool bq, .string (str cq), .bool dq, .bool eq, .string (str gq), .slice oq pq qq, .slice rq sq uq] 27)) = w3 at *
 refine HF.out.mono ?_
 rintro e w4 ⟨v, rfl, ho, hb4, -⟩
 have hcv := ho.conv
 have HB4 := LH (HBW.out.trans (hb4.mono HBW.out.size))
 clear ho hb4
 go_wp2
 refine bodyPost_ret (v := .tuple #[.string (str (formN (canonN t))), .nilIface]) ?_ rfl ?_
 ·simp [results, Tryd.results19, go_sem]
 ·exact ⟨HB4.out, rfl⟩
theorem pnestw_yes (t : Nd) (hg : goodN t = true) (w : World) (F : Nat → Prop) (x : NV) (ea : List Addr) (ei : Nat) (hx : NdR w F x t) (hbk : bkN t ≤ 900000000000) (hA : PrEnv w w.heap.size) (hE : ErrAt w 0 (errI ea ei)) :
  Calls Tryd.prog 20 #[x.val] w fun e w' => Below w.heap.size w w' ∧ e = .returned (.tuple #[.int .i64 (nestN (canonN t) : Int), .nilIface]) := by
 have HA := LH hA; have HE := LH hE; have HX := LH hx
 clear hA hE hx
 obtain ⟨kd, fl, tx, xn, ⟨la, lb, lc⟩, ⟨ra, rb, rc⟩, ⟨oa, on, oc⟩, ⟨ka, kn, kc⟩⟩ := x
 have HB1 := LH ((Below.refl w.heap.size w).alloc (Nat.le_refl _) (.cells #[.int .i64 kd, .string (str fl), .string (str tx), .int .i64 xn, .bool la, .bool lb, .string (str lc), .bool ra, .bool rb, .string (str rc), .slice oa on oc, .slice ka kn kc] 27))
 have HN1 := LH (Blk.new w 27 #[.int .i64 kd, .string (str fl), .string (str tx), .int .i64 xn, .bool la, .bool lb, .string (str lc), .bool ra, .bool rb, .string (str rc), .slice oa on oc, .slice ka kn kc])
 have HX1 := LH (HX.out.belowW HB1.out)
 have HC := LH (pcanonw_yes t hg (w.alloc (.cells #[.int .i64 kd, .string (str fl), .string (str tx), .int .i64 xn, .bool la, .bool lb, .string (str lc), .bool ra, .bool rb, .string (str rc), .slice oa on oc, .slice ka kn kc] 27)) F _ ea ei HX1.out (Nat.le_trans hbk (by decide)) (HA.out.env HB1.out).asks (HE.out.below HE.out.2 HB1.out))
 unfold NV.val at HC ⊢
 simp only [] at HC
 go_enter Tryd.func20, Tryd.ntmps20
 go_wp2_with fail
 generalize (w.alloc (.cells #[.int .i64 kd, .string (str fl), .string (str tx), .int .i64 xn, .bool la, .bool lb, .string (str lc), .bool ra, .bool rb, .string (str rc), .slice oa on oc, .slice ka kn kc] 27)) = w1 at *
 have nzz := HN1.out
 obtain ⟨n0, n1, n2, n3, n4, n5, n6, n7, n8, n9, n10, n11, -, -, -, -, -, -, -, -, -, -, -, -, ln⟩ := blk12 nzz; (try simp only [World.size_alloc] at ln)
 clear nzz
 refine HC.out.mono ?_
 rintro e w2 ⟨hb2, kq, nq, fq, tq, aq, bq, cq, dq, eq, gq, oq, pq, qq, rq, sq, uq, rfl, hy⟩
 have HB2 := LH (HB1.out.trans (hb2.mono HB1.out.size))
 have HB3 := LH ((Below.refl w2.heap.size w2).alloc (Nat.le_refl _) (.cells #[.int .i64 kq, .string (str fq), .string (str tq), .int .i64 nq, .bool aq, .bool bq, .string (str cq), .bool dq, .bool eq, .string (str gq), .slice oq pq qq, .slice rq sq uq] 27))
 have HBW := LH (HB2.out.trans (HB3.out.mono HB2.out.size))
 have HZ3 := LH (Blk.new w2 27 #[.int .i64 kq, .string (str fq), .string (str tq), .int .i64 nq, .bool aq, .bool bq, .string (str cq), .bool dq, .bool eq, .string (str gq), .slice oq pq qq, .slice rq sq uq])
 have HY := LH ((hy.belowW HB3.out))
 have HF := LH (pnest_any (canonN t) (w2.alloc (.cells #[.int .i64 kq, .string (str fq), .string (str tq), .int .i64 nq, .bool aq, .bool bq, .string (str cq), .bool dq, .bool eq, .string (str gq), .slice oq pq qq, .slice rq sq uq] 27)) _ _ (hy.belowW HB3.out) (Nat.le_trans (canon_bk t) hbk) (canon_good t hg) (HA.out.env HBW.out).asks)
 unfold NV.val at HF
 simp only [] at HF
 clear hb2 hy n0 n1 n2 n3 n4 n5 n6 n7 n8 n9 n10 n11 ln
 have zzz := HZ3.out
 obtain ⟨z0, z1, z2, z3, z4, z5, z6, z7, z8, z9, z10, z11, -, -, -, -, -, -, -, -, -, -, -, -, lz⟩ := blk12 zzz; (try simp only [World.size_alloc] at lz)
 clear zzz
 go_wp2_with fail
 generalize hw3 : (w2.alloc (.cells #[.int .i64 kq, .string (str fq), .string (str tq), .int .i64 nq, .bool aq, .bool bq, .string (str cq), .bool dq, .bool eq, .string (str gq), .slice oq pq qq, .slice rq sq uq] 27)) = w3 at *
 refine HF.out.mono ?_
 rintro e w4 ⟨rfl, hb4⟩
 have HB4 := LH (HBW.out.trans (hb4.mono HBW.out.size))
 clear hb4
 go_wp2
 refine bodyPost_ret (v := .tuple #[.int .i64 (nestN (canonN t) : Int), .nilIface]) ?_ rfl ?_
 ·simp [results, Tryd.results20, go_sem]
 ·exact ⟨HB4.out, rfl⟩
theorem pprint_no (t : Nd) (hg : goodN t = false) (w : World) (F : Nat → Prop) (x : NV) (ea : List Addr) (ei : Nat) (hx : NdR w F x t) (hbk : bkN t ≤ 900000000000) (hA : PrEnv w w.heap.size) (hE : ErrAt w 0 (errI ea ei)) :
  Calls Tryd.prog 19 #[x.val] w fun e w' => Below w.heap.size w w' ∧ e = .returned (.tuple #[.string (str []), errI ea ei]) := by
 have HA := LH hA; have HE := LH hE; have HX := LH hx
 clear hA hE hx
 obtain ⟨kd, fl, tx, xn, ⟨la, lb, lc⟩, ⟨ra, rb, rc⟩, ⟨oa, on, oc⟩, ⟨ka, kn, kc⟩⟩ := x
 have HB1 := LH ((Below.refl w.heap.size w).alloc (Nat.le_refl _) (.cells #[.int .i64 kd, .string (str fl), .string (str tx), .int .i64 xn, .bool la, .bool lb, .string (str lc), .bool ra, .bool rb, .string (str rc), .slice oa on oc, .slice ka kn kc] 27))
 have HN1 := LH (Blk.new w 27 #[.int .i64 kd, .string (str fl), .string (str tx), .int .i64 xn, .bool la, .bool lb, .string (str lc), .bool ra, .bool rb, .string (str rc), .slice oa on oc, .slice ka kn kc])
 have HX1 := LH (HX.out.belowW HB1.out)
 have HC := LH (pcanonw_no t hg (w.alloc (.cells #[.int .i64 kd, .string (str fl), .string (str tx), .int .i64 xn, .bool la, .bool lb, .string (str lc), .bool ra, .bool rb, .string (str rc), .slice oa on oc, .slice ka kn kc] 27)) F _ ea ei HX1.out hbk (HA.out.env HB1.out).asks (HE.out.below HE.out.2 HB1.out))
 have hz1 := fun W => errI_nnil ea ei W
 have hz2 := fun op x y W => errI_guard0 ea ei op x y W
 generalize hv : errI ea ei = v at *
 unfold NV.val at HC ⊢
 simp only [] at HC
 go_enter Tryd.func19, Tryd.ntmps19
 go_wp2_with fail
 generalize (w.alloc (.cells #[.int .i64 kd, .string (str fl), .string (str tx), .int .i64 xn, .bool la, .bool lb, .string (str lc), .bool ra, .bool rb, .string (str rc), .slice oa on oc, .slice ka kn kc] 27)) = w1 at *
 have nzz := HN1.out
 obtain ⟨n0, n1, n2, n3, n4, n5, n6, n7, n8, n9, n10, n11, -, -, -, -, -, -, -, -, -, -, -, -, ln⟩ := blk12 nzz; (try simp only [World.size_alloc] at ln)
 clear nzz
 refine HC.out.mono ?_
 rintro e w2 ⟨hb2, rfl⟩
 have HB2 := LH (HB1.out.trans (hb2.mono HB1.out.size))
 have HBW := LH (HB2.out.trans (((Below.refl w2.heap.size w2).alloc (Nat.le_refl _) zO).mono HB2.out.size))
 clear hb2 n0 n1 n2 n3 n4 n5 n6 n7 n8 n9 n10 n11 ln
 go_wp2
 refine bodyPost_ret (v := .tuple #[.string (str []), v]) ?_ rfl ?_
 ·simp [results, Tryd.results19, go_sem, str]
 ·exact ⟨HBW.out, rfl⟩
theorem pnestw_no (t : Nd) (hg : goodN t = false) (w : World) (F : Nat → Prop) (x : NV) (ea : List Addr) (ei : Nat) (hx : NdR w F x t) (hbk : bkN t ≤ 900000000000) (hA : PrEnv w w.heap.size) (hE : ErrAt w 0 (errI ea ei)) :
  Calls Tryd.prog 20 #[x.val] w fun e w' => Below w.heap.size w w' ∧ e = .returned (.tuple #[.int .i64 0, errI ea ei]) := by
 have HA := LH hA; have HE := LH hE; have HX := LH hx
 clear hA hE hx
 obtain ⟨kd, fl, tx, xn, ⟨la, lb, lc⟩, ⟨ra, rb, rc⟩, ⟨oa, on, oc⟩, ⟨ka, kn, kc⟩⟩ := x
 have HB1 := LH ((Below.refl w.heap.size w).alloc (Nat.le_refl _) (.cells #[.int .i64 kd, .string (str fl), .string (str tx), .int .i64 xn, .bool la, .bool lb, .string (str lc), .bool ra, .bool rb, .string (str rc), .slice oa on oc, .slice ka kn kc] 27))
 have HN1 := LH (Blk.new w 27 #[.int .i64 kd, .string (str fl), .string (str tx), .int .i64 xn, .bool la, .bool lb, .string (str lc), .bool ra, .bool rb, .string (str rc), .slice oa on oc, .slice ka kn kc])
 have HX1 := LH (HX.out.belowW HB1.out)
 have HC := LH (pcanonw_no t hg (w.alloc (.cells #[.int .i64 kd, .string (str fl), .string (str tx), .int .i64 xn, .bool la, .bool lb, .string (str lc), .bool ra, .bool rb, .string (str rc), .slice oa on oc, .slice ka kn kc] 27)) F _ ea ei HX1.out hbk (HA.out.env HB1.out).asks (HE.out.below HE.out.2 HB1.out))
 have hz1 := fun W => errI_nnil ea ei W
 have hz2 := fun op x y W => errI_guard0 ea ei op x y W
 generalize hv : errI ea ei = v at *
 unfold NV.val at HC ⊢
 simp only [] at HC
 go_enter Tryd.func20, Tryd.ntmps20
 go_wp2_with fail
 generalize (w.alloc (.cells #[.int .i64 kd, .string (str fl), .string (str tx), .int .i64 xn, .bool la, .bool lb, .string (str lc), .bool ra, .bool rb, .string (str rc), .slice oa on oc, .slice ka kn kc] 27)) = w1 at *
 have nzz := HN1.out
 obtain ⟨n0, n1, n2, n3, n4, n5, n6, n7, n8, n9, n10, n11, -, -, -, -, -, -, -, -, -, -, -, -, ln⟩ := blk12 nzz; (try simp only [World.size_alloc] at ln)
 clear nzz
 refine HC.out.mono ?_
 rintro e w2 ⟨hb2, rfl⟩
 have HB2 := LH (HB1.out.trans (hb2.mono HB1.out.size))
 have HBW := LH (HB2.out.trans (((Below.refl w2.heap.size w2).alloc (Nat.le_refl _) zO).mono HB2.out.size))
 clear hb2 n0 n1 n2 n3 n4 n5 n6 n7 n8 n9 n10 n11 ln
 go_wp2
 refine bodyPost_ret (v := .tuple #[.int .i64 0, v]) ?_ rfl ?_
 ·simp [results, Tryd.results20, go_sem, str]
 ·exact ⟨HBW.out, rfl⟩
end Go.Proofs.YthcldpminmhgkaaDoor
end
section
namespace Go.Proofs.YthcldpminmhgkaaDoor
open Go.RowKit Go.ChangeShapes Go.WideShapes Go.Deep
theorem str_self15 (s : ByteArray) : str s.data.toList = s := ba_ext (by rw [str_data])
theorem bulk_pos15 {H : Type} (d : DataW H) : 1 ≤ Rows.uptoBulk d := by
 cases d with
 | lit l => cases l <;> (unfold Rows.uptoBulk; omega)
 | _ => unfold Rows.uptoBulk; omega
theorem bulk_len15 {H : Type} : ∀ (l : List (DataW H)), l.length ≤ Rows.uptoBulkAll l
 | [] => by simp
 | x :: l => by
  unfold Rows.uptoBulkAll
  have := bulk_len15 l
  have := bulk_pos15 x
  simp only [List.length_cons]; omega
theorem ndFieldsT : ((Tryd.prog.fieldsOf 27).map (fun f => (f.type, f.offset))).toList = [(3, 0), (9, 1), (9, 2), (3, 3), (23, 4), (23, 7), (24, 10), (25, 11)] := by kernel_rfl
theorem bdFieldsT : ((Tryd.prog.fieldsOf 23).map (fun f => (f.type, f.offset))).toList = [(4, 0), (4, 1), (9, 2)] := by kernel_rfl
theorem ndStruct15 : Tryd.prog.underlying 27 = some (.struct (Tryd.prog.fieldsOf 27)) := by kernel_rfl
theorem bdStruct15 : Tryd.prog.underlying 23 = some (.struct (Tryd.prog.fieldsOf 23)) := by kernel_rfl
theorem fd_at15 {T : TypeId} {L : List (TypeId × Nat)} (hL : ((Tryd.prog.fieldsOf T).map (fun f => (f.type, f.offset))).toList = L) (j : Nat) (t : TypeId) (o : Nat) (h : L[j]? = some (t, o)) : ∃ f, (Tryd.prog.fieldsOf T)[j]? = some f ∧ f.type = t ∧ f.offset = o := by
 rw [← hL, Array.getElem?_toList, Array.getElem?_map] at h
 obtain ⟨f, h1, h2⟩ := Option.map_eq_some_iff.1 h
 injection h2 with h3 h4
 exact ⟨f, h1, h3, h4⟩
section
variable {H : Type} {enc : TypeId × Value → H} {W : World} {held : Bool}
theorem open_bd {fuel : Nat} {cs : List Value} {x : DataW H × List MemPlace} (h : DataW.trod enc Tryd.prog W 0 (fun _ => true) held fuel 23 cs = some x) :
  ∃ b : Bd, cs = [.bool b.open_, .bool b.in_, .string (str b.text)] ∧ b.text.length ≤ Rows.uptoBulk x.1 := by
 obtain ⟨xs, n, rfl, hx, hl, hxl, hf⟩ := DataW.trod_struct bdStruct15 h
 rw [show Tryd.prog.cellsOf 23 = 3 by kernel_rfl] at hl
 rw [show (Tryd.prog.fieldsOf 23).size = 3 by kernel_rfl] at hxl
 match cs, hl, xs, hxl with
 | [c0, c1, c2], _, [y0, y1, y2], _ =>
  obtain ⟨f0, g0, t0, o0⟩ := fd_at15 bdFieldsT 0 _ _ rfl
  obtain ⟨f1, g1, t1, o1⟩ := fd_at15 bdFieldsT 1 _ _ rfl
  obtain ⟨f2, g2, t2, o2⟩ := fd_at15 bdFieldsT 2 _ _ rfl
  have r0 := hf 0 f0 g0
  have r1 := hf 1 f1 g1
  have r2 := hf 2 f2 g2
  rw [t0, o0, show Tryd.prog.cellsOf 4 = 1 by kernel_rfl] at r0
  rw [t1, o1, show Tryd.prog.cellsOf 4 = 1 by kernel_rfl] at r1
  rw [t2, o2, show Tryd.prog.cellsOf 9 = 1 by kernel_rfl] at r2
  obtain ⟨b0, e0, rfl⟩ := DataW.trod_bool Tryd.underlying4 (show _ = some y0 from r0)
  obtain ⟨b1, e1, rfl⟩ := DataW.trod_bool Tryd.underlying4 (show _ = some y1 from r1)
  obtain ⟨s, e2, rfl, hs⟩ := DataW.trod_string Tryd.underlying9 (show _ = some y2 from r2)
  simp only [List.drop_zero, List.take_succ_cons, List.take_zero, List.drop_succ_cons, List.cons.injEq, and_true] at e0 e1 e2
  subst e0 e1 e2
  refine ⟨⟨b0, b1, s.data.toList⟩, by rw [str_self15], ?_⟩
  rw [hx]
  simp only [List.map_cons, List.map_nil, Rows.uptoBulk, Rows.uptoBulkAll]
  omega
theorem open_occ {fuel : Nat} {cs : List Value} {x : DataW H × List MemPlace} (h : DataW.trod enc Tryd.prog W 0 (fun _ => true) held fuel 24 cs = some x) :
  ∃ (s : Sl) (l : List Int), cs = [.slice s.a s.n s.c] ∧ RdF folS W (fun b => b < W.heap.size) s l ∧ l.length + 1 ≤ Rows.uptoBulk x.1 := by
 rcases DataW.trod_slice Tryd.underlying24 h with ⟨rfl, rfl⟩ | ⟨a, len, cap, elems, rest, n, rfl, rfl, rfl, hb, hl, hm, hel, hi, -, -⟩
 ·exact ⟨⟨none, 0, 0⟩, [], rfl, RdF.nil _ _ _, by simp [Rows.uptoBulk]⟩
 ·have hat : ∀ i, i < len → ∃ z : Int, True ∧ ∀ j u, j < folS.size → (folS.enc z)[j]? = some u → W.cell? (a.add (i * folS.size + j)) = some u := by
   intro i hlt
   have h1 := hi i hlt
   rw [List.getElem?_eq_getElem (by omega), Option.bind_eq_some_iff] at h1
   obtain ⟨cs', hc, ht⟩ := h1
   obtain ⟨z, e0, e1, -⟩ := DataW.trod_int Tryd.underlying3 ht
   rw [show Tryd.prog.cellsOf 3 = 1 by kernel_rfl] at hc
   obtain ⟨-, hcl, hcell⟩ := World.cells?_some hc
   have h2 := hcell 0 (by omega)
   refine ⟨z, trivial, fun j u hj hu => ?_⟩
   have hj0 : j = 0 := by have : folS.size = 1 := rfl; omega
   subst hj0
   have hz : u = .int .i64 z := by have h5 : (folS.enc z)[0]? = some (.int .i64 z) := rfl; rw [h5] at hu; exact (Option.some.inj hu).symm
   rw [hz, show i * folS.size + 0 = i * 1 + 0 from rfl, ← Go.Deep.add_add, h2, e0]; rfl
  by_cases h0 : len = 0
  ·subst h0
   refine ⟨⟨some a, 0, cap⟩, [], rfl, ⟨rfl, hl, hm, fun h => by simp at h, fun h => by cases h⟩, by simp only [Rows.uptoBulk, List.length_nil]; omega⟩
  ·have hblk : a.block < W.heap.size := by
    obtain ⟨z, -, hz⟩ := hat 0 (by omega)
    have h6 := hz 0 (.int .i64 z) (by decide) rfl
    have := World.block_lt_of_cell? W _ h6
    rw [block_of_add] at this; exact this
   obtain ⟨l, h1, h2, h3⟩ := RdL.of_cells (S := folS) folOk (w := W) (B := W.heap.size) (a := a) (len := len) (cap := cap) hblk hl hm (fun _ _ => True) hat
   obtain ⟨A', cap', e, g1, g2, g3, g4⟩ := h2
   injection e with e1 e2 e3
   subst e1 e3
   refine ⟨⟨some a, len, cap⟩, l, rfl, ⟨h1.symm, by rw [← h1]; exact g1, g2, fun hn => ?_, g4⟩, ?_⟩
   ·obtain ⟨a', e4, hb', hc'⟩ := g3 hn
    exact ⟨a', e4, hb', hc'⟩
   ·have h7 := bulk_len15 (elems.map (·.1))
    rw [List.length_map, hel] at h7
    simp only [Rows.uptoBulk]
    omega
theorem open_node : ∀ (fuel : Nat) (cs : List Value) (x : DataW H × List MemPlace), DataW.trod enc Tryd.prog W 0 (fun _ => true) held fuel 27 cs = some x →
  ∃ (y : NV) (t : Nd), cs = y.cells ∧ NdR W (fun b => b < W.heap.size) y t ∧ bkN t ≤ Rows.uptoBulk x.1 := by
 intro fuel
 induction fuel using Nat.strongRecOn with
 | _ fuel ih =>
 intro cs x h
 obtain ⟨xs, n, rfl, hx, hl, hxl, hf⟩ := DataW.trod_struct ndStruct15 h
 rw [show Tryd.prog.cellsOf 27 = 12 by kernel_rfl] at hl
 rw [show (Tryd.prog.fieldsOf 27).size = 8 by kernel_rfl] at hxl
 match cs, hl, xs, hxl with
 | [c0, c1, c2, c3, c4, c5, c6, c7, c8, c9, c10, c11], _, [y0, y1, y2, y3, y4, y5, y6, y7], _ =>
  obtain ⟨f0, g0, t0, o0⟩ := fd_at15 ndFieldsT 0 _ _ rfl
  obtain ⟨f1, g1, t1, o1⟩ := fd_at15 ndFieldsT 1 _ _ rfl
  obtain ⟨f2, g2, t2, o2⟩ := fd_at15 ndFieldsT 2 _ _ rfl
  obtain ⟨f3, g3, t3, o3⟩ := fd_at15 ndFieldsT 3 _ _ rfl
  obtain ⟨f4, g4, t4, o4⟩ := fd_at15 ndFieldsT 4 _ _ rfl
  obtain ⟨f5, g5, t5, o5⟩ := fd_at15 ndFieldsT 5 _ _ rfl
  obtain ⟨f6, g6, t6, o6⟩ := fd_at15 ndFieldsT 6 _ _ rfl
  obtain ⟨f7, g7, t7, o7⟩ := fd_at15 ndFieldsT 7 _ _ rfl
  have r0 := hf 0 f0 g0
  have r1 := hf 1 f1 g1
  have r2 := hf 2 f2 g2
  have r3 := hf 3 f3 g3
  have r4 := hf 4 f4 g4
  have r5 := hf 5 f5 g5
  have r6 := hf 6 f6 g6
  have r7 := hf 7 f7 g7
  rw [t0, o0, show Tryd.prog.cellsOf 3 = 1 by kernel_rfl] at r0
  rw [t1, o1, show Tryd.prog.cellsOf 9 = 1 by kernel_rfl] at r1
  rw [t2, o2, show Tryd.prog.cellsOf 9 = 1 by kernel_rfl] at r2
  rw [t3, o3, show Tryd.prog.cellsOf 3 = 1 by kernel_rfl] at r3
  rw [t4, o4, show Tryd.prog.cellsOf 23 = 3 by kernel_rfl] at r4
  rw [t5, o5, show Tryd.prog.cellsOf 23 = 3 by kernel_rfl] at r5
  rw [t6, o6, show Tryd.prog.cellsOf 24 = 1 by kernel_rfl] at r6
  rw [t7, o7, show Tryd.prog.cellsOf 25 = 1 by kernel_rfl] at r7
  obtain ⟨kd, e0, rfl, -⟩ := DataW.trod_int Tryd.underlying3 (show _ = some y0 from r0)
  obtain ⟨s1, e1, rfl, -⟩ := DataW.trod_string Tryd.underlying9 (show _ = some y1 from r1)
  obtain ⟨s2, e2, rfl, -⟩ := DataW.trod_string Tryd.underlying9 (show _ = some y2 from r2)
  obtain ⟨nn, e3, rfl, -⟩ := DataW.trod_int Tryd.underlying3 (show _ = some y3 from r3)
  obtain ⟨lo, e4, hlo⟩ := open_bd (show _ = some y4 from r4)
  obtain ⟨hi, e5, hhi⟩ := open_bd (show _ = some y5 from r5)
  obtain ⟨so, occ, e6, ho, hob⟩ := open_occ (show _ = some y6 from r6)
  have hk : ∃ (s : Sl) (nl : List NV) (ks : List Nd), [c11] = [.slice s.a s.n s.c] ∧ RdF ndS W (fun b => b < W.heap.size) s nl ∧ nl.length = ks.length ∧ (∀ (i : Nat) (x : NV) (t : Nd), nl[i]? = some x → ks[i]? = some t → NdR W (fun b => b < W.heap.size) x t) ∧ bkNs ks ≤ Rows.uptoBulk y7.1 := by
   have r7' : DataW.trod enc Tryd.prog W 0 (fun _ => true) held n 25 [c11] = some y7 := r7
   rcases DataW.trod_slice Tryd.underlying25 r7' with ⟨e, rfl⟩ | ⟨a, len, cap, elems, rest, m, rfl, e, rfl, hb, hl, hm, hel, hi, -, -⟩
   ·exact ⟨⟨none, 0, 0⟩, [], [], e, RdF.nil _ _ _, rfl, fun i x t h _ => by simp at h, by simp [Rows.uptoBulk, bkNs]⟩
   ·injection e with e _
    subst e
    have hat : ∀ i, i < len → ∃ y : NV, (∃ t : Nd, NdR W (fun b => b < W.heap.size) y t ∧ ∀ z, elems[i]? = some z → bkN t ≤ Rows.uptoBulk z.1) ∧ ∀ j u, j < ndS.size → (ndS.enc y)[j]? = some u → W.cell? (a.add (i * ndS.size + j)) = some u := by
     intro i hlt
     have h1 := hi i hlt
     rw [List.getElem?_eq_getElem (by omega), Option.bind_eq_some_iff] at h1
     obtain ⟨cs', hc, ht⟩ := h1
     obtain ⟨y, t, e1, h2, h3⟩ := ih m (by omega) cs' _ ht
     rw [show Tryd.prog.cellsOf 27 = 12 by kernel_rfl] at hc
     obtain ⟨-, hcl, hcell⟩ := World.cells?_some hc
     refine ⟨y, ⟨t, h2, fun z hz => ?_⟩, fun j u hj hu => ?_⟩
     ·rw [List.getElem?_eq_getElem (by omega)] at hz
      rw [← Option.some.inj hz]; exact h3
     ·have hj' : j < 12 := hj
      rw [show i * ndS.size + j = i * 12 + j from rfl, ← Go.Deep.add_add, hcell j hj', e1]
      exact hu
    by_cases h0 : len = 0
    ·subst h0
     exact ⟨⟨some a, 0, cap⟩, [], [], rfl, ⟨rfl, hl, hm, fun h => by simp at h, fun h => by cases h⟩, rfl, fun i x t h _ => by simp at h, by simp [bkNs]⟩
    ·have hblk : a.block < W.heap.size := by
      obtain ⟨z, -, hz⟩ := hat 0 (by omega)
      have h6 := hz 0 (.int .i64 z.kind) (by decide) rfl
      have := World.block_lt_of_cell? W _ h6
      rw [block_of_add] at this; exact this
     obtain ⟨l, h1, h2, h3⟩ := RdL.of_cells (S := ndS) ndOk (w := W) (B := W.heap.size) (a := a) (len := len) (cap := cap) hblk hl hm (fun i y => ∃ t : Nd, NdR W (fun b => b < W.heap.size) y t ∧ ∀ z, elems[i]? = some z → bkN t ≤ Rows.uptoBulk z.1) hat
     obtain ⟨A', cap', e, g1, g2, g3, g4⟩ := h2
     injection e with e1 e2 e3
     subst e1 e3
     have hks : ∀ k, k ≤ len → ∃ ks : List Nd, ks.length = k ∧ (∀ (i : Nat) (x : NV) (t : Nd), i < k → l[i]? = some x → ks[i]? = some t → NdR W (fun b => b < W.heap.size) x t) ∧ bkNs ks ≤ Rows.uptoBulkAll ((elems.take k).map (·.1)) := by
      intro k
      induction k with
      | zero => exact fun _ => ⟨[], rfl, fun i x t h => by omega, by simp [bkNs]⟩
      | succ k ihk =>
       intro hk
       obtain ⟨ks, k1, k2, k3⟩ := ihk (by omega)
       have hkl : k < l.length := by omega
       obtain ⟨t, p1, p2⟩ := h3 k hkl
       refine ⟨ks ++ [t], by rw [List.length_append, k1]; rfl, fun i x u hik hx hu => ?_, ?_⟩
       ·rcases Nat.lt_or_ge i k with h | h
        ·exact k2 i x u h hx (by rw [List.getElem?_append_left (by omega)] at hu; exact hu)
        ·obtain rfl : i = k := by omega
         rw [List.getElem?_append_right (by omega), k1, Nat.sub_self] at hu
         rw [List.getElem?_eq_getElem hkl] at hx
         rw [← Option.some.inj hx, ← Option.some.inj (show some t = some u from hu)]
         exact p1
       ·have hke : k < elems.length := by omega
        have e9 : ∀ (a b : List (DataW H)), Rows.uptoBulkAll (a ++ b) = Rows.uptoBulkAll a + Rows.uptoBulkAll b := by
         intro a b
         induction a with
         | nil => simp [Rows.uptoBulkAll]
         | cons z a iha => rw [List.cons_append, Rows.uptoBulkAll, Rows.uptoBulkAll, iha]; omega
        have e10 : ∀ (a b : List Nd), bkNs (a ++ b) = bkNs a + bkNs b := by
         intro a b
         induction a with
         | nil => simp [bkNs]
         | cons z a iha => rw [List.cons_append, bkNs, bkNs, iha]; omega
        rw [List.take_succ_eq_append_getElem hke, List.map_append, e9, e10]
        have := p2 _ (List.getElem?_eq_getElem hke)
        simp only [bkNs, List.map_cons, List.map_nil, Rows.uptoBulkAll]
        omega
     obtain ⟨ks, k1, k2, k3⟩ := hks len (Nat.le_refl _)
     refine ⟨⟨some a, len, cap⟩, l, ks, rfl, ⟨h1.symm, by rw [← h1]; exact g1, g2, fun hn => ?_, g4⟩, by omega, fun i x t hx ht => k2 i x t (by have := (List.getElem?_eq_some_iff.1 hx).1; omega) hx ht, ?_⟩
     ·obtain ⟨a', e4, hb', hc'⟩ := g3 hn
      exact ⟨a', e4, hb', hc'⟩
     ·rw [List.take_of_length_le (by omega)] at k3
      simp only [Rows.uptoBulk]
      omega
  obtain ⟨sk, nl, ks, e7, hkr, hkl, hkn, hkb⟩ := hk
  simp only [List.drop_zero, List.take_succ_cons, List.take_zero, List.drop_succ_cons, List.cons.injEq, and_true] at e0 e1 e2 e3 e4 e5 e6 e7
  obtain ⟨rfl, rfl, rfl⟩ := e4
  obtain ⟨rfl, rfl, rfl⟩ := e5
  subst e0 e1 e2 e3 e6 e7
  refine ⟨⟨kd, s1.data.toList, s2.data.toList, nn, lo, hi, so, sk⟩, .mk kd s1.data.toList s2.data.toList nn lo hi occ ks, ?_, .mk ho hkr hkl hkn, ?_⟩
  ·rw [NV.cells, str_self15, str_self15]
  ·rw [hx, bkN]
   simp only [List.map_cons, List.map_nil, Rows.uptoBulk, Rows.uptoBulkAll]
   omega
end
def litV : Lit → Value
 | .bool b => .bool b
 | .int k z => .int k z
 | .string l => .string ⟨l.toArray⟩
 | _ => .nilIface
theorem lits_of_struct {H : Type} {enc : TypeId × Value → H} {w : World} {base : Nat} {sp : Nat → Bool} {held : Bool} {P : Program} {fuel : Nat} {t : TypeId} {fs : Array Field} {cs : List Value} {ls : List Lit} {p : List MemPlace} (ht : P.underlying t = some (.struct fs))
  (hf : ∀ (i : Nat) (f : Field), fs[i]? = some f → (P.underlying f.type = some (.int .i64) ∨ P.underlying f.type = some .bool ∨ P.underlying f.type = some .string) ∧ f.offset = i ∧ P.cellsOf f.type = 1) (hct : P.cellsOf t = fs.size)
  (h : DataW.trod enc P w base sp held fuel t cs = some (.agg (ls.map fun z => .lit z), p)) : cs = ls.map litV := by
 obtain ⟨xs, n, rfl, hx, hl, hxl, hall⟩ := DataW.trod_struct ht h
 have hxs : xs.map (·.1) = ls.map fun z => (DataW.lit z : DataW H) := by
  have := congrArg Prod.fst hx
  simpa using this.symm
 have hzl : ls.length = fs.size := by
  have := congrArg List.length hxs
  simp at this
  omega
 apply List.ext_getElem?
 intro i
 by_cases hi : i < fs.size
 ·obtain ⟨hu, ho, hc⟩ := hf i fs[i] (by simp [hi])
  have h1 := hall i fs[i] (by simp [hi])
  obtain ⟨b, hb⟩ : ∃ b, xs[i]? = some b := ⟨xs[i]'(by omega), List.getElem?_eq_getElem (by omega)⟩
  rw [hb, ho, hc] at h1
  have h3 : (xs.map (·.1))[i]? = some b.1 := by simp [hb]
  rw [hxs] at h3
  simp only [List.getElem?_map, Option.map_eq_some_iff] at h3
  obtain ⟨z', hz', e⟩ := h3
  rw [List.getElem?_map, hz']
  have hcs : ∀ v, (cs.drop i).take 1 = [v] → cs[i]? = some v := fun v hv => by
   have := congrArg (·[0]?) hv
   simpa [List.getElem?_take, List.getElem?_drop] using this
  rcases hu with hu | hu | hu
  ·obtain ⟨z, hcz, rfl, _⟩ := DataW.trod_int hu h1
   injection e with e
   subst e
   exact hcs _ hcz
  ·obtain ⟨z, hcz, rfl⟩ := DataW.trod_bool hu h1
   injection e with e
   subst e
   exact hcs _ hcz
  ·obtain ⟨z, hcz, rfl, _⟩ := DataW.trod_string hu h1
   injection e with e
   subst e
   rw [hcs _ hcz]; rfl
 ·rw [List.getElem?_eq_none (by omega), List.getElem?_eq_none (by simp; omega)]
def askRow (f t : Bool) (lo hi : Int) (en oc : Bool) (le mo lv : Int) (s : List UInt8) : List Lit := [.bool f, .bool t, .int .i64 lo, .int .i64 hi, .bool en, .bool oc, .int .i64 le, .int .i64 mo, .int .i64 lv, .string s]
def askRows : List (List Lit) := [askRow false false 0 0 false false 0 0 0 [], askRow true true 0 0 false false 0 0 6 [], askRow true true 0 999999999 false false 0 0 6 [], askRow true true 0 0 false false 0 0 6 [], askRow true true 0 0 false false 0 0 6 [], askRow true true 1 2 false false 0 0 6 [], askRow true false 0 0 true false 0 0 6 [], askRow true false 0 0 false false 0 0 6 [],
 askRow false false 0 0 false false 0 0 6 [], askRow false false 0 999999999 false true 1 (-1) 0 [], askRow false false 0 0 false false 1 (-1) 2 [32, 65, 78, 68, 32], askRow false false 0 0 false false 1 (-1) 1 [32, 79, 82, 32], askRow false false 0 0 false false 1 (-1) 3 [32, 124, 32], askRow false false 0 0 false false 1 1 4 [], askRow false false 0 999999999 false false 1 1 5 [94], askRow false false 0 999999999 false false 1 1 5 [94, 61]]
theorem gAsk : Tryd.prog.globalNamed "concord/printer.asks" = some 17 := by kernel_rfl
theorem gAskType : (Tryd.prog.globals[17]?).map (·.type) = some 93 := by kernel_rfl
theorem askFieldsT : ((Tryd.prog.fieldsOf 92).map (fun f => (f.type, f.offset))).toList = [(4, 0), (4, 1), (3, 2), (3, 3), (4, 4), (4, 5), (3, 6), (3, 7), (3, 8), (9, 9)] := by kernel_rfl
theorem askStruct : Tryd.prog.underlying 92 = some (.struct (Tryd.prog.fieldsOf 92)) := by kernel_rfl
theorem askArr : Tryd.prog.underlying 93 = some (.array 16 92) := by kernel_rfl
theorem askFs (i : Nat) (f : Field) (h : (Tryd.prog.fieldsOf 92)[i]? = some f) : (Tryd.prog.underlying f.type = some (.int .i64) ∨ Tryd.prog.underlying f.type = some .bool ∨ Tryd.prog.underlying f.type = some .string) ∧ f.offset = i ∧ Tryd.prog.cellsOf f.type = 1 := by
 have h2 : ((Tryd.prog.fieldsOf 92).map (fun f => (f.type, f.offset))).toList[i]? = some (f.type, f.offset) := by
  rw [Array.getElem?_toList, Array.getElem?_map, h]; rfl
 rw [askFieldsT] at h2
 match i, h2 with
 | 0, h2 | 1, h2 | 4, h2 | 5, h2 =>
  injection h2 with h2
  injection h2 with e1 e2
  rw [← e1, ← e2]
  exact ⟨.inr (.inl Tryd.underlying4), rfl, by kernel_rfl⟩
 | 2, h2 | 3, h2 | 6, h2 | 7, h2 | 8, h2 =>
  injection h2 with h2
  injection h2 with e1 e2
  rw [← e1, ← e2]
  exact ⟨.inl Tryd.underlying3, rfl, by kernel_rfl⟩
 | 9, h2 =>
  injection h2 with h2
  injection h2 with e1 e2
  rw [← e1, ← e2]
  exact ⟨.inr (.inr Tryd.underlying9), rfl, by kernel_rfl⟩
 | i + 10, h2 => simp at h2
theorem askL_at : ∀ i : Nat, i < 16 → ∀ j : Nat, j < 10 → askL[i * 10 + j]? = ((askRows.getD i []).map litV)[j]? := by
 intro i hi j hj
 match i, hi with
 | 0, _ | 1, _ | 2, _ | 3, _ | 4, _ | 5, _ | 6, _ | 7, _ | 8, _ | 9, _ | 10, _ | 11, _ | 12, _ | 13, _ | 14, _ | 15, _ =>
  match j, hj with
  | 0, _ | 1, _ | 2, _ | 3, _ | 4, _ | 5, _ | 6, _ | 7, _ | 8, _ | 9, _ => rfl
  | j + 10, h => exact absurd h (by omega)
 | i + 16, h => exact absurd h (by omega)
theorem ask_of_head {W : World} {rest : List (String × DataW Unit)} (h : laidMet Tryd.prog (("concord/printer.asks", .agg (askRows.map fun r => .agg (r.map fun z => .lit z))) :: rest) W) : AskEnv W := by
 obtain ⟨ps, ⟨g', t', cs, fuel, p, q, hg', ht', hvar, hd, _, _⟩, _⟩ := h
 obtain rfl := Option.some.inj (gAsk.symm.trans hg')
 obtain rfl := Option.some.inj (gAskType.symm.trans ht')
 have hc : ∀ j v, askL[j]? = some v → W.cell? ⟨17, j, none⟩ = some v := fun j v hv => by
  have hjl : j < 160 := by have h5 := (List.getElem?_eq_some_iff.1 hv).1; have h6 : askL.length = 160 := rfl; omega
  obtain ⟨i, k, hi, hk, rfl⟩ : ∃ i k, i < 16 ∧ k < 10 ∧ j = i * 10 + k := ⟨j / 10, j % 10, by omega, Nat.mod_lt _ (by decide), by omega⟩
  obtain ⟨fuel', d, q', hdi, he⟩ := Lib.array_elem askArr hd i hi
  have hil : i < askRows.length := hi
  rw [List.getElem?_map, List.getElem?_eq_getElem hil] at hdi
  injection hdi with hdi
  subst hdi
  rw [show Tryd.prog.cellsOf 92 = 10 by kernel_rfl] at he
  have hcs := lits_of_struct askStruct askFs (by kernel_rfl) he
  rw [askL_at i hi k hk, List.getD_eq_getElem?_getD, List.getElem?_eq_getElem hil, Option.getD_some, ← hcs] at hv
  rw [World.var?_cell gAsk hvar, ← Array.getElem?_toList, ← hv]
  rw [List.getElem?_take, List.getElem?_drop, if_pos hk]
 exact ⟨hc, World.block_lt_of_cell? W ⟨17, 0, none⟩ (hc 0 _ rfl)⟩
end Go.Proofs.YthcldpminmhgkaaDoor
end
section
namespace Go.Proofs.YthcldpminmhgkaaDoor
open Go.RowKit
structure LawEnv (w : World) (ea : List Addr) : Prop where
 pr : PrEnv w w.heap.size
 er : ErrEnv w ea
theorem LawEnv.below {w w' : World} {ea : List Addr} (h : LawEnv w ea) (hb : Below w.heap.size w w') : LawEnv w' ea := ⟨h.pr.env hb, h.er.below hb⟩
theorem LawEnv.err {w : World} {ea : List Addr} (h : LawEnv w ea) (i : Nat) (hi : i < 24) : ErrAt w (errGs.getD i 0) (errI ea i) := ⟨h.er.cell i hi, World.block_lt_of_cell? w ⟨errGs.getD i 0, 0, none⟩ (h.er.cell i hi)⟩
theorem LawEnv.node {w : World} {ea : List Addr} (h : LawEnv w ea) : ErrAt w 0 (errI ea 17) := h.err 17 (by decide)
theorem RdF.row {α : Type} {S : Shape α} {w : World} {F : Nat → Prop} {g : Nat} {T : TypeId} {l : List α} (h : Blk w g T (S.cells l).toArray) (hF : F g) (hl : l.length ≤ 1000) : RdF S w F ⟨some ⟨g, 0, none⟩, l.length, l.length⟩ l := by
 refine ⟨rfl, Nat.le_refl _, (by unfold maxLen; show l.length ≤ _; omega), fun _ => ⟨_, rfl, hF, fun j u hu => ?_⟩, fun h => by cases h⟩
 rw [show (⟨g, 0, none⟩ : Addr).add j = ⟨g, j, none⟩ from by unfold Addr.add; split <;> simp_all, h.cell j]
 simpa using hu
def termN (l : List UInt8) : Nd := .mk 1 [] l 0 bd0 bd0 [] []
def nvTerm (l : List UInt8) : NV := ⟨1, [], l, 0, bd0, bd0, ⟨none, 0, 0⟩, ⟨none, 0, 0⟩⟩
theorem nd_term (w : World) (F : Nat → Prop) (l : List UInt8) : NdR w F (nvTerm l) (termN l) := .mk (RdF.nil _ _ _) (RdF.nil _ _ _) rfl fun i x t hx _ => by simp at hx
theorem term_any (s : ByteArray) (w : World) : Calls Tryd.prog 47 #[.string s] w fun e w' => e = .returned (.agg #[.int .i64 1, .string ⟨#[]⟩, .string s, .int .i64 0, .bool false, .bool false, .string ⟨#[]⟩, .bool false, .bool false, .string ⟨#[]⟩, .slice none 0 0, .slice none 0 0]) ∧ Below w.heap.size w w' := by
 have HB1 := LH ((Below.refl w.heap.size w).alloc (Nat.le_refl _) (.cells #[.int .i64 1, .string ⟨#[]⟩, .string s, .int .i64 0, .bool false, .bool false, .string ⟨#[]⟩, .bool false, .bool false, .string ⟨#[]⟩, .slice none 0 0, .slice none 0 0] 27))
 go_enter Tryd.func47, Tryd.ntmps47
 go_wp2
 refine bodyPost_ret (v := .agg #[.int .i64 1, .string ⟨#[]⟩, .string s, .int .i64 0, .bool false, .bool false, .string ⟨#[]⟩, .bool false, .bool false, .string ⟨#[]⟩, .slice none 0 0, .slice none 0 0]) ?_ rfl ?_
 ·simp [results, Tryd.results47, go_sem, World.cell?_alloc_new]
 ·exact ⟨rfl, HB1.out⟩
end Go.Proofs.YthcldpminmhgkaaDoor
end
