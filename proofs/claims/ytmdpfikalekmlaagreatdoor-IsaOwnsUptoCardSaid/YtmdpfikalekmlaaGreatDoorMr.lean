/- Layer 20: the reader in memory. -/
import Derived.Test.YtmdpfikalekmlaaGreatDoorRq
import Derived.Test.YtmdpfikalekmlaaGreatDoorLd
import Derived.Test.YtmdpfikalekmlaaGreatDoorIf
import Derived.Test.YtmdpfikalekmlaaGreatDoorBlk
import Derived.Test.YtmdpfikalekmlaaGreatDoorKept
import Derived.Test.YtmdpfikalekmlaaGreatDoorTb
import Derived.Test.YtmdpfikalekmlaaGreatDoorMapS
namespace Go.Proofs.YtmdpfikalekmlaaGreatDoor
open Go.RowKit
set_option maxRecDepth 100000
set_option maxHeartbeats 1000000
set_option linter.unusedSimpArgs false
set_option linter.unusedVariables false

structure RKeep (B rb : Nat) (w w' : World) : Prop where
  b0 : Below 0 w w'
  kept : ∀ g, g < B → g ≠ rb → w'.heap[g]? = w.heap[g]?
theorem RKeep.refl (B rb : Nat) (w : World) : RKeep B rb w w := ⟨Below.refl _ _, fun _ _ _ => rfl⟩
theorem RKeep.trans {B rb : Nat} {w w' w'' : World} (h : RKeep B rb w w') (h2 : RKeep B rb w' w'') : RKeep B rb w w'' :=
  ⟨h.b0.trans h2.b0, fun g hg hn => (h2.kept g hg hn).trans (h.kept g hg hn)⟩
theorem RKeep.of {B rb : Nat} {w w' : World} (h : Below B w w') : RKeep B rb w w' := ⟨h.mono (Nat.zero_le _), fun g hg _ => h.block g hg⟩
theorem RKeep.ofW {B rb : Nat} {w w' : World} (hB : B ≤ w.heap.size) (h : Below w.heap.size w w') : RKeep B rb w w' := RKeep.of (h.mono hB)
theorem RKeep.set_ (B rb i : Nat) (w : World) (u : Value) : RKeep B rb w (w.setCell ⟨rb, i, none⟩ u) :=
  ⟨(Below.refl 0 w).setCell (Nat.zero_le _) _, fun g _ hn => Below.heap_setCell w _ u g hn⟩
theorem RKeep.grow1 {B rb : Nat} {w wr w6 : World} {o : Obj} (h : RKeep B rb w wr) (hs : B ≤ wr.heap.size) (h3 : Below B (wr.alloc o).drew w6) : RKeep B rb w w6 :=
  h.trans (RKeep.of (Below.trans ((Below.refl B wr).alloc hs o).drew h3))
theorem RKeep.size {B rb : Nat} {w w' : World} (h : RKeep B rb w w') : w.heap.size ≤ w'.heap.size := h.b0.size
theorem RKeep.below {B rb E : Nat} {w w' : World} (h : RKeep B rb w w') (hE : E ≤ B) (hr : E ≤ rb) : Below E w w' :=
  ⟨h.b0.os, h.b0.tape, h.b0.output, h.b0.size, fun g hg => h.kept g (by omega) (by omega)⟩
theorem RKeep.rd {α : Type} {S : Shape α} {B rb C : Nat} {w w' : World} {v : Value} {l : List α} (h : RKeep B rb w w') (hr : RdL S w C v l) (hC : C ≤ B) (hn : ∀ a n c, v = .slice (some a) n c → a.block ≠ rb) : RdL S w' C v l := by
  obtain ⟨A, cap, e, h1, h2, h3, h4⟩ := hr
  refine ⟨A, cap, e, h1, h2, fun hl => ?_, h4⟩
  obtain ⟨a, e2, hb, hc⟩ := h3 hl
  refine ⟨a, e2, hb, fun j u hu => ?_⟩
  have h5 := h.kept a.block (by omega) (hn a _ _ (by rw [e, e2]))
  have := hc j u hu
  unfold World.cell? at this ⊢
  rw [block_of_add, h5]
  rw [block_of_add] at this
  exact this
/-- Where a reader's lists lie. -/
structure RdrV where
  av : Value
  cv : Value
  nv : Value
  dv : Value
  kv : Value
  nl : List NrV
/-- Two slices that lie in different rows. -/
def FarV (u v : Value) : Prop := ∀ b, u.ownBlock = some b → v.ownBlock ≠ some b
theorem FarV.symm {u v : Value} (h : FarV u v) : FarV v u := fun b hb e => h b e hb
theorem FarV.nil (v : Value) : FarV (.slice none 0 0) v := fun b hb => by cases hb
theorem FarV.nilR (v : Value) : FarV v (.slice none 0 0) := (FarV.nil v).symm
/-- The lists of ints of phrases. -/
def nearVs (l : List NrV) : List Value := l.flatMap fun y => [y.cv, y.ov]
theorem nearVs_snoc (l : List NrV) (y : NrV) : nearVs (l ++ [y]) = nearVs l ++ [y.cv, y.ov] := by simp [nearVs]
/-- Lists of ints, each in a row of its own. -/
def Apart (a d : Value) (l : List NrV) : Prop := List.Pairwise FarV (a :: d :: nearVs l)
theorem Apart.avgs {a d v : Value} {l : List NrV} (h : Apart a d l) (hv : ∀ u ∈ d :: nearVs l, FarV v u) : Apart v d l := List.pairwise_cons.2 ⟨hv, (List.pairwise_cons.1 h).2⟩
theorem Apart.drive {a d v : Value} {l : List NrV} (h : Apart a d l) (hv : ∀ u ∈ a :: nearVs l, FarV v u) : Apart a v l := by
  unfold Apart at h ⊢
  rw [List.pairwise_cons, List.pairwise_cons] at h ⊢
  refine ⟨fun u hu => ?_, fun u hu => hv u (List.mem_cons_of_mem _ hu), h.2.2⟩
  rcases List.mem_cons.1 hu with rfl | hu
  · exact (hv a List.mem_cons_self).symm
  · exact h.1 u (List.mem_cons_of_mem _ hu)
theorem Apart.near {a d : Value} {l : List NrV} (h : Apart a d l) (y : NrV) (h1 : ∀ u ∈ a :: d :: nearVs l, FarV y.cv u) (h2 : ∀ u ∈ a :: d :: nearVs l, FarV y.ov u) (h3 : FarV y.cv y.ov) : Apart a d (l ++ [y]) := by
  unfold Apart at h ⊢
  rw [nearVs_snoc, ← List.cons_append, ← List.cons_append, List.pairwise_append]
  refine ⟨h, ?_, fun u hu v hv => ?_⟩
  · simp [h3]
  · rcases List.mem_cons.1 hv with rfl | hv
    · exact (h1 u hu).symm
    · obtain rfl := List.mem_singleton.1 hv
      exact (h2 u hu).symm
theorem Apart.nil : Apart (.slice none 0 0) (.slice none 0 0) [] := by
  unfold Apart
  simp [nearVs, FarV.nil]
def opsM : List UInt8 → Option Int := fun z => (opIdx z).map fun i => (i : Int)
/-- The reader at block rb; its lists lie from B on, each in a row of its own. -/
structure RdrAt (w : World) (B rb mb : Nat) (x : RdrV) (st : Rs) : Prop where
  blk : Blk w rb 58 #[x.av, x.cv, x.nv, .bool st.all, x.dv, .slice none 0 0, x.kv, .int .i64 (st.part : Int), .map (some mb)]
  avgs : OwnL intS w B x.av st.avgs
  curs : OwnL lfS w B x.cv st.curs
  nears : OwnL nrS w B x.nv x.nl
  nmap : x.nl.map (·.n) = st.nears
  inner : ∀ y ∈ x.nl, OwnL intS w B y.cv y.n.cur ∧ OwnL intS w B y.ov y.n.off
  drive : OwnL intS w B x.dv st.drive
  code : OwnL insS w B x.kv st.code
  hB : B ≤ w.heap.size
  hrb : rb < B
  hmb : mb < B ∧ mb ≠ rb
  ops : MapSI w mb 17 opsM
  apart : Apart x.av x.dv x.nl
theorem MapSI.same {w w' : World} {b n : Nat} {m : List UInt8 → Option Int} (h : MapSI w b n m) (hb : w'.heap[b]? = w.heap[b]?) : MapSI w' b n m := by
  obtain ⟨D, ⟨es, clock, h1, h2, h3, h4⟩, hk⟩ := h
  exact ⟨D, ⟨es, clock, hb.trans h1, h2, h3, h4⟩, hk⟩
theorem RdrAt.below {w w' : World} {B rb mb : Nat} {x : RdrV} {st : Rs} (h : RdrAt w B rb mb x st) (hb : Below w.heap.size w w') : RdrAt w' B rb mb x st :=
  ⟨h.blk.belowW hb, h.avgs.below hb, h.curs.below hb, h.nears.below hb, h.nmap, fun y hy => ⟨(h.inner y hy).1.below hb, (h.inner y hy).2.below hb⟩, h.drive.below hb, h.code.below hb, Nat.le_trans h.hB hb.size, h.hrb, h.hmb, h.ops.below hb, h.apart⟩
theorem RdrAt.drew {w : World} {B rb mb : Nat} {x : RdrV} {st : Rs} (h : RdrAt w B rb mb x st) : RdrAt w.drew B rb mb x st := h.below (Below.refl _ _).drew
section
variable {w : World} {B rb mb : Nat} {x : RdrV} {st : Rs}
theorem RdrAt.set_ (h : RdrAt w B rb mb x st) (i : Nat) (u : Value) (x' : RdrV) (st' : Rs)
    (hc : #[x.av, x.cv, x.nv, .bool st.all, x.dv, .slice none 0 0, x.kv, .int .i64 (st.part : Int), .map (some mb)].setIfInBounds i u = #[x'.av, x'.cv, x'.nv, .bool st'.all, x'.dv, .slice none 0 0, x'.kv, .int .i64 (st'.part : Int), .map (some mb)])
    (h1 : OwnL intS w B x'.av st'.avgs) (h2 : OwnL lfS w B x'.cv st'.curs) (h3 : OwnL nrS w B x'.nv x'.nl) (h4 : x'.nl.map (·.n) = st'.nears) (h5 : ∀ y ∈ x'.nl, OwnL intS w B y.cv y.n.cur ∧ OwnL intS w B y.ov y.n.off) (h6 : OwnL intS w B x'.dv st'.drive) (h7 : OwnL insS w B x'.kv st'.code) (h8 : Apart x'.av x'.dv x'.nl) :
    RdrAt (w.setCell ⟨rb, i, none⟩ u) B rb mb x' st' := by
  have hb := h.blk
  refine ⟨hc ▸ hb.set_ i u, h1.farNe (h1.offBlk hb (by decide)) _, h2.farNe (h2.offBlk hb (by decide)) _, h3.farNe (h3.offBlk hb (by decide)) _, h4,
    fun y hy => ⟨(h5 y hy).1.farNe ((h5 y hy).1.offBlk hb (by decide)) _, (h5 y hy).2.farNe ((h5 y hy).2.offBlk hb (by decide)) _⟩, h6.farNe (h6.offBlk hb (by decide)) _, h7.farNe (h7.offBlk hb (by decide)) _, ?_, h.hrb, h.hmb, ?_, h8⟩
  · rw [set_size]; exact h.hB
  · exact h.ops.same (Below.heap_setCell w _ u mb h.hmb.2)
theorem RdrAt.setPart (h : RdrAt w B rb mb x st) (n : Nat) : RdrAt (w.setCell ⟨rb, 7, none⟩ (.int .i64 (n : Int))) B rb mb x { st with part := n } :=
  h.set_ 7 _ x { st with part := n } (by rfl) h.avgs h.curs h.nears h.nmap h.inner h.drive h.code h.apart
theorem RdrAt.setAll (h : RdrAt w B rb mb x st) : RdrAt (w.setCell ⟨rb, 3, none⟩ (.bool true)) B rb mb x { st with all := true } :=
  h.set_ 3 _ x { st with all := true } (by rfl) h.avgs h.curs h.nears h.nmap h.inner h.drive h.code h.apart
/-- A row that begins behind the world in which the reader stood is none of its lists'. -/
theorem RdrAt.far (h : RdrAt w B rb mb x st) {α : Type} {S : Shape α} {w2 : World} {E : Nat} {v : Value} {l : List α} (hl : OwnL S w2 E v l) (hE : w.heap.size ≤ E) : ∀ u ∈ x.av :: x.dv :: nearVs x.nl, FarV v u := by
  have key : ∀ {β : Type} {T : Shape β} {u : Value} {m : List β}, OwnL T w B u m → FarV v u := fun ho b hb e => by
    have h1 := (hl.lt b hb).1
    have h2 := (ho.lt b e).2
    omega
  intro u hu
  rcases List.mem_cons.1 hu with rfl | hu
  · exact key h.avgs
  · rcases List.mem_cons.1 hu with rfl | hu
    · exact key h.drive
    · obtain ⟨y, hy, hu⟩ := List.mem_flatMap.1 hu
      rcases List.mem_cons.1 hu with rfl | hu
      · exact key (h.inner y hy).1
      · obtain rfl := List.mem_singleton.1 hu
        exact key (h.inner y hy).2
theorem RdrAt.setAvgs (h : RdrAt w B rb mb x st) {v : Value} {l : List Int} (hl : OwnL intS w B v l) (hf : ∀ u ∈ x.av :: x.dv :: nearVs x.nl, FarV v u) : RdrAt (w.setCell ⟨rb, 0, none⟩ v) B rb mb { x with av := v } { st with avgs := l } :=
  h.set_ 0 _ { x with av := v } { st with avgs := l } (by rfl) hl h.curs h.nears h.nmap h.inner h.drive h.code (h.apart.avgs fun u hu => hf u (List.mem_cons_of_mem _ hu))
theorem RdrAt.setDrive (h : RdrAt w B rb mb x st) {v : Value} {l : List Int} (hl : OwnL intS w B v l) (hf : ∀ u ∈ x.av :: x.dv :: nearVs x.nl, FarV v u) : RdrAt (w.setCell ⟨rb, 4, none⟩ v) B rb mb { x with dv := v } { st with drive := l } :=
  h.set_ 4 _ { x with dv := v } { st with drive := l } (by rfl) h.avgs h.curs h.nears h.nmap h.inner hl h.code (h.apart.drive fun u hu => hf u (by rcases List.mem_cons.1 hu with rfl | hu; exact List.mem_cons_self; exact List.mem_cons_of_mem _ (List.mem_cons_of_mem _ hu)))
variable {w' : World} {v : Value}
/-- One more cursor, appended and stored. -/
theorem RdrAt.pushCur (h : RdrAt w B rb mb x st) (c : Lf) (ho : OwnL lfS w' B v (st.curs ++ [c])) (hb : Below B w w') (hk : KeptBut w w' x.cv) : RdrAt (w'.setCell ⟨rb, 1, none⟩ v) B rb mb { x with cv := v } { st with curs := st.curs ++ [c] } := by
  have hm : MapSI w' mb 17 opsM := h.ops.same (hb.block mb h.hmb.1)
  have hbk := h.blk.keptL h.curs (by decide) hk
  have g1 := h.avgs.keptL h.curs (by decide) hk
  have g3 := h.nears.keptL h.curs (by decide) hk
  have g6 := h.drive.keptL h.curs (by decide) hk
  have g7 := h.code.keptL h.curs (by decide) hk
  have g5 : ∀ y ∈ x.nl, OwnL intS w' B y.cv y.n.cur ∧ OwnL intS w' B y.ov y.n.off := fun y hy => ⟨(h.inner y hy).1.keptL h.curs (by decide) hk, (h.inner y hy).2.keptL h.curs (by decide) hk⟩
  refine ⟨hbk.set_ 1 v, g1.farNe (g1.offBlk hbk (by decide)) _, ho.farNe (ho.offBlk hbk (by decide)) _, g3.farNe (g3.offBlk hbk (by decide)) _, h.nmap,
    fun y hy => ⟨(g5 y hy).1.farNe ((g5 y hy).1.offBlk hbk (by decide)) _, (g5 y hy).2.farNe ((g5 y hy).2.offBlk hbk (by decide)) _⟩, g6.farNe (g6.offBlk hbk (by decide)) _, g7.farNe (g7.offBlk hbk (by decide)) _, ?_, h.hrb, h.hmb, ?_, h.apart⟩
  · rw [set_size]; exact Nat.le_trans h.hB hb.size
  · exact hm.same (Below.heap_setCell w' _ v mb h.hmb.2)
/-- One more phrase. -/
theorem RdrAt.pushNear (h : RdrAt w B rb mb x st) (c : NrV) (h1 : OwnL intS w B c.cv c.n.cur) (h2 : OwnL intS w B c.ov c.n.off) (ho : OwnL nrS w' B v (x.nl ++ [c])) (hb : Below B w w') (hk : KeptBut w w' x.nv) (hap : Apart x.av x.dv (x.nl ++ [c])) : RdrAt (w'.setCell ⟨rb, 2, none⟩ v) B rb mb { x with nv := v, nl := x.nl ++ [c] } { st with nears := st.nears ++ [c.n] } := by
  have hm : MapSI w' mb 17 opsM := h.ops.same (hb.block mb h.hmb.1)
  have hbk := h.blk.keptL h.nears (by decide) hk
  have g1 := h.avgs.keptL h.nears (by decide) hk
  have g2 := h.curs.keptL h.nears (by decide) hk
  have g6 := h.drive.keptL h.nears (by decide) hk
  have g7 := h.code.keptL h.nears (by decide) hk
  have g5 : ∀ y ∈ x.nl ++ [c], OwnL intS w' B y.cv y.n.cur ∧ OwnL intS w' B y.ov y.n.off := fun y hy => by
    rcases List.mem_append.1 hy with hy | hy
    · exact ⟨(h.inner y hy).1.keptL h.nears (by decide) hk, (h.inner y hy).2.keptL h.nears (by decide) hk⟩
    · obtain rfl := List.mem_singleton.1 hy
      exact ⟨h1.keptL h.nears (by decide) hk, h2.keptL h.nears (by decide) hk⟩
  refine ⟨hbk.set_ 2 v, g1.farNe (g1.offBlk hbk (by decide)) _, g2.farNe (g2.offBlk hbk (by decide)) _, ho.farNe (ho.offBlk hbk (by decide)) _, ?_,
    fun y hy => ⟨(g5 y hy).1.farNe ((g5 y hy).1.offBlk hbk (by decide)) _, (g5 y hy).2.farNe ((g5 y hy).2.offBlk hbk (by decide)) _⟩, g6.farNe (g6.offBlk hbk (by decide)) _, g7.farNe (g7.offBlk hbk (by decide)) _, ?_, h.hrb, h.hmb, ?_, hap⟩
  · show (x.nl ++ [c]).map (·.n) = st.nears ++ [c.n]
    rw [List.map_append, h.nmap]; rfl
  · rw [set_size]; exact Nat.le_trans h.hB hb.size
  · exact hm.same (Below.heap_setCell w' _ v mb h.hmb.2)
/-- One more instruction. -/
theorem RdrAt.pushIns (h : RdrAt w B rb mb x st) (c : Ins) (ho : OwnL insS w' B v (st.code ++ [c])) (hb : Below B w w') (hk : KeptBut w w' x.kv) : RdrAt (w'.setCell ⟨rb, 6, none⟩ v) B rb mb { x with kv := v } { st with code := st.code ++ [c] } := by
  have hm : MapSI w' mb 17 opsM := h.ops.same (hb.block mb h.hmb.1)
  have hbk := h.blk.keptL h.code (by decide) hk
  have g1 := h.avgs.keptL h.code (by decide) hk
  have g2 := h.curs.keptL h.code (by decide) hk
  have g3 := h.nears.keptL h.code (by decide) hk
  have g6 := h.drive.keptL h.code (by decide) hk
  have g5 : ∀ y ∈ x.nl, OwnL intS w' B y.cv y.n.cur ∧ OwnL intS w' B y.ov y.n.off := fun y hy => ⟨(h.inner y hy).1.keptL h.code (by decide) hk, (h.inner y hy).2.keptL h.code (by decide) hk⟩
  refine ⟨hbk.set_ 6 v, g1.farNe (g1.offBlk hbk (by decide)) _, g2.farNe (g2.offBlk hbk (by decide)) _, g3.farNe (g3.offBlk hbk (by decide)) _, h.nmap,
    fun y hy => ⟨(g5 y hy).1.farNe ((g5 y hy).1.offBlk hbk (by decide)) _, (g5 y hy).2.farNe ((g5 y hy).2.offBlk hbk (by decide)) _⟩, g6.farNe (g6.offBlk hbk (by decide)) _, ho.farNe (ho.offBlk hbk (by decide)) _, ?_, h.hrb, h.hmb, ?_, h.apart⟩
  · rw [set_size]; exact Nat.le_trans h.hB hb.size
  · exact hm.same (Below.heap_setCell w' _ v mb h.hmb.2)
end
end Go.Proofs.YtmdpfikalekmlaaGreatDoor
