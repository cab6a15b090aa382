/- Layer 20: programs in memory; listed. -/
import Derived.Test.YtmdpfikalekmlaaGreatDoorQu
import Derived.Test.YtmdpfikalekmlaaGreatDoorIg
import Derived.Test.YtmdpfikalekmlaaGreatDoorBlk
namespace Go.Proofs.YtmdpfikalekmlaaGreatDoor
open Go.RowKit
set_option maxRecDepth 100000
set_option maxHeartbeats 4000000
set_option linter.unusedSimpArgs false
set_option linter.unusedVariables false

theorem cellN {w w' : World} {xs : Array Value} {t : TypeId} (hb : Below (w.alloc (.cells xs t)).heap.size (w.alloc (.cells xs t)) w') {j : Nat} {u : Value} (h : xs[j]? = some u) : w'.cell? ⟨w.heap.size, j, none⟩ = some u :=
  (hb.cell (p := ⟨w.heap.size, j, none⟩) (by rw [World.size_alloc]; exact Nat.lt_succ_self _)).trans (by rw [World.cell?_alloc_new]; exact h)
def lfS : Shape Lf := { tS := 24, tE := 66, size := 2, bytes := 24, enc := fun x => [.int .i64 x.field, .string (str x.term)], zero := .agg #[.int .i64 0, .string ⟨#[]⟩] }
theorem lfSOk : lfS.Ok where
  under := Tryz.underlying24
  info := by kernel_rfl
  zs := rfl
  pos := by decide
  len := fun _ => rfl
  one := fun x u hu => by
    simp only [lfS, List.mem_cons, List.not_mem_nil, or_false] at hu
    rcases hu with rfl | rfl <;> rfl
  small := by decide
theorem at_lf {w : World} {B : Nat} {A : Option Addr} {n cap : Nat} {l : List Lf} (h : RdL lfS w B (.slice A n cap) l) {k : Nat} (hk : k < l.length) :
    ∃ a, A = some a ∧ (a.add (k * 2)).block < B ∧ w.cell? (a.add (k * 2)) = some (.int .i64 l[k].field) ∧ w.cell? ⟨(a.add (k * 2)).block, (a.add (k * 2)).off + 1, none⟩ = some (.string (str l[k].term)) := by
  obtain ⟨a, rfl, hb, h0, h⟩ := h.at2 lfSOk hk
  exact ⟨a, rfl, hb, h0 _ rfl, h 0 _ (by decide) rfl⟩
/-- A phrase with its lists as they lie. -/
structure NrV where
  ca : Option Addr
  cc : Nat
  oa : Option Addr
  oc : Nat
  n : Nr
def NrV.cv (x : NrV) : Value := .slice x.ca x.n.cur.length x.cc
def NrV.ov (x : NrV) : Value := .slice x.oa x.n.off.length x.oc
def nrS : Shape NrV := { tS := 25, tE := 68, size := 3, bytes := 56, enc := fun x => [.slice x.ca x.n.cur.length x.cc, .slice x.oa x.n.off.length x.oc, .int .i64 x.n.slop], zero := .agg #[.slice none 0 0, .slice none 0 0, .int .i64 0] }
theorem nrSOk : nrS.Ok where
  under := Tryz.underlying25
  info := by kernel_rfl
  zs := rfl
  pos := by decide
  len := fun _ => rfl
  one := fun x u hu => by
    simp only [nrS, List.mem_cons, List.not_mem_nil, or_false] at hu
    rcases hu with rfl | rfl | rfl <;> rfl
  small := by decide
theorem at_nr {w : World} {B : Nat} {A : Option Addr} {n cap : Nat} {l : List NrV} (h : RdL nrS w B (.slice A n cap) l) {k : Nat} (hk : k < l.length) :
    ∃ a, A = some a ∧ (a.add (k * 3)).block < B ∧ w.cell? (a.add (k * 3)) = some (.slice l[k].ca l[k].n.cur.length l[k].cc) ∧ w.cell? ⟨(a.add (k * 3)).block, (a.add (k * 3)).off + 1, none⟩ = some (.slice l[k].oa l[k].n.off.length l[k].oc) ∧ w.cell? ⟨(a.add (k * 3)).block, (a.add (k * 3)).off + 2, none⟩ = some (.int .i64 l[k].n.slop) := by
  obtain ⟨a, rfl, hb, h0, h⟩ := h.at2 nrSOk hk
  exact ⟨a, rfl, hb, h0 _ rfl, h 0 _ (by decide) rfl, h 1 _ (by decide) rfl⟩
/-- Where the lists of a program lie. -/
structure PgV where
  av : Value
  cv : Value
  nv : Value
  dv : Value
  kv : Value
  nl : List NrV
/-- The value of a program. -/
def PgV.val (x : PgV) (p : Pg) : Value := .agg #[x.av, x.cv, x.nv, .bool p.all, x.dv, x.kv]
structure PgR (w : World) (B : Nat) (x : PgV) (p : Pg) : Prop where
  avgs : RdL intS w B x.av p.avgs
  curs : RdL lfS w B x.cv p.curs
  nears : RdL nrS w B x.nv x.nl
  nmap : x.nl.map (·.n) = p.nears
  inner : ∀ y ∈ x.nl, RdL intS w B (.slice y.ca y.n.cur.length y.cc) y.n.cur ∧ RdL intS w B (.slice y.oa y.n.off.length y.oc) y.n.off
  drive : RdL intS w B x.dv p.drive
  code : RdL byteS w B x.kv p.code
theorem PgR.below {w w' : World} {B : Nat} {x : PgV} {p : Pg} (h : PgR w B x p) (hb : Below B w w') : PgR w' B x p :=
  ⟨h.avgs.below hb, h.curs.below hb, h.nears.below hb, h.nmap, fun y hy => ⟨(h.inner y hy).1.below hb, (h.inner y hy).2.below hb⟩, h.drive.below hb, h.code.below hb⟩
theorem PgR.more {w : World} {B B' : Nat} {x : PgV} {p : Pg} (h : PgR w B x p) (hB : B ≤ B') : PgR w B' x p :=
  ⟨h.avgs.more hB, h.curs.more hB, h.nears.more hB, h.nmap, fun y hy => ⟨(h.inner y hy).1.more hB, (h.inner y hy).2.more hB⟩, h.drive.more hB, h.code.more hB⟩
theorem PgR.belowW {w w' : World} {B : Nat} {x : PgV} {p : Pg} (h : PgR w B x p) (hB : B ≤ w.heap.size) (hb : Below w.heap.size w w') : PgR w' B x p := h.below (hb.mono hB)
/-- Numbers that are ints; sizes that are given. -/
structure SmallPg (p : Pg) : Prop where
  avgs : SmallInts p.avgs ∧ p.avgs.length ≤ 1048576
  curs : (∀ c ∈ p.curs, (-9223372036854775808 ≤ c.field ∧ c.field ≤ 9223372036854775807) ∧ c.term.length ≤ 1048576) ∧ p.curs.length ≤ 1048576
  nears : (∀ n ∈ p.nears, (-9223372036854775808 ≤ n.slop ∧ n.slop ≤ 9223372036854775807) ∧ (SmallInts n.cur ∧ n.cur.length ≤ 1048576) ∧ SmallInts n.off ∧ n.off.length ≤ 1048576) ∧ p.nears.length ≤ 1048576
  drive : SmallInts p.drive ∧ p.drive.length ≤ 1048576
  code : p.code.length ≤ 1048576
/-- What listed hands back. -/
def LdRet (p : Pg) (w : World) (e : Ending) (w' : World) : Prop :=
  Below w.heap.size w w' ∧ match (if okP p = true then decI p.code else none) with
    | some l => ∃ v, e = .returned (.tuple #[v, .bool true]) ∧ OwnL insS w' w.heap.size v l
    | none => e = .returned (.tuple #[.slice none 0 0, .bool false])
theorem ldRet_no {p : Pg} {w w' : World} (h : okP p = true → decI p.code = none) (hb : Below w.heap.size w w') : LdRet p w (.returned (.tuple #[.slice none 0 0, .bool false])) w' := by
  refine ⟨hb, ?_⟩
  have : (if okP p = true then decI p.code else none) = none := by
    split
    · rename_i h1; exact h h1
    · rfl
  rw [this]
theorem ldRet_ok {p : Pg} {w w' : World} {l : List Ins} {v : Value} (h : okP p = true) (h2 : decI p.code = some l) (ho : OwnL insS w' w.heap.size v l) (hb : Below w.heap.size w w') : LdRet p w (.returned (.tuple #[v, .bool true])) w' := by
  refine ⟨hb, ?_⟩
  rw [if_pos h, h2]
  exact ⟨v, rfl, ho⟩
theorem okP_not {p : Pg} (h : neg p.avgs = true ∨ neg p.drive = true ∨ (∃ c ∈ p.curs, c.field < 0) ∨ ∃ n ∈ p.nears, okN n = false) : okP p = false := by
  unfold okP
  rcases h with h | h | ⟨c, hc, h⟩ | ⟨n, hn, h⟩
  · simp [h]
  · simp [h]
  · have : p.curs.all (fun c => decide (0 ≤ c.field)) = false := by
      rw [List.all_eq_false]; exact ⟨c, hc, by simp; omega⟩
    simp [this]
  · have : p.nears.all okN = false := by
      rw [List.all_eq_false]; exact ⟨n, hn, by simp [h]⟩
    simp [this]
theorem okP_yes {p : Pg} (h1 : neg p.avgs = false) (h2 : neg p.drive = false) (h3 : ∀ c ∈ p.curs, 0 ≤ c.field) (h4 : ∀ n ∈ p.nears, okN n = true) : okP p = true := by
  unfold okP
  have e3 : p.curs.all (fun c => decide (0 ≤ c.field)) = true := by rw [List.all_eq_true]; exact fun c hc => decide_eq_true (h3 c hc)
  have e4 : p.nears.all okN = true := by rw [List.all_eq_true]; exact h4
  rw [h1, h2, e3, e4]; rfl
theorem mem_near {x : PgV} {p : Pg} (h : x.nl.map (·.n) = p.nears) {k : Nat} (hk : k < x.nl.length) : x.nl[k].n ∈ p.nears := by
  rw [← h]; exact List.mem_map.2 ⟨_, List.getElem_mem hk, rfl⟩
def LcRel (p : Pg) (w1 : World) (iv : Value) (wr : World) : Prop := ∃ k : Nat, k ≤ p.curs.length ∧ (∀ j c, p.curs[j]? = some c → j < k → 0 ≤ c.field) ∧ iv = .int .i64 (k : Int) ∧ Below w1.heap.size w1 wr
def LnRel2 (x : PgV) (w1 : World) (iv : Value) (wr : World) : Prop := ∃ k : Nat, k ≤ x.nl.length ∧ (∀ j y, x.nl[j]? = some y → j < k → okN y.n = true) ∧ iv = .int .i64 (k : Int) ∧ Below w1.heap.size w1 wr
theorem listed_any (x : PgV) (p : Pg) (w : World) (ea : List Addr) (h : PgR w w.heap.size x p) (hs : SmallPg p) (hE : ErrFew w ea) (hT : TabEnv w) :
    Calls Tryz.prog 38 #[x.val p] w (LdRet p w) := by
  obtain ⟨av, cv, nv, dv, kv, nl⟩ := x
  obtain ⟨aA, acap, rfl, -, -⟩ := h.avgs.open_
  obtain ⟨cA, ccap, rfl, -, -⟩ := h.curs.open_
  have hno : RdL nrS w w.heap.size nv nl := h.nears
  obtain ⟨nA, ncap, hnv, -, -⟩ := hno.open_
  subst hnv
  clear hno
  obtain ⟨dA, dcap, rfl, -, -⟩ := h.drive.open_
  obtain ⟨kA, kcap, rfl, -, -⟩ := h.code.open_
  have H := Lib.hid h; have HE := Lib.hid hE; have HT := Lib.hid hT; have HS := Lib.hid hs
  have HNM := Lib.hid h.nmap
  have hl1 := hs.curs.2
  have hl2 : nl.length ≤ 2000000 := by have e := hs.nears.2; rw [← h.nmap, List.length_map] at e; exact Nat.le_trans e (by decide)
  clear h hE hT hs
  simp only [PgV.val]
  go_enter Tryz.func38, Tryz.ntmps38
  go_wp2_with fail
  have hb0 : Below w.heap.size w (w.alloc (.cells #[.slice aA p.avgs.length acap, .slice cA p.curs.length ccap, .slice nA nl.length ncap, .bool p.all, .slice dA p.drive.length dcap, .slice kA p.code.length kcap] 28)) := (Below.refl _ _).alloc (Nat.le_refl _) _
  refine (idecode_any (.slice kA p.code.length kcap) p.code _ ea ((H.out.below hb0).code.more hb0.size) (by have := HS.out.code; omega) (HE.out.below hb0) (HT.out.below hb0)).mono ?_
  rintro e w1 ⟨hb1, hm⟩
  have k0 : w1.cell? ⟨w.heap.size, 0, none⟩ = some (.slice aA p.avgs.length acap) := cellN hb1 rfl
  have k1 : w1.cell? ⟨w.heap.size, 1, none⟩ = some (.slice cA p.curs.length ccap) := cellN hb1 rfl
  have k2 : w1.cell? ⟨w.heap.size, 2, none⟩ = some (.slice nA nl.length ncap) := cellN hb1 rfl
  have k4 : w1.cell? ⟨w.heap.size, 4, none⟩ = some (.slice dA p.drive.length dcap) := cellN hb1 rfl
  have kz : w.heap.size < w1.heap.size := World.block_lt_of_cell? w1 ⟨w.heap.size, 0, none⟩ k0
  have HB1 := Lib.hid (hb0.trans (hb1.mono hb0.size))
  have H1 := Lib.hid (H.out.below HB1.out)
  have hz0 := hb0.size
  clear hb0
  cases hd : decI p.code with
  | none =>
    rw [hd] at hm
    subst hm
    have HD := Lib.hid hd
    have q1 := fun W => errI_nnil ea 20 W
    have q2 := fun op a b W => errI_guard0 ea 20 op a b W
    clear hb1 hd
    go_wp2
    go_ret2
    exact ldRet_no (fun _ => HD.out) HB1.out
  | some code =>
    rw [hd] at hm
    obtain ⟨rv, rfl, ho⟩ := hm
    have HD := Lib.hid hd
    have HO := Lib.hid (ho.more hz0)
    clear hb1 hd ho hz0
    cases hna : neg p.avgs with
    | true =>
      have HNA := Lib.hid hna
      clear hna
      go_wp2_with fail
      refine (below_any _ p.avgs _ w.heap.size H1.out.avgs).mono ?_
      rintro e wq ⟨rfl, rfl⟩
      rw [HNA.out]
      go_wp2
      go_ret2
      exact ldRet_no (fun hk => by rw [okP_not (.inl HNA.out)] at hk; cases hk) HB1.out
    | false =>
      have HNA := Lib.hid hna
      clear hna
      cases hnd : neg p.drive with
      | true =>
        have HND := Lib.hid hnd
        clear hnd
        go_wp2_with fail
        refine (below_any _ p.avgs _ w.heap.size H1.out.avgs).mono ?_
        rintro e wq ⟨rfl, rfl⟩
        rw [HNA.out]
        go_wp2_with fail
        refine (below_any _ p.drive _ w.heap.size H1.out.drive).mono ?_
        rintro e wq ⟨rfl, rfl⟩
        rw [HND.out]
        go_wp2
        go_ret2
        exact ldRet_no (fun hk => by rw [okP_not (.inr (.inl HND.out))] at hk; cases hk) HB1.out
      | false =>
        have HND := Lib.hid hnd
        clear hnd
        go_wp2_with fail
        refine (below_any _ p.avgs _ w.heap.size H1.out.avgs).mono ?_
        rintro e wq ⟨rfl, rfl⟩
        rw [HNA.out]
        go_wp2_with fail
        refine (below_any _ p.drive _ w.heap.size H1.out.drive).mono ?_
        rintro e wq ⟨rfl, rfl⟩
        rw [HND.out]
        go_wp2
        go_loopw [31] (fun iv wr => LcRel p w1 iv wr) (fun iv _ => p.curs.length - (intOf iv).toNat)
        case atStart => exact ⟨0, Nat.zero_le _, fun j c _ hj => by omega, rfl, Below.refl _ _⟩
        case round =>
          obtain ⟨k, hk, hall, rfl, hb⟩ := hrel
          have HB := Lib.hid hb; have HA := Lib.hid hall
          have hbz := hb.size
          have m2 := (hb.cell (p := ⟨w.heap.size, 2, none⟩) kz).trans k2
          have HBW := Lib.hid (HB1.out.trans (hb.mono HB1.out.size))
          have Hr := Lib.hid (H.out.below HBW.out)
          clear hb hall
          by_cases hlt : k < p.curs.length
          · obtain ⟨a, rfl, hab, c0, c1⟩ := at_lf Hr.out.curs hlt
            by_cases hf : p.curs[k].field < 0
            · have HQ := Lib.hid (show okP p = false from okP_not (.inr (.inr (.inl ⟨_, List.getElem_mem hlt, hf⟩))))
              generalize p.curs[k] = c at *
              go_wp2
              go_ret2
              refine ldRet_no (fun hk => by rw [HQ.out] at hk; cases hk) ?_
              have h := HBW.out.alloc (Nat.le_trans HB1.out.size hbz) (.cells #[.int .i64 c.field, .string (str c.term)] 66)
              first | exact h | exact h.drew
            · have HQ := Lib.hid (show ∀ j c, p.curs[j]? = some c → j < k + 1 → 0 ≤ c.field from fun j c hj hjk => by
                rcases Nat.lt_or_ge j k with h | h
                · exact HA.out j c hj h
                · obtain rfl : j = k := by omega
                  rw [List.getElem?_eq_getElem hlt] at hj
                  cases hj; omega)
              generalize p.curs[k] = c at *
              go_wp2
              go_roundw
              case rel =>
                have h := HB.out.alloc hbz (.cells #[.int .i64 c.field, .string (str c.term)] 66)
                exact ⟨k + 1, by omega, HQ.out, by go_num, by first | exact h | exact h.drew⟩
              case measure => simp [intOf]; omega
          · have HCU := Lib.hid (show ∀ c ∈ p.curs, 0 ≤ c.field from fun c hc => by
              obtain ⟨j, hj, rfl⟩ := List.getElem_of_mem hc
              exact HA.out j _ (List.getElem?_eq_getElem hj) (by omega))
            have HO2 := Lib.hid (HO.out.below HB.out)

            go_wp2

            obtain ⟨w2, rfl⟩ : ∃ w2, w2 = wr := ⟨_, rfl⟩
            go_loopw [42] (fun iv wr => LnRel2 ⟨.slice aA p.avgs.length acap, .slice cA p.curs.length ccap, .slice nA nl.length ncap, .slice dA p.drive.length dcap, .slice kA p.code.length kcap, nl⟩ w2 iv wr) (fun iv _ => nl.length - (intOf iv).toNat)
            case atStart => exact ⟨0, Nat.zero_le _, fun j c _ hj => by omega, rfl, Below.refl _ _⟩
            case round =>
              obtain ⟨k, hk, hall, rfl, hb⟩ := hrel
              simp only [] at hk hall
              have HB3 := Lib.hid hb; have HA := Lib.hid hall
              have hbz3 := hb.size
              have HBW3 := Lib.hid (HBW.out.trans (hb.mono HBW.out.size))
              have Hr3 := Lib.hid (H.out.below HBW3.out)
              clear hb hall
              by_cases hlt : k < nl.length
              · obtain ⟨a, rfl, hab, c0, c1, c2⟩ := at_nr Hr3.out.nears hlt
                have HI := Lib.hid (Hr3.out.inner _ (List.getElem_mem hlt))
                have HMM := Lib.hid (show nl[k].n ∈ p.nears from mem_near (x := ⟨.slice none 0 0, .slice none 0 0, .slice none 0 0, .slice none 0 0, .slice none 0 0, nl⟩) HNM.out hlt)
                have HNX := Lib.hid (show okN nl[k].n = true → ∀ j y, nl[j]? = some y → j < k + 1 → okN y.n = true from fun hok j y hj hjk => by
                  rcases Nat.lt_or_ge j k with h | h
                  · exact HA.out j y hj h
                  · obtain rfl : j = k := by omega
                    rw [List.getElem?_eq_getElem hlt] at hj
                    cases hj; exact hok)
                generalize nl[k] = y at *
                have HBA := Lib.hid (HBW3.out.alloc (Nat.le_trans HBW.out.size hbz3) (.cells #[.slice y.ca y.n.cur.length y.cc, .slice y.oa y.n.off.length y.oc, .int .i64 y.n.slop] 68))
                have HRA := Lib.hid ((HI.out.1.belowW (Nat.le_trans HBW.out.size hbz3) ((Below.refl _ _).alloc (Nat.le_refl _) (.cells #[.slice y.ca y.n.cur.length y.cc, .slice y.oa y.n.off.length y.oc, .int .i64 y.n.slop] 68))))
                have HRB := Lib.hid ((HI.out.2.belowW (Nat.le_trans HBW.out.size hbz3) ((Below.refl _ _).alloc (Nat.le_refl _) (.cells #[.slice y.ca y.n.cur.length y.cc, .slice y.oa y.n.off.length y.oc, .int .i64 y.n.slop] 68))))
                have HBB := Lib.hid (HB3.out.alloc hbz3 (.cells #[.slice y.ca y.n.cur.length y.cc, .slice y.oa y.n.off.length y.oc, .int .i64 y.n.slop] 68))
                by_cases hsl : y.n.slop < 0
                · have HQ := Lib.hid (show okP p = false from okP_not (.inr (.inr (.inr ⟨_, HMM.out, by unfold okN; rw [decide_eq_false (by omega)]; rfl⟩))))
                  go_wp2
                  go_ret2
                  exact ldRet_no (fun hk => by rw [HQ.out] at hk; cases hk) HBA.out
                · cases hn1 : neg y.n.cur with
                  | true =>
                    have HQ := Lib.hid (show okP p = false from okP_not (.inr (.inr (.inr ⟨_, HMM.out, by unfold okN; rw [hn1]; simp⟩))))
                    have HN1 := Lib.hid hn1
                    clear hn1
                    go_wp2_with fail
                    refine (below_any _ y.n.cur _ w.heap.size HRA.out).mono ?_
                    rintro e wq ⟨rfl, rfl⟩
                    rw [HN1.out]
                    go_wp2
                    go_ret2
                    exact ldRet_no (fun hk => by rw [HQ.out] at hk; cases hk) HBA.out
                  | false =>
                    have HN1 := Lib.hid hn1
                    cases hn2 : neg y.n.off with
                    | true =>
                      have HQ := Lib.hid (show okP p = false from okP_not (.inr (.inr (.inr ⟨_, HMM.out, by unfold okN; rw [hn2]; simp⟩))))
                      have HN2 := Lib.hid hn2
                      clear hn1 hn2
                      go_wp2_with fail
                      refine (below_any _ y.n.cur _ w.heap.size HRA.out).mono ?_
                      rintro e wq ⟨rfl, rfl⟩
                      rw [HN1.out]
                      go_wp2_with fail
                      refine (below_any _ y.n.off _ w.heap.size HRB.out).mono ?_
                      rintro e wq ⟨rfl, rfl⟩
                      rw [HN2.out]
                      go_wp2
                      go_ret2
                      exact ldRet_no (fun hk => by rw [HQ.out] at hk; cases hk) HBA.out
                    | false =>
                      have HN2 := Lib.hid hn2
                      by_cases hln : y.n.cur.length = y.n.off.length
                      · have HQ := Lib.hid (show okN y.n = true from by unfold okN; rw [hn1, hn2, decide_eq_true (by omega : 0 ≤ y.n.slop), decide_eq_true hln]; rfl)
                        have hnb : ((y.n.cur.length : Int) != (y.n.off.length : Int)) = false := by rw [hln]; simp
                        clear hn1 hn2 hln
                        go_wp2_with fail
                        refine (below_any _ y.n.cur _ w.heap.size HRA.out).mono ?_
                        rintro e wq ⟨rfl, rfl⟩
                        rw [HN1.out]
                        go_wp2_with fail
                        refine (below_any _ y.n.off _ w.heap.size HRB.out).mono ?_
                        rintro e wq ⟨rfl, rfl⟩
                        rw [HN2.out]
                        go_wp2
                        go_roundw
                        case rel => exact ⟨k + 1, by show k + 1 ≤ nl.length; omega, HNX.out HQ.out, by go_num, HBB.out⟩
                        case measure => simp [intOf]; omega
                      · have HQ := Lib.hid (show okP p = false from okP_not (.inr (.inr (.inr ⟨_, HMM.out, by unfold okN; rw [decide_eq_false hln]; simp⟩))))
                        have hnb : ((y.n.cur.length : Int) != (y.n.off.length : Int)) = true := by simp; omega
                        clear hn1 hn2 hln
                        go_wp2_with fail
                        refine (below_any _ y.n.cur _ w.heap.size HRA.out).mono ?_
                        rintro e wq ⟨rfl, rfl⟩
                        rw [HN1.out]
                        go_wp2_with fail
                        refine (below_any _ y.n.off _ w.heap.size HRB.out).mono ?_
                        rintro e wq ⟨rfl, rfl⟩
                        rw [HN2.out]
                        go_wp2
                        go_ret2
                        exact ldRet_no (fun hk => by rw [HQ.out] at hk; cases hk) HBA.out
              · have HQ := Lib.hid (show okP p = true from okP_yes HNA.out HND.out HCU.out (fun n hn => by
                  rw [← HNM.out] at hn
                  obtain ⟨y, hy, rfl⟩ := List.mem_map.1 hn
                  obtain ⟨j, hj, rfl⟩ := List.getElem_of_mem hy
                  exact HA.out j _ (List.getElem?_eq_getElem hj) (by omega)))
                have HO3 := Lib.hid (HO2.out.below HB3.out)
                go_wp2
                go_ret2
                exact ldRet_ok HQ.out HD.out HO3.out HBW3.out
end Go.Proofs.YtmdpfikalekmlaaGreatDoor
