/- Layer 4: the walk of the reference's Parse. -/
import Derived.Test.YtdkalcecmdadeaaDoorRc
import Derived.Test.YtdkalcecmdadeaaDoorTx
namespace Go.Proofs.YtdkalcecmdadeaaDoor
open Go.RowKit
set_option maxRecDepth 100000
set_option maxHeartbeats 2000000
set_option linter.unusedSimpArgs false
set_option linter.unusedVariables false

theorem OwnL.belowLt {α : Type} {S : Shape α} {w w' : World} {B C : Nat} {v : Value} {l : List α} (h : OwnL S w B v l) (hl : ∀ g, v.ownBlock = some g → g < C) (hb : Below C w w') : OwnL S w' B v l := by
  refine ⟨h.1, ?_⟩
  rcases h.2 with h2 | ⟨g, cap, cur, hv, hg, hh, r⟩
  · exact Or.inl h2
  · exact Or.inr ⟨g, cap, cur, hv, hg, (hb.block g (hl g (by rw [hv]; rfl))).trans hh, r⟩
structure RpEnv (w : World) (C : Nat) (pv : Value) (ps : List ByteArray) (acc : List Fd) (A : Option Addr) (cap : Nat) (wx : World) : Prop where
  b0 : Blk wx w.heap.size 24 #[.slice none 0 0]
  b1 : Blk wx (w.heap.size + 1) 24 #[.slice A acc.length cap]
  own : OwnL fdS wx C (.slice A acc.length cap) acc
  pcs : OwnL strS wx (w.heap.size + 2) pv ps
  plt : ∀ g, pv.ownBlock = some g → g < C
  bel : Below w.heap.size w wx
  c1 : w.heap.size + 2 ≤ C
  c2 : C ≤ wx.heap.size
section
variable {w wx wy : World} {C : Nat} {pv : Value} {ps : List ByteArray} {acc : List Fd} {A : Option Addr} {cap : Nat}
theorem RpEnv.below (h : RpEnv w C pv ps acc A cap wx) (hb : Below wx.heap.size wx wy) : RpEnv w C pv ps acc A cap wy :=
  ⟨h.b0.belowW hb, h.b1.belowW hb, h.own.below hb, h.pcs.below hb, h.plt, h.bel.trans (hb.mono h.bel.size), h.c1, Nat.le_trans h.c2 hb.size⟩
theorem RpEnv.set5 (h : RpEnv w C pv ps acc A cap wx) {p : Addr} (hp : C ≤ p.block) (hn : ∀ g, (Value.slice A acc.length cap).ownBlock = some g → g < p.block) (u : Value) : RpEnv w C pv ps acc A cap (wx.setCell p u) := by
  have := h.c1
  exact ⟨h.b0.far (by omega) _, h.b1.far (by omega) _, h.own.farNe (fun g hg => by have := hn g hg; omega) _, h.pcs.farNe (fun g hg => by have := h.plt g hg; omega) _, h.plt, h.bel.setCell (by omega) _, h.c1, by rw [show (wx.setCell p u).heap.size = wx.heap.size from by simp [World.setCell]]; exact h.c2⟩
theorem RpEnv.facts (h : RpEnv w C pv ps acc A cap wx) : w.heap.size + 1 < wx.heap.size ∧ wx.cell? ⟨w.heap.size + 1, 0, none⟩ = some (.slice A acc.length cap) ∧ wx.cell? ⟨w.heap.size, 0, none⟩ = some (.slice none 0 0) ∧
    wx.frozen? ⟨w.heap.size + 1, 0, none⟩ = false ∧ wx.frozen? ⟨w.heap.size, 0, none⟩ = false :=
  ⟨h.b1.lt, h.b1.cell 0, h.b0.cell 0, h.b1.frozen 0, h.b0.frozen 0⟩
end
def gB (p : ByteArray) : Fd := guessF p.data.toList
def RpRel (w : World) (C : Nat) (pv : Value) (ps : List ByteArray) (iv : Value) (wr : World) : Prop :=
  ∃ (k : Nat) (acc : List Fd) (A : Option Addr) (cap : Nat), k ≤ ps.length ∧ iv = .int .i64 (k : Int) ∧ acc = (ps.take k).map gB ∧ acc.length ≤ cap ∧ cap ≤ 9223372036854775807 ∧ RpEnv w C pv ps acc A cap wr
def RwRel (w : World) (C : Nat) (pv : Value) (ps : List ByteArray) (acc : List Fd) (A : Option Addr) (cap : Nat) (gf : Nat) (wv : Value) (ws : List ByteArray) (iv : Value) (wr : World) : Prop :=
  ∃ j : Nat, j ≤ ws.length ∧ iv = .int .i64 (j : Int) ∧ Blk wr gf 34 #[.string ⟨#[]⟩, .int .i64 0, .bool (((ws.take j).map (·.data.toList)).contains bFold), .bool (((ws.take j).map (·.data.toList)).contains bStop), .bool (((ws.take j).map (·.data.toList)).contains bStem)] ∧
    OwnL strS wr (gf + 1) wv ws ∧ RpEnv w C pv ps acc A cap wr
def RkRel (w : World) (C : Nat) (pv : Value) (ps : List ByteArray) (acc : List Fd) (A : Option Addr) (cap : Nat) (gf : Nat) (nm : ByteArray) (a b c : Bool) (hv : Value) (hs : List ByteArray) (iv : Value) (wr : World) : Prop :=
  ∃ n : Nat, n ≤ 3 ∧ iv = .int .i64 ((n : Int) + 1) ∧ Blk wr gf 34 #[.string nm, .int .i64 (if hs.length = 2 then kindTo (hs.getD 1 ⟨#[]⟩).data.toList n else 0), .bool a, .bool b, .bool c] ∧
    OwnL strS wr (gf + 1) hv hs ∧ RpEnv w C pv ps acc A cap wr
def RpRet (w : World) (r : Option (List Fd)) (e : Ending) (w' : World) : Prop :=
  Below w.heap.size w w' ∧ match r with
    | none => e = .returned (.tuple #[.agg #[.slice none 0 0], .int .i64 11])
    | some l => ∃ v, e = .returned (.tuple #[.agg #[v], .int .i64 0]) ∧ OwnL fdS w' w.heap.size v l
theorem getD_map_str (l : List (List UInt8)) (k : Nat) : ((l.map str).getD k ⟨#[]⟩).data.toList = l.getD k [] := by
  rw [List.getD_eq_getElem?_getD, List.getD_eq_getElem?_getD, List.getElem?_map]
  cases l[k]? <;> rfl
theorem map_str_data (l : List (List UInt8)) : (l.map str).map (·.data.toList) = l := by
  rw [List.map_map]
  conv => rhs; rw [← List.map_id l]
  rfl
/-- A field of the guess, by its pieces in memory. -/
theorem gB_eq (p : ByteArray) (ws hs : List ByteArray) (hw : ws = (cutAll 44 p.data.toList).map str) (hh : hs = (cutAll 58 (ws.getD 0 ⟨#[]⟩).data.toList).map str) :
    gB p = ⟨hs.getD 0 ⟨#[]⟩, if hs.length = 2 then kindTo (hs.getD 1 ⟨#[]⟩).data.toList 3 else 0, (ws.map (·.data.toList)).contains bFold, (ws.map (·.data.toList)).contains bStop, (ws.map (·.data.toList)).contains bStem⟩ := by
  subst hw
  rw [getD_map_str] at hh
  subst hh
  unfold gB guessF halfKind
  rw [map_str_data, getD_map_str, List.length_map]
  simp only [Fd.mk.injEq, and_true]
  apply ba_ext
  rw [getD_map_str, str_data]
theorem guess_small {s : ByteArray} {k : Nat} (hs : s.size ≤ 1280) : SmallNames ((((cutAll 59 s.data.toList).map str).take k).map gB) := by
  intro f hf
  obtain ⟨p, hp, rfl⟩ := List.mem_map.1 hf
  obtain ⟨q, hq, rfl⟩ := List.mem_map.1 (List.mem_of_mem_take hp)
  have h1 := (cutAcc_len 59 s.data.toList []).2 q hq
  unfold gB guessF maxLen
  simp only [str_data, str_size]
  have h2 : ∀ (c : UInt8) (l : List UInt8), ((cutAll c l).getD 0 []).length ≤ l.length := by
    intro c l
    have h := (cutAcc_len c l []).2
    rw [List.getD_eq_getElem?_getD]
    cases hx : (cutAll c l)[0]? with
    | none => simp
    | some x =>
      have := h x (List.mem_of_getElem? hx)
      simpa using this
  have h3 := h2 58 ((cutAll 44 q).getD 0 [])
  have h4 := h2 44 q
  simp only [List.length_nil, Nat.zero_add, ← ba_size] at h1
  omega
theorem cont_snoc (l : List (List UInt8)) (q b : List UInt8) : (l ++ [q]).contains b = (l.contains b || decide (q = b)) := by
  rw [Bool.eq_iff_iff]
  simp only [List.contains_iff_mem, List.mem_append, List.mem_singleton, Bool.or_eq_true, decide_eq_true_eq]
  constructor
  · rintro (h | h)
    · exact .inl h
    · exact .inr h.symm
  · rintro (h | h)
    · exact .inl h
    · exact .inr h.symm
theorem bytes_beq (s : ByteArray) (m : List UInt8) : (s.toList == m) = decide (s.data.toList = m) := by
  rw [ba_toList, Bool.eq_iff_iff]; simp
theorem rpsch_any (s : ByteArray) (ea : List Addr) (w : World) (hs : s.size ≤ 100000000) (hE : SchEnv w ea) :
    Calls Tryd.prog 18 #[.string s] w (RpRet w (rparseL s.data.toList)) := by
  have HE := Lib.hid hE; clear hE
  by_cases hlen : 1280 < s.size
  · have HN := Lib.hid (show rparseL s.data.toList = none from by unfold rparseL; rw [if_pos (by rw [← ba_size]; exact hlen)])
    go_enter Tryd.func18, Tryd.ntmps18
    go_wp2
    refine (bodyPost_ret (v := .tuple #[.agg #[.slice none 0 0], .int .i64 11]) ?_ rfl ?_)
    · simp [results, Tryd.results18, go_sem]
    · rw [HN.out]
      exact ⟨(Below.refl _ _).alloc (Nat.le_refl _) _, rfl⟩
  · have hl2 : s.size ≤ 1280 := by omega
    go_enter Tryd.func18, Tryd.ntmps18
    go_wp2_with fail
    refine (rcut_any s 59 _ (by omega)).mono ?_
    rintro e w1 ⟨pv, rfl, hop, hb1⟩
    rw [World.size_alloc, World.size_alloc] at hop
    have HB0 := Lib.hid (((Blk.new w 24 #[.slice none 0 0]).alloc (.cells #[.slice none 0 0] 24)).belowW hb1)
    have HB1 : Hid (Blk w1 (w.heap.size + 1) 24 #[.slice none 0 0]) := Lib.hid (by
      have h := Blk.new (w.alloc (.cells #[.slice none 0 0] 24)) 24 #[.slice none 0 0]
      rw [World.size_alloc] at h
      exact h.belowW hb1)
    have HW1 := Lib.hid ((((Below.refl _ _).alloc (Nat.le_refl _) _ : Below w.heap.size w (w.alloc (.cells #[.slice none 0 0] 24))).alloc (by rw [World.size_alloc]; omega) (.cells #[.slice none 0 0] 24)).trans (hb1.mono (by rw [World.size_alloc, World.size_alloc]; omega)))
    have hwz : w.heap.size + 2 ≤ w1.heap.size := by have := hb1.size; rw [World.size_alloc, World.size_alloc] at this; exact this
    obtain ⟨ps, hps⟩ : ∃ ps, ps = (cutAll 59 s.data.toList).map str := ⟨_, rfl⟩
    rw [← hps] at hop
    have hpl : ps.length ≤ 1281 := by
      rw [hps, List.length_map]
      have := (cutAcc_len 59 s.data.toList []).1
      rw [← ba_size] at this
      unfold cutAll; omega
    have hpp : ∀ p ∈ ps, p.size ≤ 1280 := by
      intro p hp
      rw [hps] at hp
      obtain ⟨q, hq, rfl⟩ := List.mem_map.1 hp
      have := (cutAcc_len 59 s.data.toList []).2 q hq
      rw [← ba_size] at this
      rw [str_size]; simp at this; omega
    have HOP := Lib.hid hop; have HPS := Lib.hid hps; have HPP := Lib.hid hpp
    obtain ⟨pA, pcap, rfl, hq1, hq2, -⟩ := hop.open_
    unfold maxLen at hq2
    clear hb1 hop hps hpp
    go_wp2
    go_loopw [22] (fun iv wr => RpRel w w1.heap.size (.slice pA ps.length pcap) ps iv wr) (fun iv _ => ps.length - (intOf iv).toNat)
    case atStart => exact ⟨0, [], none, 0, by omega, rfl, rfl, by simp, by omega, HB0.out, HB1.out, OwnL.nil _ _ _, HOP.out, fun g hg => (HOP.out.lt g hg).2, HW1.out, hwz, Nat.le_refl _⟩
    case round =>
      obtain ⟨wo, rfl⟩ : ∃ wo : World, wo = wr := ⟨_, rfl⟩
      obtain ⟨k, acc, A, cap, hk, rfl, hacc, hcap, hcap2, henv⟩ := hrel
      have HV := Lib.hid henv
      have HAC := Lib.hid hacc
      have hal : acc.length = k := by rw [hacc, List.length_map, List.length_take]; omega
      have hal1 : acc.length + 1 ≤ 100000000000 := by omega
      have HNB := Lib.hid (fun g (hg : (Value.slice A acc.length cap).ownBlock = some g) => (henv.own.lt g hg).2)
      obtain ⟨hlt1, c1, c0, z1, z0⟩ := henv.facts
      clear henv hacc hal
      by_cases hlt : k < ps.length
      · obtain ⟨a, rfl, hab, d0⟩ := at_str (RdL.of_own HV.out.pcs) hlt
        have hsp : ps[k].size ≤ 1280 := HPP.out _ (List.getElem_mem hlt)
        have HT := Lib.hid (show (ps.take k).map gB ++ [gB ps[k]] = (ps.take (k + 1)).map gB from by rw [List.take_succ_eq_append_getElem hlt, List.map_append]; rfl)
        go_wp2_with fail
        refine (rcut_any ps[k] 44 _ (by omega)).mono ?_
        rintro e w2 ⟨wv, rfl, how, hb2⟩
        rw [World.size_alloc] at how
        have HF2 := Lib.hid ((Blk.new wo 34 #[.string ⟨#[]⟩, .int .i64 0, .bool false, .bool false, .bool false]).belowW hb2)
        have HV2 := Lib.hid ((HV.out.below ((Below.refl _ _).alloc (Nat.le_refl _) _)).below hb2)
        have hCo : w1.heap.size ≤ wo.heap.size := HV.out.c2
        obtain ⟨ws, hws⟩ : ∃ ws, ws = (cutAll 44 ps[k].data.toList).map str := ⟨_, rfl⟩
        rw [← hws] at how
        have hwl : 0 < ws.length := by
          rw [hws, List.length_map]
          exact List.length_pos_iff.2 (cutAcc_ne _ _ _)
        have hwl2 : ws.length ≤ 1281 := by
          rw [hws, List.length_map]
          have := (cutAcc_len 44 ps[k].data.toList []).1
          rw [← ba_size] at this
          unfold cutAll; omega
        have hw0 : (ws.getD 0 ⟨#[]⟩).size ≤ 1280 := by
          rw [hws, ba_size, getD_map_str, List.getD_eq_getElem?_getD]
          cases hx : (cutAll 44 ps[k].data.toList)[0]? with
          | none => simp
          | some x =>
            have := (cutAcc_len 44 ps[k].data.toList []).2 x (List.mem_of_getElem? hx)
            rw [← ba_size] at this
            simp at this ⊢; omega
        have HOW := Lib.hid how; have HWS := Lib.hid hws
        obtain ⟨wA, wcap, rfl, hq3, hq4, -⟩ := how.open_
        unfold maxLen at hq4
        clear hb2 how hws hlt1 c1 c0 z1 z0
        go_wp2
        go_loopw [31] (fun iv wr => RwRel w w1.heap.size (.slice (some a) ps.length pcap) ps acc A cap wo.heap.size (.slice wA ws.length wcap) ws iv wr) (fun iv _ => ws.length - (intOf iv).toNat)
        case atStart => exact ⟨0, by omega, rfl, HF2.out, HOW.out, HV2.out⟩
        case round =>
          obtain ⟨j, hj, rfl, hf, how, henv⟩ := hrel
          have HF := Lib.hid hf; have HO := Lib.hid how; have HV3 := Lib.hid henv
          have hgl : wo.heap.size < wr.heap.size := hf.lt
          by_cases hjl : j < ws.length
          · obtain ⟨a2, rfl, hab2, x0⟩ := at_str (RdL.of_own how) hjl
            have y2 := hf.cell 2; have y3 := hf.cell 3; have y4 := hf.cell 4
            have f2 := hf.frozen 2; have f3 := hf.frozen 3; have f4 := hf.frozen 4
            simp only [List.getElem?_toArray, List.getElem?_cons_succ, List.getElem?_cons_zero] at y2 y3 y4
            have HTK := Lib.hid (show (ws.take (j + 1)).map (·.data.toList) = (ws.take j).map (·.data.toList) ++ [ws[j].data.toList] from by rw [List.take_succ_eq_append_getElem hjl, List.map_append]; rfl)
            clear hf how henv
            have e1 := bytes_beq ws[j] bFold
            have e2 := bytes_beq ws[j] bStop
            have e3 := bytes_beq ws[j] bStem
            have hcase : ws[j].data.toList = bFold ∨ (ws[j].data.toList ≠ bFold ∧ ws[j].data.toList = bStop) ∨ (ws[j].data.toList ≠ bFold ∧ ws[j].data.toList ≠ bStop ∧ ws[j].data.toList = bStem) ∨ (ws[j].data.toList ≠ bFold ∧ ws[j].data.toList ≠ bStop ∧ ws[j].data.toList ≠ bStem) := by
              by_cases a : ws[j].data.toList = bFold
              · exact .inl a
              · by_cases b : ws[j].data.toList = bStop
                · exact .inr (.inl ⟨a, b⟩)
                · by_cases c : ws[j].data.toList = bStem
                  · exact .inr (.inr (.inl ⟨a, b, c⟩))
                  · exact .inr (.inr (.inr ⟨a, b, c⟩))
            rcases hcase with q | ⟨q1, q⟩ | ⟨q1, q2, q⟩ | ⟨q1, q2, q⟩
            · have q2 : ws[j].data.toList ≠ bStop := by rw [q]; decide
              have q3 : ws[j].data.toList ≠ bStem := by rw [q]; decide
              rw [decide_eq_true q] at e1; rw [decide_eq_false q2] at e2; rw [decide_eq_false q3] at e3
              have HN := Lib.hid (show (((ws.take (j + 1)).map (·.data.toList)).contains bFold = true) ∧ (((ws.take (j + 1)).map (·.data.toList)).contains bStop = ((ws.take j).map (·.data.toList)).contains bStop) ∧ (((ws.take (j + 1)).map (·.data.toList)).contains bStem = ((ws.take j).map (·.data.toList)).contains bStem) from by rw [HTK.out]; rw [cont_snoc, cont_snoc, cont_snoc, decide_eq_true q, decide_eq_false q2, decide_eq_false q3]; simp)
              clear q q2 q3
              simp only [bFold] at e1; simp only [bStop] at e2; simp only [bStem] at e3
              go_wp2
              go_roundw
              case rel => exact ⟨j + 1, by omega, by go_num, by rw [HN.out.1, HN.out.2.1, HN.out.2.2]; exact HF.out.set_ 2 (.bool true), HO.out.far (p := ⟨wo.heap.size, 2, none⟩) (Nat.lt_succ_self _) _, HV3.out.set5 hCo HNB.out _⟩
              case measure => simp [intOf]; omega
            · have q3 : ws[j].data.toList ≠ bStem := by rw [q]; decide
              rw [decide_eq_false q1] at e1; rw [decide_eq_true q] at e2; rw [decide_eq_false q3] at e3
              have HN := Lib.hid (show (((ws.take (j + 1)).map (·.data.toList)).contains bFold = ((ws.take j).map (·.data.toList)).contains bFold) ∧ (((ws.take (j + 1)).map (·.data.toList)).contains bStop = true) ∧ (((ws.take (j + 1)).map (·.data.toList)).contains bStem = ((ws.take j).map (·.data.toList)).contains bStem) from by rw [HTK.out]; rw [cont_snoc, cont_snoc, cont_snoc, decide_eq_false q1, decide_eq_true q, decide_eq_false q3]; simp)
              clear q q1 q3
              simp only [bFold] at e1; simp only [bStop] at e2; simp only [bStem] at e3
              go_wp2
              go_roundw
              case rel => exact ⟨j + 1, by omega, by go_num, by rw [HN.out.1, HN.out.2.1, HN.out.2.2]; exact HF.out.set_ 3 (.bool true), HO.out.far (p := ⟨wo.heap.size, 3, none⟩) (Nat.lt_succ_self _) _, HV3.out.set5 hCo HNB.out _⟩
              case measure => simp [intOf]; omega
            · rw [decide_eq_false q1] at e1; rw [decide_eq_false q2] at e2; rw [decide_eq_true q] at e3
              have HN := Lib.hid (show (((ws.take (j + 1)).map (·.data.toList)).contains bFold = ((ws.take j).map (·.data.toList)).contains bFold) ∧ (((ws.take (j + 1)).map (·.data.toList)).contains bStop = ((ws.take j).map (·.data.toList)).contains bStop) ∧ (((ws.take (j + 1)).map (·.data.toList)).contains bStem = true) from by rw [HTK.out]; rw [cont_snoc, cont_snoc, cont_snoc, decide_eq_false q1, decide_eq_false q2, decide_eq_true q]; simp)
              clear q q1 q2
              simp only [bFold] at e1; simp only [bStop] at e2; simp only [bStem] at e3
              go_wp2
              go_roundw
              case rel => exact ⟨j + 1, by omega, by go_num, by rw [HN.out.1, HN.out.2.1, HN.out.2.2]; exact HF.out.set_ 4 (.bool true), HO.out.far (p := ⟨wo.heap.size, 4, none⟩) (Nat.lt_succ_self _) _, HV3.out.set5 hCo HNB.out _⟩
              case measure => simp [intOf]; omega
            · rw [decide_eq_false q1] at e1; rw [decide_eq_false q2] at e2; rw [decide_eq_false q] at e3
              have HN := Lib.hid (show (((ws.take (j + 1)).map (·.data.toList)).contains bFold = ((ws.take j).map (·.data.toList)).contains bFold) ∧ (((ws.take (j + 1)).map (·.data.toList)).contains bStop = ((ws.take j).map (·.data.toList)).contains bStop) ∧ (((ws.take (j + 1)).map (·.data.toList)).contains bStem = ((ws.take j).map (·.data.toList)).contains bStem) from by rw [HTK.out]; rw [cont_snoc, cont_snoc, cont_snoc, decide_eq_false q1, decide_eq_false q2, decide_eq_false q]; simp)
              clear q q1 q2
              simp only [bFold] at e1; simp only [bStop] at e2; simp only [bStem] at e3
              go_wp2
              go_roundw
              case rel => exact ⟨j + 1, by omega, by go_num, by rw [HN.out.1, HN.out.2.1, HN.out.2.2]; exact HF.out, HO.out, HV3.out⟩
              case measure => simp [intOf]; omega
          · obtain rfl : j = ws.length := by omega
            obtain ⟨wi, rfl⟩ : ∃ x : World, x = wr := ⟨_, rfl⟩
            rw [List.take_of_length_le (Nat.le_refl _)] at hf
            have HFL := Lib.hid hf
            obtain ⟨g0, hg0, hcell0⟩ := how.at_ strOk hwl
            cases hg0
            have x0 : wi.cell? ⟨g0, 0, none⟩ = some (.string ws[0]) := hcell0 0 _ (by decide) rfl
            have hws0 : (ws.getD 0 ⟨#[]⟩) = ws[0] := by rw [List.getD_eq_getElem?_getD, List.getElem?_eq_getElem hwl]; rfl
            rw [hws0] at hw0
            have HW00 := Lib.hid hws0
            have HGB := Lib.hid (fun hs hh => gB_eq ps[k] ws hs HWS.out hh)
            generalize ((ws.map (·.data.toList)).contains bFold) = fa at *
            generalize ((ws.map (·.data.toList)).contains bStop) = fb at *
            generalize ((ws.map (·.data.toList)).contains bStem) = fc at *
            clear hf how henv hcell0 hws0 HF
            go_wp2_with fail
            refine (rcut_any ws[0] 58 _ (by omega)).mono ?_
            rintro e w3 ⟨hv, rfl, hoh, hb3⟩
            have HF3 := Lib.hid (HFL.out.belowW hb3)
            have HV4 := Lib.hid (HV3.out.below hb3)
            obtain ⟨hs, hhs⟩ : ∃ hs, hs = (cutAll 58 ws[0].data.toList).map str := ⟨_, rfl⟩
            rw [← hhs] at hoh
            have hhl : 0 < hs.length := by
              rw [hhs, List.length_map]
              exact List.length_pos_iff.2 (cutAcc_ne _ _ _)
            have hhl2 : hs.length ≤ 1281 := by
              rw [hhs, List.length_map]
              have := (cutAcc_len 58 ws[0].data.toList []).1
              rw [← ba_size] at this
              unfold cutAll; omega
            have HOH := Lib.hid (hoh.more (B2 := wo.heap.size + 1) (by omega))
            obtain ⟨hA, hcp, rfl, hq5, hq6, -⟩ := hoh.open_
            unfold maxLen at hq6
            obtain ⟨g1, hg1, hcell1⟩ := hoh.at_ strOk hhl
            cases hg1
            have x1 : w3.cell? ⟨g1, 0, none⟩ = some (.string hs[0]) := hcell1 0 _ (by decide) rfl
            have HHS := Lib.hid hhs
            have y0 := HF3.out.cell 0
            have f0 := HF3.out.frozen 0
            have hg3 : wo.heap.size < w3.heap.size := HF3.out.lt
            have hg13 : g1 < w3.heap.size := World.block_lt_of_cell? w3 ⟨g1, 0, none⟩ x1
            simp only [List.getElem?_toArray, List.getElem?_cons_succ, List.getElem?_cons_zero] at y0
            clear hb3 hoh hhs hcell1
            go_wp2
            go_loopw [11] (fun iv wr => RkRel w w1.heap.size (.slice (some a) ps.length pcap) ps acc A cap wo.heap.size hs[0] fa fb fc (.slice (some ⟨g1, 0, none⟩) hs.length hcp) hs iv wr) (fun iv _ => (4 - intOf iv).toNat)
            case atStart =>
              refine ⟨0, by omega, rfl, ?_, HOH.out.far (p := ⟨wo.heap.size, 0, none⟩) (Nat.lt_succ_self _) _, HV4.out.set5 hCo HNB.out _⟩
              have e : (if hs.length = 2 then kindTo (hs.getD 1 ⟨#[]⟩).data.toList 0 else 0) = 0 := by split <;> rfl
              rw [e]
              exact HF3.out.set_ 0 (.string hs[0])
            case round =>
              obtain ⟨n, hn, rfl, hf, hoh, henv⟩ := hrel
              have HFk := Lib.hid hf; have HOk := Lib.hid hoh; have HVk := Lib.hid henv
              have hgk : wo.heap.size < wr.heap.size := hf.lt
              have y1 := hf.cell 1
              have f1 := hf.frozen 1
              have z0' := hf.cell 0; have z2' := hf.cell 2; have z3' := hf.cell 3; have z4' := hf.cell 4
              simp only [List.getElem?_toArray, List.getElem?_cons_succ, List.getElem?_cons_zero] at y1 z0' z2' z3' z4'
              by_cases hn3 : n < 3
              · have HKN : Hid (∀ (n : Int) W, Calls Tryd.prog 30 #[.int .i64 n] W fun e W' => e = .returned (.string (str (kWord n))) ∧ W' = W) := Lib.hid (fun n W => (rkind_any n W).mono fun e W' ⟨h1, h2⟩ => ⟨h1, h2.symm⟩)
                by_cases h2 : hs.length = 2
                · have h2b : ((hs.length : Int) == 2) = true := by rw [h2]; rfl
                  have h1l : 1 < hs.length := by omega
                  obtain ⟨g1', hg1', hcell⟩ := hoh.at_ strOk h1l
                  cases hg1'
                  have x2 : wr.cell? ⟨g1, 1, none⟩ = some (.string hs[1]) := hcell 0 _ (by decide) rfl
                  have hg1r : g1 < wr.heap.size := World.block_lt_of_cell? wr ⟨g1, 1, none⟩ x2
                  have e4 := bytes_beq hs[1] (kWord ((n : Int) + 1))
                  have e5 : (hs[1].toList == (str (kWord ((n : Int) + 1))).toList) = decide (hs[1].data.toList = kWord ((n : Int) + 1)) := by rw [ba_toList (str _), str_data]; exact e4
                  have hgd : (hs.getD 1 ⟨#[]⟩) = hs[1] := by rw [List.getD_eq_getElem?_getD, List.getElem?_eq_getElem h1l]; rfl
                  have HST : Hid ((if hs.length = 2 then kindTo (hs.getD 1 ⟨#[]⟩).data.toList (n + 1) else 0) = if hs[1].data.toList = kWord ((n : Int) + 1) then (n : Int) + 1 else if hs.length = 2 then kindTo (hs.getD 1 ⟨#[]⟩).data.toList n else 0) := Lib.hid (by
                    rw [if_pos h2, if_pos h2, kindTo, hgd])
                  obtain ⟨u1, y1u⟩ : ∃ u, wr.cell? ⟨wo.heap.size, 1, none⟩ = some u := ⟨_, y1⟩
                  clear hf hoh henv hcell e4 hgd h2 y1
                  by_cases hkw : hs[1].data.toList = kWord ((n : Int) + 1)
                  · rw [decide_eq_true hkw] at e5
                    rw [if_pos hkw] at HST
                    clear hkw
                    go_wp2
                    go_quiet ((go_at_call 30; exact Calls.quiet_of_same (HKN.out _ _)))
                    go_wp2
                    go_roundw
                    case rel => exact ⟨n + 1, by omega, by go_num, by rw [HST.out]; exact (HFk.out.drewN _).set_ 1 _, (HOk.out.drewN _).far (p := ⟨wo.heap.size, 1, none⟩) (Nat.lt_succ_self _) _, (HVk.out.below (below_drewN (Below.refl _ _) _)).set5 hCo HNB.out _⟩
                    case measure => simp [intOf]; omega
                  · rw [decide_eq_false hkw] at e5
                    rw [if_neg hkw] at HST
                    clear hkw
                    go_wp2
                    go_quiet ((go_at_call 30; exact Calls.quiet_of_same (HKN.out _ _)))
                    go_wp2
                    go_roundw
                    case rel => exact ⟨n + 1, by omega, by go_num, by rw [HST.out]; exact HFk.out.drewN _, HOk.out.drewN _, HVk.out.below (below_drewN (Below.refl _ _) _)⟩
                    case measure => simp [intOf]; omega
                · have h2b : ((hs.length : Int) == 2) = false := by rw [beq_eq_false_iff_ne]; omega
                  have HST : Hid ((if hs.length = 2 then kindTo (hs.getD 1 ⟨#[]⟩).data.toList (n + 1) else 0) = if hs.length = 2 then kindTo (hs.getD 1 ⟨#[]⟩).data.toList n else 0) := Lib.hid (by rw [if_neg h2, if_neg h2])
                  clear hf hoh henv h2 y1
                  go_wp2
                  go_quiet (fail)
                  go_wp2
                  go_roundw
                  case rel => exact ⟨n + 1, by omega, by go_num, by rw [HST.out]; exact HFk.out.drewN _, HOk.out.drewN _, HVk.out.below (below_drewN (Below.refl _ _) _)⟩
                  case measure => simp [intOf]; omega
              · obtain rfl : n = 3 := by omega
                have HX := Lib.hid (HGB.out hs (by rw [HW00.out]; exact HHS.out))
                have hh0 : (hs.getD 0 ⟨#[]⟩) = hs[0] := by rw [List.getD_eq_getElem?_getD, List.getElem?_eq_getElem hhl]; rfl
                rw [hh0] at HX
                generalize (if hs.length = 2 then kindTo (hs.getD 1 ⟨#[]⟩).data.toList 3 else 0) = KD at *
                obtain ⟨hlt1, c1, c0, z1, z0⟩ := henv.facts
                have hCr : w1.heap.size ≤ wr.heap.size := henv.c2
                have hC2 : w.heap.size + 2 ≤ w1.heap.size := henv.c1
                have hK1 : w.heap.size + 1 < w1.heap.size := by omega
                clear hf hoh henv f1 hh0
                go_wp2_with (at_builtin; refine OwnL.append fdOk HVk.out.own ⟨hs[0], KD, fa, fb, fc⟩ rfl _ _ rfl rfl rfl _ rfl hCr hal1 ?_; intro v5 w5 ho5 hb5; obtain ⟨A5, cap5, rfl, hq7, hq8, -⟩ := ho5.open_; have HO5 := Lib.hid ho5; have HB5 := Lib.hid hb5; have z5 := (HVk.out.b1.below hb5 hK1).frozen 0; have c5 := (HVk.out.b1.below hb5 hK1).cell 0; clear ho5 hb5)
                go_roundw
                case rel =>
                  have hll : (acc ++ [(⟨hs[0], KD, fa, fb, fc⟩ : Fd)]).length = acc.length + 1 := by simp
                  have hC5 : w1.heap.size ≤ w5.heap.size := Nat.le_trans hCr (by have := HB5.out.size; omega)
                  refine ⟨k + 1, acc ++ [⟨hs[0], KD, fa, fb, fc⟩], A5, cap5, by omega, by go_num, by rw [← HX.out, HAC.out]; exact HT.out, hq7, hq8, ?_⟩
                  refine ⟨(HVk.out.b0.below HB5.out (by omega)).far (by show w.heap.size ≠ w.heap.size + 1; omega) _, by rw [hll]; exact (HVk.out.b1.below HB5.out hK1).set_ 0 _, ?_, ?_, HVk.out.plt, (HVk.out.bel.trans (HB5.out.mono (by omega))).setCell (show w.heap.size ≤ w.heap.size + 1 by omega) _, hC2, by rw [show (World.setCell w5 _ _).heap.size = w5.heap.size from by simp [World.setCell]]; exact hC5⟩
                  · have h := HO5.out.far (p := ⟨w.heap.size + 1, 0, none⟩) (show w.heap.size + 1 < w1.heap.size by omega) (.slice A5 (acc.length + 1) cap5)
                    exact h
                  · exact (HVk.out.pcs.belowLt HVk.out.plt HB5.out).far (p := ⟨w.heap.size + 1, 0, none⟩) (show w.heap.size + 1 < w.heap.size + 2 by omega) _
                case measure => simp [intOf]; omega
      · obtain rfl : k = ps.length := by omega
        have HGU : Hid (acc = guess s.data.toList) := Lib.hid (by
          rw [HAC.out, List.take_of_length_le (Nat.le_refl _), HPS.out, List.map_map]
          unfold guess
          apply List.map_congr_left
          intro q _
          show guessF (str q).data.toList = _
          rw [str_data])
        have HSM : Hid (SmallNames acc) := Lib.hid (by
          have h := guess_small (s := s) (k := ps.length) hl2
          rw [← HPS.out, ← HAC.out] at h; exact h)
        have HRP : Hid (rparseL s.data.toList = if chkL acc = true ∧ textL acc = s.data.toList then some acc else none) := Lib.hid (by
          unfold rparseL
          rw [if_neg (by rw [← ba_size]; omega), ← HGU.out])
        go_wp2_with fail
        refine (rtext_any _ acc ea wo wo.heap.size (Nat.le_refl _) (RdL.of_own HV.out.own) HSM.out (HE.out.below HV.out.bel)).mono ?_
        rintro e w6 ⟨he, hb6⟩
        have HV6 := Lib.hid (HV.out.below hb6)
        obtain ⟨hlt6, d1, d0, y1, y0⟩ := HV6.out.facts
        clear hb6 c1 c0 z1 z0
        cases hck : chkL acc with
        | false =>
          rw [hck] at he HRP
          simp only [Bool.false_eq_true, if_false, false_and] at he HRP
          subst he
          clear hck
          go_wp2
          refine (bodyPost_ret (v := .tuple #[.agg #[.slice none 0 0], .int .i64 11]) ?_ rfl ?_)
          · simp [results, Tryd.results18, go_sem, d0, y0]
          · rw [HRP.out]
            exact ⟨HV6.out.bel.setCell (Nat.le_refl _) _, rfl⟩
        | true =>
          rw [hck] at he HRP
          simp only [if_true, true_and] at he HRP
          subst he
          clear hck
          have hcmp : ((str (textL acc)).toList == s.toList) = decide (textL acc = s.data.toList) := by
            rw [ba_toList, ba_toList, str_data, Bool.eq_iff_iff]; simp
          by_cases hts : textL acc = s.data.toList
          · rw [decide_eq_true hts] at hcmp
            rw [if_pos hts] at HRP
            clear hts
            go_wp2
            refine (bodyPost_ret (v := .tuple #[.agg #[.slice A acc.length cap], .int .i64 0]) ?_ rfl ?_)
            · simp [results, Tryd.results18, go_sem, d0, d1, y0]
            · rw [HRP.out]
              exact ⟨HV6.out.bel.setCell (Nat.le_refl _) _, _, rfl, (HV6.out.own.far (p := ⟨w.heap.size, 0, none⟩) (by have := HV6.out.c1; show w.heap.size < _; omega) _).more (by have := HV6.out.c1; omega)⟩
          · rw [decide_eq_false hts] at hcmp
            rw [if_neg hts] at HRP
            clear hts
            go_wp2
            refine (bodyPost_ret (v := .tuple #[.agg #[.slice none 0 0], .int .i64 11]) ?_ rfl ?_)
            · simp [results, Tryd.results18, go_sem, d0, y0]
            · rw [HRP.out]
              exact ⟨HV6.out.bel.setCell (Nat.le_refl _) _, rfl⟩
end Go.Proofs.YtdkalcecmdadeaaDoor
