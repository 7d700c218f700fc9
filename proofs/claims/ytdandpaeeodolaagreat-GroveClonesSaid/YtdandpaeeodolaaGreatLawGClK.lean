/- For GroveClones: what is inserted, by definition; told rows and operations that are stored into; two trees beside each other. The walk of GroveClones. (ex_ldS_at, ex_ldR_at, ex_ldO_at, rdI) -/
import Derived.Test.YtdandpaeeodolaaGreatGlFK
import Derived.Test.YtdandpaeeodolaaGreatGlPK
import Derived.Test.YtdandpaeeodolaaGreatGlTK
import Derived.Test.YtdandpaeeodolaaGreatGlSK
import Derived.Test.YtdandpaeeodolaaGreatKeepsPK
import Derived.Deep.CutRange
namespace Go.Proofs.YtdandpaeeodolaaGreat
open Go.RowKit Go.Sort
set_option linter.unusedVariables false
set_option linter.unusedSimpArgs false

/-- the operations behind an insert -/
def insL (L : List Opn) (o : Opn) : List Opn := if goodOp o = true ∧ ∀ p ∈ L, p.At ≠ o.At then L.filter (fun p => decide (cmpS p.At o.At < 0)) ++ o :: L.filter (fun p => decide (cmpS o.At p.At < 0)) else L
theorem InsP.eq {L L' : List Opn} {o : Opn} {u E u' : Int} (h : InsP L o u E L' u') : L' = insL L o := by
  unfold insL
  rcases h with ⟨hb, _, rfl, _⟩ | ⟨_, p, hp, he, h⟩ | ⟨hg, hE, L1, L2, rfl, rfl, h3, h4, hu⟩
  · rw [if_neg (fun h => by rw [hb] at h; exact absurd h.1 (by decide))]
  · rw [if_neg (fun h => h.2 p hp he)]
    rcases h with ⟨_, _, rfl, _⟩ | ⟨_, _, rfl, _⟩ <;> rfl
  · have hne : ∀ p ∈ L1 ++ L2, p.At ≠ o.At := fun p hp e => by
      rcases List.mem_append.1 hp with hp | hp
      · have := h3 p hp
        rw [e, cmpS_self] at this
        omega
      · have := h4 p hp
        rw [e, cmpS_self] at this
        omega
    rw [if_pos ⟨hg, hne⟩, filter_split h3 h4]
    have e2 : (L1 ++ L2).filter (fun p => decide (cmpS o.At p.At < 0)) = L2 := by
      rw [List.filter_append, List.filter_eq_nil_iff.2 (fun p hp => by
        have := h3 p hp
        have e := cmpS_flip p.At o.At
        simp only [decide_eq_true_eq]
        omega), List.filter_eq_self.2 (fun p hp => by simpa using h4 p hp), List.nil_append]
    rw [e2]
def insAll (L : List Opn) (os : List Opn) : List Opn := os.foldl insL L
theorem insAll_take {L os : List Opn} {j : Nat} (h : j < os.length) : insAll L (os.take (j + 1)) = insL (insAll L (os.take j)) os[j] := by
  unfold insAll
  rw [List.take_succ_eq_append_getElem h, List.foldl_append]
  rfl
/-- rows that were told, their shape -/
def rwP (rs : List RwW) (k : Nat) (x : RwW) : Prop := ∃ r, rs[k]? = some r ∧ x.A = r.A ∧ x.n = r.n ∧ x.c = r.c
structure KR (W wr : World) (g : Nat) (rs : List RwW) : Prop where
  fr : Fr noB W wr
  gb : W.heap.size ≤ g
  row : Shp codR wr g rs.length (rwP rs)
  hd : ∀ r ∈ rs, 0 < r.n → ∃ h, r.A = some ⟨h, 0, none⟩ ∧ W.heap.size ≤ h ∧ Shp codH wr h r.n (fun _ _ => True)
theorem KR.of {W w : World} {A : Option Addr} {c : Nat} {rs : List RwW} {xs : List RwP} (f : Fr noB W w) (ho : OwnC codR W w A c rs) (hi : AllO (RwN W.heap.size) w rs xs) (h0 : 0 < rs.length) : ∃ g, A = some ⟨g, 0, none⟩ ∧ KR W w g rs := by
  obtain ⟨g, rfl, hb, hs⟩ := Shp.of ho h0
  refine ⟨g, rfl, f, hb, hs.mono fun k x _ hx => ⟨x, hx, rfl, rfl, rfl⟩, fun r hr hn => ?_⟩
  obtain ⟨i, hi1, rfl⟩ := List.getElem_of_mem hr
  have hN := hi.2 i hi1 (by rw [← hi.1]; exact hi1)
  have hown := hN.own
  have hl := hN.row.inn.len
  rw [← hl] at hown hn
  obtain ⟨h, e, hb2, hs2⟩ := Shp.of (C := codH) hown hn
  exact ⟨h, e, hb2, by rw [← hl]; exact hs2.mono fun _ _ _ _ => trivial⟩
theorem KR.name {W w : World} {g : Nat} {rs : List RwW} (h : KR W w g rs) {k : Nat} (hk : k < rs.length) (s : List UInt8) : KR W (w.setCell ⟨g, k * 8 + 6, none⟩ (.string (str s))) g rs := by
  obtain ⟨h1, f1⟩ := h.row.set hk [.string (str s)] 6 (show 7 ≤ 8 by decide) (fun x hx => ⟨{ x with Name := s }, hx, by
    show List.take 6 (csR x) ++ _ ++ List.drop 7 (csR x) = csR _
    simp [csR]⟩)
  refine ⟨h.fr.newB f1 h.gb, h.gb, h1, fun r hr hn => ?_⟩
  obtain ⟨a, e, hb, hs⟩ := h.hd r hr hn
  exact ⟨a, e, hb, hs.fr f1 (fun e => (h.row.ne hs (by decide)) e.symm)⟩
theorem dataS_ (y : Hd) (x : ID) : ∃ y' : Hd, True ∧ (codH.cs y).take 2 ++ bv x.1 ++ (codH.cs y).drop (2 + (bv x.1).length) = codH.cs y' := by
  have hx : (bv x.1).length = 32 := by rw [bv_length, x.2]
  refine ⟨{ y with Data := x }, trivial, ?_⟩
  rw [hx]
  show List.take 2 (csH y) ++ _ ++ List.drop 34 (csH y) = csH _
  have : (csH y).length = 34 := codH.len y
  rw [List.drop_eq_nil_of_le (by omega)]
  simp [csH]
theorem KR.data {W w : World} {g : Nat} {rs : List RwW} (h : KR W w g rs) {r : RwW} (hr : r ∈ rs) {k : Nat} (hk : k < r.n) (x : ID) {a : Nat} (ha : r.A = some ⟨a, 0, none⟩) :
    KR W (w.setCells a (k * 34 + 2) (bv x.1)) g rs := by
  obtain ⟨a', e, hb, hs⟩ := h.hd r hr (by omega)
  rw [ha] at e
  injection e with e
  injection e with e
  subst e
  have hx : 2 + (bv x.1).length ≤ codH.n := by rw [bv_length, x.2]; decide
  obtain ⟨h1, f1⟩ := hs.set hk (bv x.1) 2 hx (fun y _ => dataS_ y x)
  refine ⟨h.fr.newB f1 hb, h.gb, h.row.fr f1 (fun e => (h.row.ne hs (by decide)) e), fun q hq hn => ?_⟩
  obtain ⟨b, e2, hb2, hs2⟩ := h.hd q hq hn
  by_cases hab : b = a
  · subst hab
    exact ⟨b, e2, hb2, (hs.set2 hs2 hk (bv x.1) 2 hx (fun y _ => dataS_ y x)).1⟩
  · exact ⟨b, e2, hb2, hs2.fr f1 (fun e => hab e)⟩
theorem KR.at_ {W w : World} {g : Nat} {rs : List RwW} (h : KR W w g rs) {k : Nat} (hk : k < rs.length) :
    (∃ s, w.cell? ⟨g, k * 8 + 6, none⟩ = some (.string s)) ∧ w.frozen? ⟨g, k * 8 + 6, none⟩ = false ∧ w.cell? ⟨g, k * 8 + 7, none⟩ = some (.slice (rs[k]).A (rs[k]).n (rs[k]).c) := by
  obtain ⟨x, ⟨r, hr, h1, h2, h3⟩, hrd, hz⟩ := h.row.rd hk
  rw [List.getElem?_eq_getElem hk] at hr
  injection hr with hr
  subst hr
  refine ⟨⟨_, Cod.rd_cell hrd 6 (v := .string (str x.Name)) rfl⟩, hz 6 (by decide), ?_⟩
  rw [← h1, ← h2, ← h3]
  exact Cod.rd_cell hrd 7 (v := .slice x.A x.n x.c) rfl
/-- operations that were told; their stamps may be stored into -/
structure KP (W wr : World) (A : Option Addr) (rs : List OpW) : Prop where
  fr : Fr noB W wr
  sl : Sl wr A (codO.row rs)
  ty : rs ≠ [] → ∃ g cur z, A = some ⟨g, 0, none⟩ ∧ wr.heap[g]? = some (.cells cur 33 z)
  hd : ∀ r ∈ rs, 0 < r.n → ∃ h, r.A = some ⟨h, 0, none⟩ ∧ W.heap.size ≤ h ∧ Shp codS wr h r.n (fun _ _ => True)
theorem KP.of {W w : World} {A : Option Addr} {rs : List OpW} {xs : List Opn} (f : Fr noB W w) (hs : Sl w A (codO.row rs)) (ht : rs ≠ [] → ∃ g cur z, A = some ⟨g, 0, none⟩ ∧ w.heap[g]? = some (.cells cur 33 z)) (hi : AllO (OpN W.heap.size) w rs xs) : KP W w A rs := by
  refine ⟨f, hs, ht, fun r hr hn => ?_⟩
  obtain ⟨i, hi1, rfl⟩ := List.getElem_of_mem hr
  have hN := hi.2 i hi1 (by rw [← hi.1]; exact hi1)
  have hown := hN.own
  have hl := hN.op.inn.len
  rw [← hl] at hown hn
  obtain ⟨h, e, hb2, hs2⟩ := Shp.of (C := codS) hown hn
  exact ⟨h, e, hb2, by rw [← hl]; exact hs2.mono fun _ _ _ _ => trivial⟩
theorem timeS_ (y : St) (t : Int) : ∃ y' : St, True ∧ (codS.cs y).take 0 ++ [.int .i64 t] ++ (codS.cs y).drop (0 + [Value.int .i64 t].length) = codS.cs y' := ⟨{ y with T := t }, trivial, rfl⟩
theorem KP.time {W w : World} {A : Option Addr} {rs : List OpW} (h : KP W w A rs) {r : OpW} (hr : r ∈ rs) {k : Nat} (hk : k < r.n) (t : Int) {a : Nat} (ha : r.A = some ⟨a, 0, none⟩) :
    KP W (w.setCell ⟨a, k * 2, none⟩ (.int .i64 t)) A rs := by
  obtain ⟨a', e, hb, hs⟩ := h.hd r hr (by omega)
  rw [ha] at e
  injection e with e
  injection e with e
  subst e
  obtain ⟨h1, f1⟩ := hs.set hk [.int .i64 t] 0 (show 1 ≤ 2 by decide) (fun y _ => timeS_ y t)
  obtain ⟨cur, hcur, _⟩ := hs
  have hne : rs ≠ [] := List.ne_nil_of_mem hr
  obtain ⟨g, cur', z, hA, hg⟩ := h.ty hne
  have hga : g ≠ a := by
    rintro rfl
    rw [hcur] at hg
    injection hg with hg
    injection hg with _ hg _
    exact absurd hg (by decide)
  have hsh : Shp codS w a r.n (fun _ _ => True) := by
    obtain ⟨b, e2, _, hs2⟩ := h.hd r hr (by omega)
    rw [ha] at e2
    injection e2 with e2
    injection e2 with e2
    subst e2
    exact hs2
  refine ⟨h.fr.newB f1 hb, h.sl.fr f1 (fun b hb => ?_), fun _ => ⟨g, cur', z, hA, (f1.block g (Array.getElem?_eq_some_iff.1 hg).1 (fun e => hga e)).trans hg⟩, fun q hq hn => ?_⟩
  · rw [hA] at hb
    injection hb with hb
    subst hb
    exact fun e => hga e
  · obtain ⟨b, e2, hb2, hs2⟩ := h.hd q hq hn
    by_cases hab : b = a
    · subst hab
      exact ⟨b, e2, hb2, (hsh.set2 hs2 hk [.int .i64 t] 0 (show 1 ≤ 2 by decide) (fun y _ => timeS_ y t)).1⟩
    · exact ⟨b, e2, hb2, hs2.fr f1 (fun e => hab e)⟩
theorem KP.stm {W w : World} {A : Option Addr} {rs : List OpW} (h : KP W w A rs) {r : OpW} (hr : r ∈ rs) {k : Nat} (hk : k < r.n) : ∃ a, r.A = some ⟨a, 0, none⟩ ∧ (∃ t, w.cell? ⟨a, k * 2, none⟩ = some (.int .i64 t)) ∧ w.frozen? ⟨a, k * 2, none⟩ = false := by
  obtain ⟨a, e, hb, hs⟩ := h.hd r hr (by omega)
  obtain ⟨x, _, hrd, hz⟩ := hs.rd hk
  refine ⟨a, e, ⟨x.T, ?_⟩, ?_⟩
  · have := Cod.rd_cell hrd 0 (v := .int .i64 x.T) rfl
    exact this
  · exact hz 0 (by decide)
theorem GvS.nohs {base : Nat} {w : World} {b : Nat} {t : TrW} {L : List Opn} (h : GvS base w b t L) : NoHS (trM b t) w := fun g hg cs z => ⟨fun e => h.offC e (by decide) (by decide) hg, fun e => h.offC e (by decide) (by decide) hg⟩
theorem GvS.lt {base : Nat} {w : World} {b : Nat} {t : TrW} {L : List Opn} (h : GvS base w b t L) {q : Nat} (hq : trM b t q) : q < w.heap.size := by
  rcases Nat.lt_or_ge q w.heap.size with h1 | h1
  · exact h1
  · exact absurd hq (h.off h1)
/-- a tree stays where another one is turned -/
theorem GvS.keep {base base' : Nat} {w w' : World} {b b' : Nat} {t t' : TrW} {L L' : List Opn} (h : GvS base w b t L) (h' : GvS base' w b' t' L') (f : Fr (trM b' t') w w') (hs : ∀ q, trM b t q → ¬ trM b' t' q) : GvS base w' b t L :=
  h.fr f h'.nohs (hs _ (.inl rfl)) (hs _ (.inr (.inl rfl))) (fun g hg => hs _ (.inr (.inr hg)))
set_option maxRecDepth 100000 in
@[simp] theorem ons_l (w : World) (a : Option Addr) (n c : Nat) (k : IntKind) (l : Int) :
    (Instr.slice 22 (.slice a n c) (some (.int k l)) none none).run Tryz.prog w = if 0 ≤ l ∧ l ≤ n then .ok (.slice (cutA a c l.toNat 41) (n - l.toNat) (c - l.toNat)) w else elseR ((Instr.slice 22 (.slice a n c) (some (.int k l)) none none).run Tryz.prog w) := by
  split
  · rename_i h
    rw [run_slice_l w 22 a n c Tryz.underlying22 k l h.1 h.2]; rfl
  · exact elseR_eq _
set_option maxRecDepth 100000 in
@[simp] theorem ons_h (w : World) (a : Option Addr) (n c : Nat) (k : IntKind) (l : Int) :
    (Instr.slice 22 (.slice a n c) none (some (.int k l)) none).run Tryz.prog w = if 0 ≤ l ∧ l ≤ c then .ok (.slice a l.toNat c) w else elseR ((Instr.slice 22 (.slice a n c) none (some (.int k l)) none).run Tryz.prog w) := by
  split
  · rename_i h
    have e : (Instr.slice 22 (.slice a n c) none (some (.int k l)) none).run Tryz.prog w = .ok (.slice (cutA a c 0 41) l.toNat c) w := by
      rw [run_slice_h w 22 a n c Tryz.underlying22 k l h.1 h.2]; rfl
    rw [e, cutA_zero]
  · exact elseR_eq _
def InsC (W : World) (bs pb : Nat) (w2 : World) (A : Option Addr) (c : Nat) (os : List OpW) (ops : List Opn) (L0 : List Opn) (N : Nat) (X : TrW → World → Prop) (gk : Nat) (iv : Value) (wr : World) : Prop :=
  ∃ (j : Nat) (t : TrW) (L : List Opn), iv = .int .i64 (j : Int) ∧ gk = N - j ∧ j ≤ N ∧ GvS bs wr pb t L ∧ SrtL L ∧ L = insAll L0 (ops.take j) ∧ L.length ≤ L0.length + j ∧ X t wr ∧ OwnC codO w2 wr A c os ∧ Fr noB W wr
/-- another tree beside the one that is turned -/
def Bes (base b : Nat) (t : TrW) (L : List Opn) (b' : Nat) (t' : TrW) (w : World) : Prop := GvS base w b t L ∧ ∀ q, trM b t q → ¬ trM b' t' q
theorem Bes.fr0 {base b : Nat} {t : TrW} {L : List Opn} {b' : Nat} {t' : TrW} {w w' : World} (h : Bes base b t L b' t' w) (f : Fr noB w w') : Bes base b t L b' t' w' := ⟨h.1.fr0 f, h.2⟩
theorem Bes.ins {base base' b : Nat} {t : TrW} {L L' : List Opn} {b' : Nat} {t' t2 : TrW} {w w' : World} (h : Bes base b t L b' t' w) (h' : GvS base' w b' t' L') (f : Fr (trM b' t') w w') (hm : t2.m = t'.m) (hA : t2.A.map (·.block) = t'.A.map (·.block) ∨ ∀ g, t2.A.map (·.block) = some g → w.heap.size ≤ g) : Bes base b t L b' t2 w' :=
  ⟨h.1.keep h' f h.2, fun q hq => off_ins (h.2 q hq) (h.1.lt hq) hm hA⟩
theorem insAll_len {L : List Opn} {os : List Opn} (h : ∀ L o, (insL L o).length ≤ L.length + 1) : (insAll L os).length ≤ L.length + os.length := by
  induction os generalizing L with
  | nil => simp [insAll]
  | cons o os ih =>
    have h1 := ih (L := insL L o)
    have h2 := h L o
    show (insAll (insL L o) os).length ≤ _
    simp only [List.length_cons]
    omega
end Go.Proofs.YtdandpaeeodolaaGreat
namespace Go.Proofs.YtdandpaeeodolaaGreat
open Go.RowKit Go.Sort
set_option linter.unusedVariables false
set_option linter.unusedSimpArgs false
attribute [local go_sem] Oper.semAt_some

theorem and_maskL (x : Int) (m : Nat) (hm : m ≤ 1023) : ∃ r : Nat, bits BinOp.and IntKind.i64 x (m : Int) = (r : Int) ∧ r ≤ m := by
  refine ⟨(BitVec.ofInt 64 x &&& BitVec.ofInt 64 (m : Int)).toNat, ?_, ?_⟩
  · have hle : (BitVec.ofInt 64 x &&& BitVec.ofInt 64 (m : Int)).toNat ≤ 1023 := by
      rw [BitVec.toNat_and]
      refine Nat.le_trans Nat.and_le_right ?_
      rw [BitVec.toNat_ofInt]
      omega
    show IntKind.i64.wrap (((BitVec.ofInt 64 x &&& BitVec.ofInt 64 (m : Int)).toNat : Nat) : Int) = _
    rw [IntKind.wrap_i64]
    omega
  · rw [BitVec.toNat_and]
    refine Nat.le_trans Nat.and_le_right ?_
    rw [BitVec.toNat_ofInt]
    omega
set_option maxRecDepth 100000 in
set_option maxHeartbeats 16000000 in
theorem lawClones_any (W : World) (A : Option Addr) (c : Nat) (rs : List OpW) (xs : List Opn) (hs : Sl W A (codO.row rs)) (hb : rs.length ≤ 140737488355328) (hX : OpsIn W rs xs) (a1 : Int) :
    Calls Tryz.prog 7 #[.slice A rs.length c, .int .i64 a1] W (Gives W (.bool true)) := by
  have HX := Lib.hid (show AllO OpIn W rs xs from ⟨hX.len, fun i h1 h2 => hX.at_ i h1 h2⟩)
  have HS := Lib.hid hs
  have HB := Lib.hid hb
  clear hX hs hb
  go_enter Tryz.func7, Tryz.ntmps7
  go_upto_region 4 with (first
    | (go_at_call 8; refine (gvNew_any _).mono ?_; rintro e w1 ⟨b, t0, rfl, h0, hu0, f1⟩)
    | (go_at_call 9; refine (l12alive_any w1).mono ?_; rintro e w2 ⟨rfl, f2⟩))
  have h2 := Lib.hid (h0.fr0 f2)
  have F2 := Lib.hid (f1.step0 f2)
  clear h0 f1 f2 hu0
  go_upto_if 33 with (go_at_call 10; refine (l12few_any W w2 F2.out A c _ rs xs rfl (HS.out.fr0 F2.out) HB.out HX.out).mono ?_; rintro e w3 ⟨A3, c3, os, ys, rfl, o3, y3, g3, l3, f3⟩)
  have Y3 := Lib.hid y3
  have G3 := Lib.hid g3
  have L3 := Lib.hid l3
  have H3 := Lib.hid (h2.out.fr0 f3)
  have F3 := Lib.hid (F2.out.step0 f3)
  have O3 := Lib.hid o3
  clear y3 g3 l3 o3 f3 h2 F2 HX HS HB
  obtain ⟨r1, er1, hr1⟩ := and_maskL a1 1023 (by omega)
  go_cut [7] from 34 to 38 (fun v wx => ∃ kk : Nat, v = .int .i64 (kk : Int) ∧ kk ≤ os.length ∧ wx = w3)
  case first =>
    by_cases hl : 0 < os.length
    · have l1 : (0 : Int) < (os.length : Int) := by omega
      have hne : os ≠ [] := List.length_pos_iff.1 hl
      have hne2 : ¬ os = [] := hne
      have hnz : ¬ ((os.length : Int) = 0) := by omega
      have ht1 : (bits BinOp.and IntKind.i64 a1 1023).tmod (os.length : Int) = ((r1 % os.length : Nat) : Int) := by rw [show bits BinOp.and IntKind.i64 a1 1023 = (r1 : Int) from er1]; rfl
      have hk0 := Nat.mod_lt r1 hl
      generalize r1 % os.length = kk at ht1 hk0
      clear er1 hr1
      go_wp2_with fail
      go_meet
      case rel => exact ⟨kk, rfl, by omega, rfl⟩
    · clear er1 hr1
      go_wp2_with fail
      go_meet
      case rel => exact ⟨0, rfl, by omega, rfl⟩
  case rest =>
    obtain ⟨k, rfl, hk, rfl⟩ := hcut
    have HK := Lib.hid hk
    have hkc : k ≤ c3 := Nat.le_trans hk (own_capV O3.out)
    clear er1 hr1
    have HN40 := Lib.hid (show k ≤ 40 ∧ os.length ≤ 40 from ⟨by have := L3.out; omega, L3.out⟩)
    have HYF := Lib.hid Y3.out
    have SLA := Lib.hid (fun (w' : World) (h : OwnC codO w2 w' A3 c3 os) => (Sl.own h : Sl w' A3 (codO.row os)))
    have SLB := Lib.hid (fun (w' : World) (h : OwnC codO w2 w' A3 c3 os) => show Sl w' (cutA A3 c3 k 41) (codO.row (os.drop k)) from by
      have h1 := Sl.cut (k := k) (c := c3) (size := 41) (n := os.length) (Sl.own h : Sl w' A3 (codO.row os)) (by rw [Cod.row_len]; rfl) (by decide) (own_capV h)
      have h2 : (codO.row os).drop (k * codO.n) = codO.row (os.drop k) := Cod.row_drop os k HK.out
      rw [← h2]
      exact h1)
    have YB := Lib.hid (Y3.out.drop k)
    have GB := Lib.hid (show ∀ o ∈ ys.drop k, goodOp o = true from fun o ho => G3.out o (List.mem_of_mem_drop ho))
    have HKL := Lib.hid (show (os.drop k).length = os.length - k by simp)
    have k0 : (0 : Int) ≤ (k : Int) := by omega
    have kc : (k : Int) ≤ (c3 : Int) := by omega
    have kn : (k : Int) ≤ (os.length : Int) := by omega
    have c0 : InsC W W.heap.size b w2 A3 c3 os ys [] k (fun _ _ => True) k (.int .i64 ((0 : Nat) : Int)) wc := ⟨0, t0, [], rfl, rfl, by omega, H3.out, by simp [SrtL], rfl, by simp, trivial, O3.out, F3.out⟩
    have HNO := Lib.hid (show k ≤ os.length from hk)
    have HL0 := Lib.hid (show ([] : List Opn).length ≤ 100 by simp)
    clear hk H3 O3 F3 
    go_wp2_with fail
    go_loopg [43] k (fun gk iv wr => InsC W W.heap.size b w2 A3 c3 os ys ([] : List Opn) k (fun _ _ => True) gk iv wr)
    case atStart => exact c0
    case round =>
      clear c0
      obtain ⟨j, t, L, rfl, rfl, hj, hG, hsr, hLe, hLl, hX, ho, hf⟩ := hrel
      have HG := Lib.hid hG
      have HSR := Lib.hid hsr
      have HLE := Lib.hid hLe
      have HLL := Lib.hid hLl
      have HXX := Lib.hid hX
      have HO := Lib.hid ho
      have HF := Lib.hid hf
      clear hG hsr hLe hLl hX hf
      by_cases hlt : j < k
      · have j0 : (0 : Int) ≤ (j : Int) := by omega
        have j1 : (j : Int) < (k : Int) := by omega
        have hjo : j < (os).length := by have := HNO.out; omega
        have hs9 := SLA.out wr ho
        obtain ⟨g, off, rfl, hgg⟩ := hs9.adC (by omega)
        have e1 : codO.rd wr g (off + j * 41) = some (os)[j] := hs9.rd j hjo
        have hly : j < (ys).length := by rw [← HYF.out.1]; exact hjo
        have hin := HYF.out.2 j hjo hly
        have hgd := G3.out _ (List.getElem_mem hly)
        have HTK := Lib.hid (insAll_take (L := ([] : List Opn)) hly)
        have HLT := Lib.hid hlt
        generalize (os)[j] = r at e1 hin
        generalize (ys)[j] = x at hin hgd HTK
        have HIN := Lib.hid hin
        have HGD := Lib.hid hgd
        clear ho hj hlt hgg hin hgd hly hs9 hjo
        go_upto_region 11 with fail
        have f12 : Fr noB wr (wr.alloc (codO.o r)) := (Fr.refl noB wr).alloc _
        have q12 := Cod.rd_new' (C := codO) wr r
        obtain ⟨D2, hD2⟩ : ∃ x, x = wr.heap.size := ⟨_, rfl⟩
        rw [← hD2] at q12 ⊢
        have h12 := Lib.hid (HG.out.fr0 f12)
        have o12 := Lib.hid (own_new0 HO.out f12)
        have X12 := Lib.hid (True.intro)
        have F12 := Lib.hid (HF.out.step0 f12)
        clear hD2 e1 f12 HG HO HF HXX
        generalize wr.alloc (codO.o r) = W12 at q12 h12 o12 F12 X12 ⊢
        have hk9 : j ≤ 100 := by have := HLT.out; have := HN40.out; omega
        go_wp2_with (go_at_call 11; go_loud (refine (gvInsert_any _ W12 b t L h12.out HSR.out (by have := HLL.out; have := HL0.out; omega) r x (HIN.out.fr F12.out) (by have := goodOp_over HGD.out; omega)).mono ?_; rintro e w5 ⟨E, t5, L5, rfl, h5, m5, a5, f5, i5⟩))
        go_roundg (k - (j + 1))
        case measure => have := HLT.out; omega
        case rel => exact ⟨j + 1, t5, L5, rfl, rfl, HLT.out, h5, i5.srt HSR.out, by rw [HTK.out, ← HLE.out]; exact i5.eq, by have := i5.len; have := HLL.out; omega, trivial, h12.out.own f5 o12.out (by decide) (by decide), F12.out.step f5 (fun q hq => .inl (Nat.le_trans (Nat.le_refl _) (h12.out.base hq)))⟩
      · have j1 : ¬ (j : Int) < (k : Int) := by omega
        have hjn : j = k := by omega
        have hfull : (ys).take j = ys.take k := by rw [hjn]
        rw [hfull] at HLE
        clear ho hj hlt hfull
        obtain ⟨WA, rfl⟩ : ∃ x, x = wr := ⟨_, rfl⟩
        have HL1 := Lib.hid (show L.length ≤ 40 by have := HLL.out; have := HN40.out; simp only [List.length_nil] at *; omega)
        have HOK := Lib.hid HG.out.ok
        have HOV := Lib.hid (show ∀ o ∈ L, o.Over.length ≤ 1000000 from fun o ho => by have := goodOp_over (HOK.out o ho); omega)
        clear hjn HXX HLL HNO HL0
        have t1 : True := trivial
        go_upto_region 15 with (first
          | (go_at_call 20; refine (gvClone_any HG.out (by have := HL1.out; omega)).mono ?_; rintro e wC ⟨bu, tu, rfl, hU, _, fC⟩; have HT5 := Lib.hid (HG.out.fr0 fC); have HU5 := Lib.hid hU; have SEP := Lib.hid (show ∀ q, trM b t q → ¬ trM bu tu q from fun q h1 h2 => by have h3 := HG.out.lt h1; have h4 := hU.base h2; omega); have F5 := Lib.hid (HF.out.step0 fC); have O5 := Lib.hid (own_new0 HO.out fC); clear hU fC)
          | (go_at_call 12; refine (gvRows_any HT5.out (by have := HL1.out; omega)).mono ?_; rintro e w6 ⟨A6, c6, rs6, ys6, rfl, o6, x6, _, p6, q6, f6⟩; have R6 := Lib.hid (And.intro (Sl.own o6 : Sl w6 A6 (codR.row rs6)) (And.intro (show RwsIn w6 rs6 ys6 from ⟨x6.1, fun i h h' => (x6.2 i h h').row.inn⟩) (And.intro p6 q6))); have L6 := Lib.hid (show rs6.length ≤ 100 by { have h1 := x6.1; have h2 := p6.length_eq; have h3 := runX_len [] L; have h4 := HL1.out; simp only [List.length_nil] at h3; omega }); have HT6 := Lib.hid (HT5.out.fr0 f6); have HU6 := Lib.hid (HU5.out.fr0 f6); have F6 := Lib.hid (F5.out.step0 f6); have O6 := Lib.hid (own_new0 O5.out f6); clear o6 x6 p6 q6 f6))
        have hWC : W.heap.size ≤ WA.heap.size := HF.out.size
        have HWC := Lib.hid hWC
        clear hWC
        go_upto_region 17 with (first
          | (go_at_call 12; go_loud (refine (gvRows_any HU6.out (by have := HL1.out; omega)).mono ?_; rintro e w7 ⟨A7, c7, rs7, ys7, rfl, o7, x7, _, p7, q7, f7⟩; have e7 : ys7 = ys6 := rise_uniq (p7.trans R6.out.2.2.1.symm) q7 R6.out.2.2.2; have R7 := Lib.hid (And.intro (Sl.own o7 : Sl w7 A7 (codR.row rs7)) (show RwsIn w7 rs7 ys6 by { rw [← e7]; exact ⟨x7.1, fun i h h' => (x7.2 i h h').row.inn⟩ })); have L7 := Lib.hid (show rs7.length ≤ 100 by { have h1 := x7.1; have h2 := p7.length_eq; have h3 := runX_len [] L; have h4 := HL1.out; simp only [List.length_nil] at h3; omega }); have F7 := Lib.hid f7; clear o7 x7 p7 q7 f7 e7))
          | (go_at_call 19; go_loud (refine (r12sameX_any w7 A7 A6 c7 c6 rs7.length rs6.length rs7 rs6 ys6 ys6 rfl rfl R7.out.1 (R6.out.1.fr0 F7.out) R7.out.2 (R6.out.2.1.fr F7.out) (by have := L7.out; omega) (by have := L6.out; omega) (fun i h h' => rfl)).mono ?_; rintro e w8 ⟨rfl, f8⟩; rw [sameX_self]; have F8 := Lib.hid (F7.out.step0 f8); have HU8 := Lib.hid (HU6.out.fr0 F8.out); have HT8 := Lib.hid (HT6.out.fr0 F8.out); clear f8))
          | (go_at_call 15; have _t := t1; go_loud (refine (gvOps_any HU8.out HSR.out (by have := HL1.out; omega) HOV.out).mono ?_; rintro e w9 ⟨A9, c9, os9, rfl, s9, x9, _, f9⟩; have HT9 := Lib.hid (HT8.out.fr0 f9); have S9 := Lib.hid (And.intro s9 (show OpsIn w9 os9 L from ⟨x9.1, fun i h h' => (x9.2 i h h').op.inn⟩)); have F9 := Lib.hid (F8.out.step0 f9); clear s9 x9 f9 t1 _t))
          | (go_at_call 15; go_loud (refine (gvOps_any HT9.out HSR.out (by have := HL1.out; omega) HOV.out).mono ?_; rintro e w10 ⟨A10, c10, os10, rfl, s10, x10, _, f10⟩; have S10 := Lib.hid (And.intro s10 (show OpsIn w10 os10 L from ⟨x10.1, fun i h h' => (x10.2 i h h').op.inn⟩)); have G10 := Lib.hid f10; have F10 := Lib.hid (F9.out.step0 f10); clear s10 x10 f10))
          | (go_at_call 21; go_loud (refine (same_all w10 A9 A10 c9 c10 os9.length os10.length os9 os10 L rfl rfl (S9.out.1.fr0 G10.out) S10.out.1 (S9.out.2.fr G10.out) S10.out.2 (by have := HL1.out; omega)).mono ?_; rintro e w11 ⟨rfl, f11⟩; have F11 := Lib.hid (F10.out.step0 f11); clear f11)))
        have HTB := Lib.hid (HT6.out.fr0 F11.out)
        have HUB := Lib.hid (HU6.out.fr0 F11.out)
        have FB := Lib.hid (F6.out.step0 F11.out)
        have OB := Lib.hid (own_new0 O6.out F11.out)
        clear HT5 HU5 F5 O5 R6 L6 HT6 HU6 F6 O6 R7 L7 F7 F8 HU8 HT8 HT9 S9 F9 S10 G10 F10 F11 HG HF HO
        obtain ⟨L1, rfl⟩ : ∃ x, x = L := ⟨_, rfl⟩
        obtain ⟨tt, rfl⟩ : ∃ x, x = t := ⟨_, rfl⟩
        have HLE1 := Lib.hid HLE.out
        have HSR1 := Lib.hid HSR.out
        have hyl := (Y3.out.drop k).1
        go_wp2_with fail
        generalize hS2 : cutA A3 c3 k 41 = S2 at SLB ⊢
        have HS2 := Lib.hid hS2
        generalize hN2 : os.length - k = N2 at HKL ⊢
        have HN2E := Lib.hid hN2
        have HYL := Lib.hid (show (ys.drop k).length = N2 by rw [← hyl]; exact HKL.out)
        have HNO := Lib.hid (show N2 ≤ (os.drop k).length by rw [HKL.out]; exact Nat.le_refl _)
        have HL0 := Lib.hid (show L1.length ≤ 100 by have := HL1.out; omega)
        have HN2 := Lib.hid (show N2 ≤ 40 by have := HN40.out; omega)
        clear HN40
        have HN40 := Lib.hid HN2.out
        have c0 : InsC W WA.heap.size bu w2 A3 c3 os (ys.drop k) L1 N2 (fun tx w => Bes W.heap.size b tt L1 bu tx w) N2 (.int .i64 ((0 : Nat) : Int)) w11 := ⟨0, tu, L1, rfl, rfl, by omega, HUB.out, HSR.out, rfl, by simp, ⟨HTB.out, SEP.out⟩, OB.out, FB.out⟩
        clear hyl hN2 hS2 HLE HSR HTB HUB FB OB SEP j1
        go_loopg [72] N2 (fun gk iv wr => InsC W WA.heap.size bu w2 A3 c3 os (ys.drop k) L1 N2 (fun tx w => Bes W.heap.size b tt L1 bu tx w) gk iv wr)
        case atStart => exact c0
        case round =>
          clear c0
          obtain ⟨j, t, L, rfl, rfl, hj, hG, hsr, hLe, hLl, hX, ho, hf⟩ := hrel
          have HG := Lib.hid hG
          have HSR := Lib.hid hsr
          have HLE := Lib.hid hLe
          have HLL := Lib.hid hLl
          have HXX := Lib.hid hX
          have HO := Lib.hid ho
          have HF := Lib.hid hf
          clear hG hsr hLe hLl hX hf
          by_cases hlt : j < N2
          · have j0 : (0 : Int) ≤ (j : Int) := by omega
            have j1 : (j : Int) < (N2 : Int) := by omega
            have hjo : j < ((os.drop k)).length := by have := HNO.out; omega
            have hs9 := SLB.out wr ho
            obtain ⟨g, off, rfl, hgg⟩ := hs9.adC (by omega)
            have e1 : codO.rd wr g (off + j * 41) = some ((os.drop k))[j] := hs9.rd j hjo
            have hly : j < ((ys.drop k)).length := by rw [← YB.out.1]; exact hjo
            have hin := YB.out.2 j hjo hly
            have hgd := GB.out _ (List.getElem_mem hly)
            have HTK := Lib.hid (insAll_take (L := L1) hly)
            have HLT := Lib.hid hlt
            generalize ((os.drop k))[j] = r at e1 hin
            generalize ((ys.drop k))[j] = x at hin hgd HTK
            have HIN := Lib.hid hin
            have HGD := Lib.hid hgd
            clear ho hj hlt hgg hin hgd hly hs9 hjo
            go_upto_region 20 with fail
            have f12 : Fr noB wr (wr.alloc (codO.o r)) := (Fr.refl noB wr).alloc _
            have q12 := Cod.rd_new' (C := codO) wr r
            obtain ⟨D2, hD2⟩ : ∃ x, x = wr.heap.size := ⟨_, rfl⟩
            rw [← hD2] at q12 ⊢
            have h12 := Lib.hid (HG.out.fr0 f12)
            have o12 := Lib.hid (own_new0 HO.out f12)
            have X12 := Lib.hid (HXX.out.fr0 f12)
            have F12 := Lib.hid (HF.out.step0 f12)
            clear hD2 e1 f12 HG HO HF HXX
            generalize wr.alloc (codO.o r) = W12 at q12 h12 o12 F12 X12 ⊢
            have hk9 : j ≤ 100 := by have := HLT.out; have := HN40.out; omega
            go_wp2_with (go_at_call 11; go_loud (refine (gvInsert_any _ W12 bu t L h12.out HSR.out (by have := HLL.out; have := HL0.out; omega) r x (HIN.out.fr F12.out) (by have := goodOp_over HGD.out; omega)).mono ?_; rintro e w5 ⟨E, t5, L5, rfl, h5, m5, a5, f5, i5⟩))
            go_roundg (N2 - (j + 1))
            case measure => have := HLT.out; omega
            case rel => exact ⟨j + 1, t5, L5, rfl, rfl, HLT.out, h5, i5.srt HSR.out, by rw [HTK.out, ← HLE.out]; exact i5.eq, by have := i5.len; have := HLL.out; omega, X12.out.ins h12.out f5 m5 a5, h12.out.own f5 o12.out (by decide) (by decide), F12.out.step f5 (fun q hq => .inl (Nat.le_trans HWC.out (h12.out.base hq)))⟩
          · have j1 : ¬ (j : Int) < (N2 : Int) := by omega
            have hjn : j = N2 := by omega
            have hfull : ((ys.drop k)).take j = ys.drop k := by { rw [hjn]; exact List.take_of_length_le (Nat.le_of_eq HYL.out) }
            rw [hfull] at HLE
            clear ho hj hlt hfull
            obtain ⟨WB, rfl⟩ : ∃ x, x = wr := ⟨_, rfl⟩
            obtain ⟨L2, rfl⟩ : ∃ x, x = L := ⟨_, rfl⟩
            obtain ⟨tv, rfl⟩ : ∃ x, x = t := ⟨_, rfl⟩
            have HL2 := Lib.hid (show L2.length ≤ 100 by have := HLL.out; have := HN40.out; have := HL1.out; omega)
            have HOK2 := Lib.hid HG.out.ok
            have HOV2 := Lib.hid (show ∀ o ∈ L2, o.Over.length ≤ 1000000 from fun o ho => by have := goodOp_over (HOK2.out o ho); omega)
            have HLE2 := Lib.hid (show L2 = insAll L1 (ys.drop k) from HLE.out)
            have HSR2 := Lib.hid HSR.out
            have HTB := Lib.hid HXX.out.1
            have SEP2 := Lib.hid (show ∀ q, trM bu tv q → ¬ trM b tt q from fun q h1 h2 => HXX.out.2 q h2 h1)
            clear HXX HLE HSR HLL
            go_upto_region 23 with (go_at_call 12; refine (gvRows_any HG.out (by have := HL2.out; omega)).mono ?_; rintro e w14 ⟨A14, c14, rs14, ys14, rfl, o14, x14, _, p14, _, f14⟩)
            have hkr : 0 < rs14.length → ∃ g, A14 = some ⟨g, 0, none⟩ ∧ KR WB w14 g rs14 := fun h0 => KR.of f14 o14 x14 h0
            have h14 : rs14.length ≤ 100 := by
              have h1 := x14.1
              have h2 := p14.length_eq
              have h3 := runX_len [] L2
              have h4 := HL2.out
              simp only [List.length_nil] at h3
              omega
            have h14n := Lib.hid (show ∀ r ∈ rs14, r.n ≤ 140737488355328 from fun r hr => by
              obtain ⟨i, hi1, rfl⟩ := List.getElem_of_mem hr
              have hx := (x14.2 i hi1 (by rw [← x14.1]; exact hi1)).row.inn
              rw [← hx.len]
              exact hx.bd)
            have c1 : ∃ i : Nat, (Value.int .i64 ((0 : Nat) : Int)) = .int .i64 (i : Int) ∧ rs14.length = rs14.length - i ∧ i ≤ rs14.length ∧ Fr noB WB w14 ∧ (0 < rs14.length → ∃ g, A14 = some ⟨g, 0, none⟩ ∧ KR WB w14 g rs14) := ⟨0, rfl, by omega, by omega, f14, hkr⟩
            have H14 := Lib.hid h14
            clear o14 x14 p14 f14 hkr h14 j1 hjn
            go_wp2_with fail
            go_loopg [84] rs14.length (fun gk iv wr => ∃ i : Nat, iv = .int .i64 (i : Int) ∧ gk = rs14.length - i ∧ i ≤ rs14.length ∧ Fr noB WB wr ∧ (0 < rs14.length → ∃ g, A14 = some ⟨g, 0, none⟩ ∧ KR WB wr g rs14))
            case atStart => exact c1
            case round =>
              clear c1
              obtain ⟨i, rfl, rfl, hi, hfr, hkk⟩ := hrel
              by_cases hlt : i < rs14.length
              · have i1 : (i : Int) < (rs14.length : Int) := by omega
                have i0 : (0 : Int) ≤ (i : Int) := by omega
                obtain ⟨g, rfl, hK⟩ := hkk (by omega)
                obtain ⟨s4, e4⟩ := (hK.at_ hlt).1
                have z4 := (hK.at_ hlt).2.1
                have hK1 : KR WB (wr.setCell ⟨g, i * 8 + 6, none⟩ (.string { data := #[116, 117, 114, 110, 101, 100] })) g rs14 := hK.name hlt [116, 117, 114, 110, 101, 100]
                go_upto_region 27 with fail
                generalize wr.setCell ⟨g, i * 8 + 6, none⟩ (.string { data := #[116, 117, 114, 110, 101, 100] }) = w5 at hK1 ⊢
                have e37 := (hK1.at_ hlt).2.2
                have hmem : rs14[i] ∈ rs14 := List.getElem_mem hlt
                have hbn := h14n.out _ hmem
                have hat : ∀ w', KR WB w' g rs14 → w'.cell? ⟨g, i * 8 + 7, none⟩ = some (.slice (rs14[i]).A (rs14[i]).n (rs14[i]).c) := fun w' h => (h.at_ hlt).2.2
                have HLT := Lib.hid hlt
                have hi9 : i ≤ 100 := by have := H14.out; omega
                generalize rs14[i] = q at e37 hmem hbn hat
                have HAT := Lib.hid hat
                clear e4 z4 hK hfr hkk hlt hat hi
                go_wp2_with fail
                go_loopg [97] q.n (fun gk iv wr => ∃ j : Nat, iv = .int .i64 (j : Int) ∧ gk = q.n - j ∧ j ≤ q.n ∧ KR WB wr g rs14)
                case atStart => exact ⟨0, rfl, by omega, by omega, hK1⟩
                case round =>
                  obtain ⟨j, rfl, rfl, hj, hK2⟩ := hrel
                  have e38 := HAT.out _ hK2
                  by_cases hjl : j < q.n
                  · have j1 : (j : Int) < (q.n : Int) := by omega
                    have j0 : (0 : Int) ≤ (j : Int) := by omega
                    obtain ⟨a, ea, hba, hsh⟩ := hK2.hd q hmem (by omega)
                    have hst := hsh.stI hjl (id2 99 0) 2 (j * 34 + 2) rfl (by decide)
                    have hK3 := hK2.data hmem hjl (id2 99 0) ea
                    have hN9 : id2 (Int.toNat 99) 0 = id2 99 0 := rfl
                    rw [ea] at e38
                    clear hsh ea
                    go_wp2_with fail
                    go_roundg (q.n - (j + 1))
                    case measure => omega
                    case rel => exact ⟨j + 1, by simp, rfl, by omega, hK3⟩
                  · have hjn : j = q.n := by omega
                    subst hjn
                    have j1 : ¬ (q.n : Int) < (q.n : Int) := by omega
                    have hlt := HLT.out
                    go_wp2_with fail
                    go_roundg (rs14.length - (i + 1))
                    case measure => omega
                    case rel => exact ⟨i + 1, by simp, rfl, by omega, hK2.fr, fun _ => ⟨g, rfl, hK2⟩⟩
              · have i1 : ¬ (i : Int) < (rs14.length : Int) := by omega
                have HFC := Lib.hid hfr
                have HGC := Lib.hid (HG.out.fr0 hfr)
                have HTC := Lib.hid (HTB.out.fr0 hfr)
                have HOC := Lib.hid (own_new0 HO.out hfr)
                have HFW := Lib.hid (HF.out.step0 hfr)
                clear hi hlt hkk hfr
                obtain ⟨WC, rfl⟩ : ∃ x, x = wr := ⟨_, rfl⟩
                go_upto_region 34 with (go_at_call 15; refine (gvOps_any HGC.out HSR2.out (by have := HL2.out; omega) HOV2.out).mono ?_; rintro e w17 ⟨A17, c17, os17, rfl, s17, x17, ty17, f17⟩)
                have hkp : KP WC w17 A17 os17 := KP.of f17 s17 ty17 x17
                have h17 : os17.length ≤ 100 := by have h1 := x17.1; have := HL2.out; omega
                have h17n := Lib.hid (show ∀ r ∈ os17, r.n ≤ 140737488355328 from fun r hr => by
                  obtain ⟨i, hi1, rfl⟩ := List.getElem_of_mem hr
                  have hx := (x17.2 i hi1 (by rw [← x17.1]; exact hi1)).op.inn
                  rw [← hx.len]
                  exact hx.bd)
                have H17 := Lib.hid h17
                have c2 := Lib.hid hkp
                clear s17 x17 ty17 f17 h17 hkp i1
                go_wp2_with fail
                go_loopg [115] os17.length (fun gk iv wr => ∃ i : Nat, iv = .int .i64 (i : Int) ∧ gk = os17.length - i ∧ i ≤ os17.length ∧ KP WC wr A17 os17)
                case atStart => exact ⟨0, rfl, by omega, by omega, c2.out⟩
                case round =>
                  clear c2
                  obtain ⟨i, rfl, rfl, hi, hK⟩ := hrel
                  by_cases hlt : i < os17.length
                  · have i1 : (i : Int) < (os17.length : Int) := by omega
                    have i0 : (0 : Int) ≤ (i : Int) := by omega
                    obtain ⟨g, off, rfl, hg⟩ := hK.sl.adC (by omega)
                    have hat : ∀ w', KP WC w' (some ⟨g, off, none⟩) os17 → w'.cell? ⟨g, off + i * 41 + 40, none⟩ = some (.slice (os17[i]).A (os17[i]).n (os17[i]).c) := fun w' h => by
                      have e1 : codO.rd w' g (off + i * 41) = some os17[i] := h.sl.rd i hlt
                      exact Cod.rd_cell e1 40 (getEnd (os17[i]).Data (opL os17[i]) [.slice (os17[i]).A (os17[i]).n (os17[i]).c] 40 rfl 0)
                    have e40 := hat _ hK
                    have hmem : os17[i] ∈ os17 := List.getElem_mem hlt
                    have hbn := h17n.out _ hmem
                    have HLT := Lib.hid hlt
                    have hi9 : i ≤ 100 := by have := H17.out; omega
                    generalize os17[i] = q at e40 hmem hbn hat
                    have HAT := Lib.hid hat
                    have hKK := Lib.hid hK
                    clear hlt hat hi hg hK
                    go_upto_region 37 with fail
                    go_wp2_with fail
                    go_loopg [124] q.n (fun gk iv wr => ∃ j : Nat, iv = .int .i64 (j : Int) ∧ gk = q.n - j ∧ j ≤ q.n ∧ KP WC wr (some ⟨g, off, none⟩) os17)
                    case atStart => exact ⟨0, rfl, by omega, by omega, hKK.out⟩
                    case round =>
                      clear e40
                      obtain ⟨j, rfl, rfl, hj, hK2⟩ := hrel
                      have e38 := HAT.out _ hK2
                      by_cases hjl : j < q.n
                      · have j1 : (j : Int) < (q.n : Int) := by omega
                        have j0 : (0 : Int) ≤ (j : Int) := by omega
                        obtain ⟨a, ea, ⟨t9, et9⟩, hz9⟩ := hK2.stm hmem hjl
                        have HK3 := Lib.hid (hK2.time hmem hjl 99 ea)
                        rw [ea] at e38
                        clear ea
                        go_wp2_with fail
                        go_roundg (q.n - (j + 1))
                        case measure => omega
                        case rel => exact ⟨j + 1, by simp, rfl, by omega, HK3.out⟩
                      · have hjn : j = q.n := by omega
                        subst hjn
                        have j1 : ¬ (q.n : Int) < (q.n : Int) := by omega
                        go_wp2_with fail
                        go_roundg (os17.length - (i + 1))
                        case measure => have := HLT.out; omega
                        case rel => exact ⟨i + 1, by simp, rfl, HLT.out, hK2⟩
                  · have i1 : ¬ (i : Int) < (os17.length : Int) := by omega
                    have hfr := hK.fr
                    have HGD := Lib.hid (HGC.out.fr0 hfr)
                    have HTD := Lib.hid (HTC.out.fr0 hfr)
                    have HOD := Lib.hid (own_new0 HOC.out hfr)
                    have HFD := Lib.hid (HFW.out.step0 hfr)
                    clear hi hlt hK hfr
                    obtain ⟨WD, rfl⟩ : ∃ x, x = wr := ⟨_, rfl⟩
                    have c0 : InsC W W.heap.size b w2 A3 c3 os (ys.drop k) L1 N2 (fun tx w => Bes WA.heap.size bu tv L2 b tx w) N2 (.int .i64 ((0 : Nat) : Int)) WD := ⟨0, tt, L1, rfl, rfl, by omega, HTD.out, HSR1.out, rfl, by simp, ⟨HGD.out, SEP2.out⟩, HOD.out, HFD.out⟩
                    go_wp2_with fail
                    rw [HS2.out, HN2E.out]
                    clear HGD HTD HOD HFD i1
                    go_loopg [141] N2 (fun gk iv wr => InsC W W.heap.size b w2 A3 c3 os (ys.drop k) L1 N2 (fun tx w => Bes WA.heap.size bu tv L2 b tx w) gk iv wr)
                    case atStart => exact c0
                    case round =>
                      clear c0
                      obtain ⟨j, t, L, rfl, rfl, hj, hG, hsr, hLe, hLl, hX, ho, hf⟩ := hrel
                      have HG := Lib.hid hG
                      have HSR := Lib.hid hsr
                      have HLE := Lib.hid hLe
                      have HLL := Lib.hid hLl
                      have HXX := Lib.hid hX
                      have HO := Lib.hid ho
                      have HF := Lib.hid hf
                      clear hG hsr hLe hLl hX hf
                      by_cases hlt : j < N2
                      · have j0 : (0 : Int) ≤ (j : Int) := by omega
                        have j1 : (j : Int) < (N2 : Int) := by omega
                        have hjo : j < ((os.drop k)).length := by have := HNO.out; omega
                        have hs9 := SLB.out wr ho
                        obtain ⟨g, off, rfl, hgg⟩ := hs9.adC (by omega)
                        have e1 : codO.rd wr g (off + j * 41) = some ((os.drop k))[j] := hs9.rd j hjo
                        have hly : j < ((ys.drop k)).length := by rw [← YB.out.1]; exact hjo
                        have hin := YB.out.2 j hjo hly
                        have hgd := GB.out _ (List.getElem_mem hly)
                        have HTK := Lib.hid (insAll_take (L := L1) hly)
                        have HLT := Lib.hid hlt
                        generalize ((os.drop k))[j] = r at e1 hin
                        generalize ((ys.drop k))[j] = x at hin hgd HTK
                        have HIN := Lib.hid hin
                        have HGD := Lib.hid hgd
                        clear ho hj hlt hgg hin hgd hly hs9 hjo
                        go_upto_region 46 with fail
                        have f12 : Fr noB wr (wr.alloc (codO.o r)) := (Fr.refl noB wr).alloc _
                        have q12 := Cod.rd_new' (C := codO) wr r
                        obtain ⟨D2, hD2⟩ : ∃ x, x = wr.heap.size := ⟨_, rfl⟩
                        rw [← hD2] at q12 ⊢
                        have h12 := Lib.hid (HG.out.fr0 f12)
                        have o12 := Lib.hid (own_new0 HO.out f12)
                        have X12 := Lib.hid (HXX.out.fr0 f12)
                        have F12 := Lib.hid (HF.out.step0 f12)
                        clear hD2 e1 f12 HG HO HF HXX
                        generalize wr.alloc (codO.o r) = W12 at q12 h12 o12 F12 X12 ⊢
                        have hk9 : j ≤ 100 := by have := HLT.out; have := HN40.out; omega
                        go_wp2_with (go_at_call 11; go_loud (refine (gvInsert_any _ W12 b t L h12.out HSR.out (by have := HLL.out; have := HL0.out; omega) r x (HIN.out.fr F12.out) (by have := goodOp_over HGD.out; omega)).mono ?_; rintro e w5 ⟨E, t5, L5, rfl, h5, m5, a5, f5, i5⟩))
                        go_roundg (N2 - (j + 1))
                        case measure => have := HLT.out; omega
                        case rel => exact ⟨j + 1, t5, L5, rfl, rfl, HLT.out, h5, i5.srt HSR.out, by rw [HTK.out, ← HLE.out]; exact i5.eq, by have := i5.len; have := HLL.out; omega, X12.out.ins h12.out f5 m5 a5, h12.out.own f5 o12.out (by decide) (by decide), F12.out.step f5 (fun q hq => .inl (Nat.le_trans (Nat.le_refl _) (h12.out.base hq)))⟩
                      · have j1 : ¬ (j : Int) < (N2 : Int) := by omega
                        have hjn : j = N2 := by omega
                        have hfull : ((ys.drop k)).take j = ys.drop k := by { rw [hjn]; exact List.take_of_length_le (Nat.le_of_eq HYL.out) }
                        rw [hfull] at HLE
                        clear ho hj hlt hfull
                        obtain ⟨WE, rfl⟩ : ∃ x, x = wr := ⟨_, rfl⟩
                        have HTE := Lib.hid HG.out
                        have HFE := Lib.hid HF.out
                        have HU9 := Lib.hid HXX.out.1
                        have hL : L = L2 := HLE.out.trans HLE2.out.symm
                        subst hL
                        have HL9 := Lib.hid (show L.length ≤ 100000 by have := HL2.out; omega)
                        clear HXX HLE HLL hjn
                        have t1 : True := trivial
                        have t2 : True := trivial
                        go_wp2_with (first
                          | (go_at_call 12; have _t := t1; go_loud (refine (gvRows_any HTE.out HL9.out).mono ?_; rintro e v1 ⟨B1, d1, rq1, yq1, rfl, oq1, xq1, _, pq1, qq1, fq1⟩; have RQ1 := Lib.hid (And.intro (Sl.own oq1 : Sl v1 B1 (codR.row rq1)) (And.intro (show RwsIn v1 rq1 yq1 from ⟨xq1.1, fun i h h' => (xq1.2 i h h').row.inn⟩) (And.intro pq1 qq1))); have LQ1 := Lib.hid (show rq1.length ≤ 1000 by { have h1 := xq1.1; have h2 := pq1.length_eq; have h3 := runX_len [] L; have h4 := HL2.out; simp only [List.length_nil] at h3; omega }); have FQ1 := Lib.hid fq1; clear oq1 xq1 pq1 qq1 fq1 t1 _t))
                          | (go_at_call 12; go_loud (refine (gvRows_any (HU9.out.fr0 FQ1.out) HL9.out).mono ?_; rintro e v2 ⟨B2, d2, rq2, yq2, rfl, oq2, xq2, _, pq2, qq2, fq2⟩; have e2 : yq2 = yq1 := rise_uniq (pq2.trans RQ1.out.2.2.1.symm) qq2 RQ1.out.2.2.2; have RQ2 := Lib.hid (And.intro (Sl.own oq2 : Sl v2 B2 (codR.row rq2)) (show RwsIn v2 rq2 yq1 by { rw [← e2]; exact ⟨xq2.1, fun i h h' => (xq2.2 i h h').row.inn⟩ })); have LQ2 := Lib.hid (show rq2.length ≤ 1000 by { have h1 := xq2.1; have h2 := pq2.length_eq; have h3 := runX_len [] L; have h4 := HL2.out; simp only [List.length_nil] at h3; omega }); have FQ2 := Lib.hid fq2; clear oq2 xq2 pq2 qq2 fq2 e2))
                          | (go_at_call 19; go_loud (refine (r12sameX_any v2 B1 B2 d1 d2 rq1.length rq2.length rq1 rq2 yq1 yq1 rfl rfl (RQ1.out.1.fr0 FQ2.out) RQ2.out.1 (RQ1.out.2.1.fr FQ2.out) RQ2.out.2 (by have := LQ1.out; omega) (by have := LQ2.out; omega) (fun i h h' => rfl)).mono ?_; rintro e v3 ⟨rfl, fq3⟩; rw [sameX_self]; have FQ3 := Lib.hid ((FQ1.out.step0 FQ2.out).step0 fq3); clear fq3))
                          | (go_at_call 15; have _t := t2; go_loud (refine (gvOps_any (HTE.out.fr0 FQ3.out) HSR2.out HL9.out HOV2.out).mono ?_; rintro e v4 ⟨B4, d4, oq4, rfl, sq4, xq4, _, fq4⟩; have SQ4 := Lib.hid (And.intro sq4 (show OpsIn v4 oq4 L from ⟨xq4.1, fun i h h' => (xq4.2 i h h').op.inn⟩)); have FQ4 := Lib.hid (FQ3.out.step0 fq4); clear sq4 xq4 fq4 t2 _t))
                          | (go_at_call 15; go_loud (refine (gvOps_any (HU9.out.fr0 FQ4.out) HSR2.out HL9.out HOV2.out).mono ?_; rintro e v5 ⟨B5, d5, oq5, rfl, sq5, xq5, _, fq5⟩; have SQ5 := Lib.hid (And.intro sq5 (show OpsIn v5 oq5 L from ⟨xq5.1, fun i h h' => (xq5.2 i h h').op.inn⟩)); have GQ5 := Lib.hid fq5; have FQ5 := Lib.hid (FQ4.out.step0 fq5); clear sq5 xq5 fq5))
                          | (go_at_call 21; go_loud (refine (same_all v5 B4 B5 d4 d5 oq4.length oq5.length oq4 oq5 L rfl rfl (SQ4.out.1.fr0 GQ5.out) SQ5.out.1 (SQ4.out.2.fr GQ5.out) SQ5.out.2 (by have := HL9.out; omega)).mono ?_; rintro e v6 ⟨rfl, fq6⟩; have FQ6 := Lib.hid (FQ5.out.step0 fq6); clear fq6)))
                        go_ret
                        exact ⟨rfl, HFE.out.step0 FQ6.out⟩
end Go.Proofs.YtdandpaeeodolaaGreat
