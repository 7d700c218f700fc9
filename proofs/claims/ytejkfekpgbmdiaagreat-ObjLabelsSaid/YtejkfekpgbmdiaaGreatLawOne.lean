/- Plain: bytes of a commit or a tag, cut or with a byte more, are no object. Walk of the law ObjOne. -/
import Derived.Test.YtejkfekpgbmdiaaGreatLinkC
import Derived.Test.YtejkfekpgbmdiaaGreatPutD
import Derived.Test.YtejkfekpgbmdiaaGreatCpt
namespace Go.Proofs.YtejkfekpgbmdiaaGreat
set_option linter.unusedVariables false

theorem kind_0 {l : List UInt8} (h1 : rdBl l = none) (h2 : rdDr l = none) (h3 : rdCh l = none) (h4 : rdLb l = none) : kindO l = 0 := by
  unfold kindO
  rw [h1, h2, h3, h4]; rfl
theorem bl_none {l : List UInt8} {k : UInt8} {t : List UInt8} (h : l = k :: t) (hk : k ≠ 1) : rdBl l = none := by subst h; simp [rdBl, hk]
theorem kind_nil : kindO [] = 0 := kind_0 rfl (by unfold rdDr; simp [openR, rdNum, rdMany]) (by unfold rdCh; simp [openR, rdNum, rdAll, rdId, rdTake, rdText]) (by unfold rdLb; simp [openR, rdNum, rdId, rdTake, rdText])
/-- what a commit's bytes are not -/
structure ChN (b : List UInt8) : Prop where
  bl : rdBl b = none
  dr : rdDr b = none
  lb : rdLb b = none
  cut : ∀ i, i < b.length → kindO (b.take i) = 0
  more : kindO (b ++ [0]) = 0
theorem chN {c : Chg} (h : rightCh c = true) : ChN (chB c) := by
  have hr := Rt.ch h
  have hr2 := hr
  rw [rdCh_eq] at hr2
  obtain ⟨t, ht⟩ := whole_head Ext.ch hr2
  refine ⟨bl_none ht (by decide), dr_none ht (by decide), lb_none ht (by decide), fun i hi => ?_, ?_⟩
  · cases i with
    | zero => exact kind_nil
    | succ i =>
      have e : (chB c).take (i + 1) = 3 :: t.take i := by rw [ht]; rfl
      have e3 : rdCh ((chB c).take (i + 1)) = none := by rw [rdCh_eq]; exact whole_cut Ext.ch hr2 hi
      exact kind_0 (bl_none e (by decide)) (dr_none e (by decide)) e3 (lb_none e (by decide))
  · have e : chB c ++ [0] = 3 :: (t ++ [0]) := by rw [ht]; rfl
    have e3 : rdCh (chB c ++ [0]) = none := by rw [rdCh_eq]; exact whole_more Ext.ch hr2 (by simp)
    exact kind_0 (bl_none e (by decide)) (dr_none e (by decide)) e3 (lb_none e (by decide))
structure LbN (b : List UInt8) : Prop where
  cut : ∀ i, i < b.length → kindO (b.take i) = 0
  more : kindO (b ++ [0]) = 0
theorem lbN {c : Lbl} (h : rightLb c = true) : LbN (lbB c) := by
  have hr := Rt.lb h
  have hr2 := hr
  rw [rdLb_eq] at hr2
  obtain ⟨t, ht⟩ := whole_head Ext.lb hr2
  refine ⟨fun i hi => ?_, ?_⟩
  · cases i with
    | zero => exact kind_nil
    | succ i =>
      have e : (lbB c).take (i + 1) = 4 :: t.take i := by rw [ht]; rfl
      have e3 : rdLb ((lbB c).take (i + 1)) = none := by rw [rdLb_eq]; exact whole_cut Ext.lb hr2 hi
      exact kind_0 (bl_none e (by decide)) (dr_none e (by decide)) (ch_none e (by decide)) e3
  · have e : lbB c ++ [0] = 4 :: (t ++ [0]) := by rw [ht]; rfl
    have e3 : rdLb (lbB c ++ [0]) = none := by rw [rdLb_eq]; exact whole_more Ext.lb hr2 (by simp)
    exact kind_0 (bl_none e (by decide)) (dr_none e (by decide)) (ch_none e (by decide)) e3
end Go.Proofs.YtejkfekpgbmdiaaGreat
namespace Go.Proofs.YtejkfekpgbmdiaaGreat
open Go.RowKit
set_option linter.unusedVariables false
set_option linter.unusedSimpArgs false

theorem and_maskB (x : Int) (m : Nat) (hm : m ≤ 1048575) : ∃ r : Nat, bits BinOp.and IntKind.i64 x (m : Int) = (r : Int) ∧ r ≤ m := by
  refine ⟨(BitVec.ofInt 64 x &&& BitVec.ofInt 64 (m : Int)).toNat, ?_, ?_⟩
  · have hle : (BitVec.ofInt 64 x &&& BitVec.ofInt 64 (m : Int)).toNat ≤ 1048575 := by
      rw [BitVec.toNat_and]
      refine Nat.le_trans Nat.and_le_right ?_
      rw [BitVec.toNat_ofInt]
      omega
    show IntKind.i64.wrap (((BitVec.ofInt 64 x &&& BitVec.ofInt 64 (m : Int)).toNat : Nat) : Int) = _
    rw [IntKind.wrap_i64]
    omega
  · rw [BitVec.toNat_and]
    refine Nat.le_trans Nat.and_le_right ?_
    rw [BitVec.toNat_ofInt]
    omega
theorem PtTo.no {w w' : World} {o : Option (List UInt8)} {err : Int} {e : Ending} (h : PtTo w o err e w') (ho : o = none) :
    ∃ A c, e = .returned (.tuple #[.slice A 0 c, .int .i64 err]) ∧ Fr noB w w' := by
  subst ho
  obtain ⟨A, c, h1, h2, h3, h4⟩ := h
  exact ⟨A, c, h1, h3⟩
/-- bytes that are none of a kind -/
theorem label_no (w : World) (A : Option Addr) (c n : Nat) (l : List UInt8) (hn : l.length = n) (hs : Sl w A (bv l)) (hcap : l.length ≤ c) (hb : l.length ≤ 140737488355328) (h : rdLb l = none) :
    Calls Tryz.prog 30 #[.slice A n c] w (Gives w (.tuple #[.agg (codL.A zLbl), .int .i64 20])) := by
  refine (label_any w A c n l hn hs hcap hb).mono ?_
  rintro e w' ⟨rfl, f⟩
  rw [h]
  exact ⟨rfl, f⟩
theorem dir_no (w : World) (A : Option Addr) (c n : Nat) (l : List UInt8) (hn : l.length = n) (hs : Sl w A (bv l)) (hcap : l.length ≤ c) (hb : l.length ≤ 140737488355328) (h : rdDr l = none) :
    Calls Tryz.prog 17 #[.slice A n c] w fun e w' => ∃ B m d, e = .returned (.tuple #[.slice B m d, .int .i64 20]) ∧ Fr noB w w' := by
  refine (dir_any w A c n l hn hs hcap hb).mono ?_
  rintro e w' ⟨B, d, rs, rfl, f, _, _⟩
  rw [h]
  exact ⟨B, rs.length, d, rfl, f⟩
theorem blob_no (w : World) (A : Option Addr) (c n : Nat) (l : List UInt8) (hn : l.length = n) (hs : Sl w A (bv l)) (hcap : l.length ≤ c) (hb : l.length ≤ 140737488355328) (h : rdBl l = none) :
    Calls Tryz.prog 11 #[.slice A n c] w fun e w' => ∃ B d, e = .returned (.tuple #[.slice B 0 d, .int .i64 20]) ∧ Fr noB w w' := by
  refine (blob_any w A c n l hn hs hcap hb).mono ?_
  rintro e w' ⟨B, d, rfl, _, f⟩
  rw [h]
  exact ⟨B, d, rfl, f⟩
theorem chB_len {c : Chg} (h : rightCh c = true) : 0 < (chB c).length ∧ (chB c).length ≤ 1000000 := by
  have h0 := h
  simp only [rightCh, Bool.and_eq_true, decide_eq_true_eq, List.all_eq_true] at h
  obtain ⟨⟨⟨⟨⟨⟨⟨⟨⟨h1, h2⟩, h3⟩, h4⟩, h5⟩, h6⟩, h7⟩, h8⟩, h9⟩, h10⟩ := h
  obtain ⟨t1, t2, t3, t4⟩ := okSt_of h4
  simp only at t1 t2 t3 t4
  have a1 := numB_length c.Parents.length (by omega)
  have a2 := numB_length c.Time.toNat (by omega)
  have a3 := numB_length c.R.toNat (by omega)
  have a4 := numB_length c.Ops.length (by omega)
  have a5 := numB_length c.Msg.length (by omega)
  have a6 : ∀ l : List ID, (l.flatMap (·.1)).length = l.length * 32 := by
    intro l
    induction l with
    | nil => rfl
    | cons x l ih => rw [List.flatMap_cons, List.length_append, ih, x.2, List.length_cons]; omega
  have a7 : ∀ l : List Opn, (∀ o ∈ l, goodOp o = true) → (l.flatMap opB).length ≤ l.length * 4000 := by
    intro l
    induction l with
    | nil => simp
    | cons x l ih =>
      intro hh
      have := ih (fun s hs => hh s (by simp [hs]))
      have h0 := opB_len (hh x (by simp))
      simp only [List.flatMap_cons, List.length_append, List.length_cons]
      omega
  have a8 := a6 c.Parents
  have a9 := a7 c.Ops (fun o ho => (h9 o ho).1.1)
  have a10 := c.Tree.2
  unfold chB txB
  simp only [List.length_cons, List.length_append, List.cons_append]
  omega
theorem lbB_len {c : Lbl} (h : rightLb c = true) : 0 < (lbB c).length ∧ (lbB c).length ≤ 1000000 := by
  simp only [rightLb, Bool.and_eq_true, decide_eq_true_eq] at h
  have h1 := nameOk_le h.1.2
  have a1 := numB_length c.Name.length (by omega)
  have a2 := numB_length c.Msg.length (by omega)
  have a3 := c.Target.2
  unfold lbB txB
  simp only [List.length_cons, List.length_append, List.cons_append]
  omega
/-- 'append(out, src...)' of bytes under a guard that holds -/
theorem wpList_appG {P : Program} (w : World) {t e : TypeId} (H : ET P t e 1 1) {ops : Array Oper} {rest : List Oper} {o : Oper} {a : Act} {Q : Exit → Act → World → Prop} (hw : Region.wanted o (yielded ops a.tmps) = true) (s x : Operand)
    (ho : o.op = .call { callee := .builtin .append, args := #[s, x], argTypes := #[t, t] }) (base : Nat)
    (v : Value) (n : Nat) (lo : List UInt8) (hs : a.eval s = v) (hown : w.ownsRow base e 1 v n (bv lo))
    (A : Option Addr) (m c : Nat) (news : List UInt8) (hx : a.eval x = .slice A m c) (hr : Sl w A (bv news)) (hl : news.length = m)
    (hbytes : lo.length + news.length ≤ 140737488355328) (hbase : base ≤ w.heap.size)
    (h : ∀ A' c' w', (lo ++ news).length ≤ c' → c' ≤ maxLen → w'.ownsRow base e 1 (.slice A' (lo ++ news).length c') (lo ++ news).length (bv (lo ++ news)) → w.grownBy w' v.ownBlock → wpList P ops Q rest (a.put o.dst (.slice A' (lo ++ news).length c')) w') : wpList P ops Q (o :: rest) a w := by
  have hown' := own_bv hown
  unfold wpList
  rw [if_pos hw]
  refine .inl (wp_app w H s x ho base v lo.length (bv lo) hs hown' A m c (bv news) hx hr (by simp [hl]) (bv_one _) (by rw [← hl]; omega) hbase ?_)
  intro v' w' h1 h2 h3
  rw [← bv_append] at h1
  have h1' := own_bv h1
  obtain ⟨A', c', rfl, hc1, hc2⟩ := own_form h1'
  exact h A' c' w' hc1 hc2 h1' h2
end Go.Proofs.YtejkfekpgbmdiaaGreat
