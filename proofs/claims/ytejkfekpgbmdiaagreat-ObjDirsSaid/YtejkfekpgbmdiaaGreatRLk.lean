/- Contract: the reference's Put. Plain: sets of IDs made one by one. (ex_ld_arr, rdI) Contract: the reference's Links. (ex_ld_arr, rdI) -/
import Derived.Test.YtejkfekpgbmdiaaGreatRSp
import Derived.Test.YtejkfekpgbmdiaaGreatLkP
namespace Go.Proofs.YtejkfekpgbmdiaaGreat
open Go.RowKit Go.Maps Go.Sort Go.Shelf
set_option linter.unusedVariables false
set_option linter.unusedSimpArgs false

/-! plain -/
def putW (x : ID) : Bool → List ID → List ID
  | d, [] => if d then [] else [x]
  | true, y :: l => y :: l
  | false, y :: l => if cmpI y x < 0 then y :: putW x false l else if cmpI y x = 0 then y :: l else x :: y :: l
def putS (l : List ID) (x : ID) : List ID := putW x (decide (x = zID)) l
theorem putW_true (x : ID) (l : List ID) : putW x true l = l := by cases l <;> rfl
theorem putW_len (x : ID) (d : Bool) (l : List ID) : (putW x d l).length ≤ l.length + 1 := by
  cases d with
  | true => rw [putW_true]; omega
  | false =>
    induction l with
    | nil => simp [putW]
    | cons y l ih => unfold putW; split; simp only [List.length_cons]; omega; split <;> simp
theorem putW_mem (x : ID) (l : List ID) (y : ID) : y ∈ putW x false l ↔ y = x ∨ y ∈ l := by
  induction l with
  | nil => simp [putW]
  | cons z l ih =>
    unfold putW
    split
    · rw [List.mem_cons, ih, List.mem_cons]
      constructor
      · rintro (h | h | h) <;> simp [h]
      · rintro (h | h | h) <;> simp [h]
    · split
      · rename_i h
        have := (cmpI_eq _ _).1 h
        subst this
        simp
      · simp
theorem putW_up (x : ID) (l : List ID) (h : l.Pairwise (fun a b => cmpI a b < 0)) : (putW x false l).Pairwise (fun a b => cmpI a b < 0) := by
  induction l with
  | nil => simp [putW]
  | cons z l ih =>
    rw [List.pairwise_cons] at h
    unfold putW
    split
    · rename_i hc
      rw [List.pairwise_cons]
      refine ⟨fun y hy => ?_, ih h.2⟩
      rcases (putW_mem x l y).1 hy with rfl | hy
      · exact hc
      · exact h.1 y hy
    · split
      · exact List.pairwise_cons.2 h
      · rename_i h1 h2
        have hz : cmpI x z < 0 := by have := cmpI_anti x z; have := cmpI_anti z x; omega
        rw [List.pairwise_cons]
        refine ⟨fun y hy => ?_, List.pairwise_cons.2 h⟩
        rcases List.mem_cons.1 hy with rfl | hy
        · exact hz
        · exact cmpI_trans hz (h.1 y hy)
theorem LkQ.put {L raw : List ID} (h : LkQ L raw) (x : ID) : LkQ (putS L x) (raw ++ [x]) := by
  unfold putS
  by_cases hx : x = zID
  · rw [decide_eq_true hx, putW_true]
    refine ⟨fun y => ?_, h.up⟩
    rw [h.mem, List.mem_append, List.mem_singleton]
    constructor
    · rintro ⟨a, b⟩; exact ⟨.inl a, b⟩
    · rintro ⟨a | a, b⟩
      · exact ⟨a, b⟩
      · exact absurd (a.trans hx) b
  · rw [decide_eq_false hx]
    refine ⟨fun y => ?_, putW_up x L h.up⟩
    rw [putW_mem, h.mem, List.mem_append, List.mem_singleton]
    constructor
    · rintro (a | ⟨a, b⟩)
      · exact ⟨.inr a, by rw [a]; exact hx⟩
      · exact ⟨.inl a, b⟩
    · rintro ⟨a | a, b⟩
      · exact .inr ⟨a, b⟩
      · exact .inl a
theorem LkQ.congr {L raw raw' : List ID} (h : LkQ L raw) (he : ∀ x, x ∈ raw ↔ x ∈ raw') : LkQ L raw' := ⟨fun y => by rw [h.mem, he], h.up⟩
theorem LkQ.nil : LkQ [] [] := ⟨fun x => by simp, by simp⟩
theorem up_uniq : ∀ (l m : List ID), l.Pairwise (fun a b => cmpI a b < 0) → m.Pairwise (fun a b => cmpI a b < 0) → (∀ x, x ∈ l ↔ x ∈ m) → l = m
  | [], [], _, _, _ => rfl
  | [], y :: m, _, _, h => by have := (h y).2 (by simp); simp at this
  | x :: l, [], _, _, h => by have := (h x).1 (by simp); simp at this
  | x :: l, y :: m, hl, hm, h => by
    rw [List.pairwise_cons] at hl hm
    have e : x = y := by
      rcases List.mem_cons.1 ((h x).1 (by simp)) with e | hx
      · exact e
      · rcases List.mem_cons.1 ((h y).2 (by simp)) with e | hy
        · exact e.symm
        · have h1 := hl.1 y hy
          have h2 := hm.1 x hx
          have := cmpI_anti x y
          omega
    subst e
    congr 1
    refine up_uniq l m hl.2 hm.2 fun z => ?_
    have hz := h z
    simp only [List.mem_cons] at hz
    constructor
    · intro hzl
      rcases hz.1 (.inr hzl) with e | e
      · exact absurd e.symm (cmpI_lt_ne (hl.1 z hzl))
      · exact e
    · intro hzm
      rcases hz.2 (.inr hzm) with e | e
      · exact absurd e.symm (cmpI_lt_ne (hm.1 z hzm))
      · exact e
theorem LkQ.uniq {L M raw : List ID} (h : LkQ L raw) (h' : LkQ M raw) : L = M := up_uniq L M h.up h'.up fun x => by rw [h.mem, h'.mem]
theorem LkQ.len {L raw : List ID} (h : LkQ L raw) : L.length ≤ raw.length := by
  refine nd_le' L raw ?_ (fun x hx => ((h.mem x).1 hx).1)
  exact h.up.imp fun hab => cmpI_lt_ne hab
/-! rows of arrays -/
abbrev rowr (l : List ID) : Obj := .cells (idR l) 44
theorem sl_newR (w : World) (l : List ID) : Sl (w.alloc (rowr l)) (some ⟨w.heap.size, 0, none⟩) (idc l) := by
  simp only [rowr, idR_eq]; exact Sl.new w 44 (idc l)
theorem bsR_1 (w : World) (x : ID) : (Instr.buildSlice 41 1 #[(0, encI x)]).run Tryz.prog w = .ok (.slice (some ⟨w.heap.size, 0, none⟩) 1 1) (w.alloc (rowr [x])) := by
  have h1 : Instr.fill (fun i => some (i * 32, 32)) ([] ++ z32 ++ []).toArray [(0, encI x)] = some (idc [x]).toArray :=
    (fill_one (fun i => some (i * 32, 32)) [] z32 [] (bv x.1) 0 (encI x) [] (cellsI x) (by simp [x.2]) (by simp [x.2, z32_len])).trans (by simp [Instr.fill, idc])
  simp only [Instr.buildSlice, Sem.run_bind, run_underlying Tryz.underlying41, Result.andThen_ok, sizeArr, zeroArr]
  simp only [show (1 * 32 > 2 ^ 24) = False from by simp, show (1 * 32 = 0) = False from by simp, if_false, Sem.run_bind, zeroArr, Result.andThen_ok, Sem.run_pure, zs1, h1]
  simp [newRow, newObj, rowr, idR_eq, Sem.run, Result.andThen]
@[irreducible] noncomputable def bsR1 (w : World) (v : Value) : Result Next := ((Instr.buildSlice 41 1 #[(0, v)]).run Tryz.prog w).andThen (fun v w => .ok (.value v) w)
@[simp ↓] theorem ex_bsR1 (ρ : Operand → Value) (a : Operand) (d : Option Nat) (t : TypeId) (p : String) (f : Array Edge) (g : Option (Nat × Bool)) (w : World) :
    (execOp ρ { dst := d, op := .buildSlice 41 1 #[(0, a)], type := t, pos := p, after := f, guard := g }).run Tryz.prog w = bsR1 w (ρ a) := by
  unfold execOp bsR1
  simp only [List.map_toArray, List.map_cons, List.map_nil, Sem.run_bind, Sem.run_pure]
@[simp] theorem bsR1_at (w : World) (x : ID) : bsR1 w (encI x) = .ok (.value (.slice (some ⟨w.heap.size, 0, none⟩) 1 1)) (w.alloc (rowr [x])) := by
  unfold bsR1; rw [bsR_1]; rfl
theorem etArrs : ET Tryz.prog 41 44 32 32 := ET.mk' (z := .agg (bv zID.1).toArray) Tryz.underlying41 (by kernel_rfl) (by simp [Value.cells, zID]) (by decide) (by decide)
abbrev OwnR (w0 w : World) (A : Option Addr) (c : Nat) (l : List ID) : Prop := w.ownsRow w0.heap.size 44 32 (.slice A l.length c) l.length (idc l)
theorem own_idr {w : World} {base : Nat} {n : Nat} {v : Value} {l : List ID} (h : w.ownsRow base 44 32 v n (idc l)) : w.ownsRow base 44 32 v l.length (idc l) := by
  have hn : n = l.length := by have := h.1; rw [idc_length] at this; omega
  subst hn; exact h
theorem wpList_appR (w0 w : World) {ops : Array Oper} {rest : List Oper} {o : Oper} {a : Act} {Q : Exit → Act → World → Prop} (hgd : o.guard = none) (s x : Operand)
    (ho : o.op = .call { callee := .builtin .append, args := #[s, x], argTypes := #[41, 41] })
    (As : Option Addr) (ns cs : Nat) (lo : List ID) (hs : a.eval s = .slice As ns cs) (hns : lo.length = ns) (hown : OwnR w0 w As cs lo)
    (A : Option Addr) (m c : Nat) (news : List ID) (hx : a.eval x = .slice A m c) (hr : Sl w A (idc news)) (hl : news.length = m)
    (hbytes : lo.length + news.length ≤ 1000000000000) (hbase : w0.heap.size ≤ w.heap.size)
    (h : ∀ A' c' w', (lo ++ news).length ≤ c' → c' ≤ maxLen → OwnR w0 w' A' c' (lo ++ news) → w.grownBy w' (As.map (·.block)) →
      (A'.map (·.block) = As.map (·.block) ∨ A'.map (·.block) = some w.heap.size) → wpList Tryz.prog ops Q rest (a.put o.dst (.slice A' (lo ++ news).length c')) w') :
    wpList Tryz.prog ops Q (o :: rest) a w := by
  subst hns
  refine wpList_app w etArrs hgd s x ho w0.heap.size _ lo.length (idc lo) hs hown A m c (idc news) hx hr (by rw [idc_length, hl]) (idc_one _) (by rw [← hl]; omega) hbase ?_
  intro v' w' h1 h2 h3
  rw [← idc_append] at h1
  have h1' := own_idr h1
  obtain ⟨A', c', rfl, hc1, hc2⟩ := own_form h1'
  rw [ownBlock_sl', ownBlock_sl'] at h3
  rw [ownBlock_sl'] at h2
  exact h A' c' w' hc1 hc2 h1' h2 h3
/-- one more element -/
theorem wpList_appY (w0 w : World) {ops : Array Oper} {rest : List Oper} {o : Oper} {a : Act} {Q : Exit → Act → World → Prop} (hgd : o.guard = none) (s x : Operand)
    (ho : o.op = .call { callee := .builtin .append, args := #[s, x], argTypes := #[41, 41] })
    (As : Option Addr) (ns cs : Nat) (lo : List ID) (hs : a.eval s = .slice As ns cs) (hns : lo.length = ns) (hown : OwnR w0 w As cs lo)
    (A : Option Addr) (c : Nat) (y : ID) (hx : a.eval x = .slice A 1 c) (hr : Sl w A (idc [y])) (hb : lo.length ≤ 100000000001) (f : Fr noB w0 w)
    (h : ∀ A' c' w', OwnR w0 w' A' c' (lo ++ [y]) → Fr noB w0 w' → wpList Tryz.prog ops Q rest (a.put o.dst (.slice A' (lo ++ [y]).length c')) w') :
    wpList Tryz.prog ops Q (o :: rest) a w := by
  refine wpList_appR w0 w hgd s x ho As ns cs lo hs hns hown A 1 c [y] hx hr rfl (by simp only [List.length_cons, List.length_nil]; omega) f.size ?_
  intro A' c' w' _ _ h1 h2 _
  refine h A' c' w' h1 (f.step (M' := fun b => As.map (·.block) = some b) (Fr.ofGrown h2 (fun g hg => hg)) (fun b hb => .inl ?_))
  cases As with
  | none => cases hb
  | some a => simp only [Option.map_some, Option.some.injEq] at hb; rw [← hb]; exact (hown.lt _ (by simp [Value.ownBlock])).1
theorem rd_arr (w : World) (x : ID) : rdI (w.alloc (aro x)) w.heap.size 0 = some x := Rd.rdI fun j v hv => by rw [Nat.zero_add]; exact ((blk_arr w x).cell j).trans hv
/-- a set of IDs comes out -/
def SetTo (w : World) (l : List ID) (e : Ending) (w' : World) : Prop := ∃ A c, e = .returned (.slice A l.length c) ∧ Sl w' A (idc l) ∧ Fr noB w w'
def PtR (w : World) (l : List ID) (x : ID) (gk : Nat) (ov dv iv : Value) (wr : World) : Prop := ∃ (k : Nat) (A : Option Addr) (c : Nat) (o : List ID) (d : Bool), iv = .int .i64 (k : Int) ∧ gk = l.length - k ∧ k ≤ l.length ∧ ov = .slice A o.length c ∧ dv = .bool d ∧ OwnR w wr A c o ∧ o.length ≤ k + 1 ∧ (d = false → o.length ≤ k) ∧ putS l x = o ++ putW x d (l.drop k) ∧ Fr noB w wr
set_option maxRecDepth 100000 in
set_option maxHeartbeats 4000000 in
theorem r4putid_any (w : World) (A0 : Option Addr) (c0 n : Nat) (l : List ID) (hn : l.length = n) (hs : Sl w A0 (idc l)) (hb : l.length ≤ 100000000000) (x : ID) (r : List ID) (hr : putS l x = r) : Calls Tryz.prog 57 #[.slice A0 n c0, encI x] w (SetTo w r) := by
  subst hn
  have HRR := Lib.hid hr
  clear hr
  have b1 := rd_arr w x
  have f0 : Fr noB w (w.alloc (aro x)) := (Fr.refl noB w).alloc _
  have s1 : (w.alloc (aro x)).heap.size = w.heap.size + 1 := World.size_alloc ..
  go_enter Tryz.func57, Tryz.ntmps57
  go_upto_region 1 with fail
  generalize w.alloc (aro x) = wb at b1 f0 s1 ⊢
  have hs1 := hs.fr0 f0
  have fb1 : Fr noB wb (wb.alloc (.cells #[] 44)) := (Fr.refl noB wb).alloc _
  have ow : OwnR wb (wb.alloc (.cells #[] 44)) (some ⟨wb.heap.size, 0, none⟩) 0 [] :=
    World.ownsRow_lit (base := wb.heap.size) (e := 44) (size := 32) wb #[] 0 (Nat.le_refl _) (by simp [maxLen]) rfl
  have b1' := rdI_fr b1 (rdI_lt b1) fb1 (by simp [noB])
  go_upto_region 3 with (go_at_call 60; refine (r4zero_any _ x).mono ?_; rintro e w2 ⟨rfl, f2⟩)
  clear b1'
  have f3 := fb1.step0 f2
  replace ow : OwnR wb w2 (some ⟨wb.heap.size, 0, none⟩) 0 [] := own_fr ow f2 (fun _ _ => by simp [noB])
  rw [s1] at ow
  generalize hP : w.heap.size = P at b1 ow ⊢
  generalize hd0 : decide (x = zID) = d0
  have HD0 := Lib.hid hd0
  clear hd0
  go_upto_region 4 with fail
  go_loopg [5, 6, 7] l.length (fun gk ov dv iv wr => PtR wb l x gk ov dv iv wr)
  case atStart => exact ⟨0, _, 0, [], d0, rfl, rfl, by omega, rfl, rfl, ow, by simp, by simp, by rw [← HD0.out]; rfl, f3⟩
  case round =>
    obtain ⟨k, A, c, o, d, rfl, rfl, hk, rfl, rfl, ho, hol, hol2, hi, hf⟩ := hrel
    have HI := Lib.hid hi
    clear hi ow fb1 f2 f3
    have b2 := rdI_fr b1 (rdI_lt b1) hf (by simp [noB])
    have hPw := rdI_lt b2
    by_cases hlt : k < l.length
    · have i1 : (k : Int) < (l.length : Int) := by omega
      have i0 : (0 : Int) ≤ (k : Int) := by omega
      obtain ⟨g, off, rfl⟩ := hs1.ad (by omega)
      have ry0 := hs1.id k hlt
      have ry := (hs1.fr0 hf).id k hlt
      have hgw := rdI_lt ry
      have hdr : l.drop k = l[k] :: l.drop (k + 1) := List.drop_eq_getElem_cons hlt
      generalize l[k] = y at ry ry0 hdr
      have HD := Lib.hid hdr
      clear hdr
      have hc3 : cmpI y x = -1 ∨ cmpI y x = 0 ∨ cmpI y x = 1 := cb_range y.1 x.1
      rcases hc3 with hc | hc | hc
      · have HC := Lib.hid hc
        clear hc
        have C1 : ∀ w, Calls Tryz.prog 36 #[encI y, encI x] w (Gives w (.int .i64 (-1))) := fun w => Gives.val (rcmp_any w y x) (by rw [HC.out])
        go_upto_region 6 with fail
        refine wp_region_fr (by kernel_rfl) (by kernel_rfl) ?_
        iterate 5
          refine wpQ_take (v := ?_) (by rfl) (fun wS hS => ?_) ?_
          rotate_left
          · obtain ⟨L1, L2, L3, L4, L5, L6⟩ := Fr.same hS; go_simp; try with_reducible rfl
          try simp only [List.getElem_toArray, List.getElem_cons_zero, List.getElem_cons_succ, Act.put, List.setIfInBounds_toArray, List.set_cons_zero, List.set_cons_succ]
        refine wpQ_call (by rfl) (fun wS hS => ⟨_, _, ?qh230, Calls.fr hS (C1 _)⟩) ?qk230
        case qh230 => obtain ⟨L1, L2, L3, L4, L5, L6⟩ := Fr.same hS; go_simp; try with_reducible rfl
        try simp only [List.getElem_toArray, List.getElem_cons_zero, List.getElem_cons_succ, Act.put, List.setIfInBounds_toArray, List.set_cons_zero, List.set_cons_succ]
        refine wpQ_take (v := ?_) (by rfl) (fun wS hS => ?_) ?_
        rotate_left
        · obtain ⟨L1, L2, L3, L4, L5, L6⟩ := Fr.same hS; go_simp; try with_reducible rfl
        try simp only [List.getElem_toArray, List.getElem_cons_zero, List.getElem_cons_succ, Act.put, List.setIfInBounds_toArray, List.set_cons_zero, List.set_cons_succ]
        refine wpQ_nil ?_
        intro w1 f1
        have fu : Fr noB wb w1 := hf.step0 f1
        have hou : OwnR wb w1 A c o := own_fr ho f1 (fun _ _ => by simp [noB])
        have by1 := rdI_fr ry (rdI_lt ry) f1 (by simp [noB])
        have bx1 := rdI_fr b2 (rdI_lt b2) f1 (by simp [noB])
        clear C1 f1
        cases d with
        | true =>
          have sly := sl_newR w1 [y]
          have fay : Fr noB w1 (World.alloc w1 (rowr [y])) := (Fr.refl noB w1).alloc _
          have fby := Fr.step0 fu fay
          have hoay : OwnR wb (World.alloc w1 (rowr [y])) A c o := own_fr hou fay (fun _ _ => by simp [noB])
          have hly : (o).length ≤ 100000000001 := by (try simp only [List.length_append, List.length_cons, List.length_nil]); omega
          go_wp2_with (at_builtin; refine wpList_appY wb _ rfl _ _ rfl A _ c o rfl rfl hoay _ _ y rfl sly hly fby ?_; intro A7 c7 w7 ho7 f7)
          go_roundg (l.length - (k + 1))
          case measure => omega
          case rel => exact ⟨k + 1, A7, c7, o ++ [y], true, by simp, rfl, by omega, by first | rfl | simp, rfl, ho7, by simp only [List.length_append, List.length_cons, List.length_nil]; omega, by intro hdd; first | (cases hdd; done) | (simp only [List.length_append, List.length_cons, List.length_nil]; omega), by rw [HI.out, HD.out, List.append_assoc]; (rw [putW_true, putW_true]; rfl), f7⟩
        | false =>
          replace hol2 := hol2 rfl
          have sly := sl_newR w1 [y]
          have fay : Fr noB w1 (World.alloc w1 (rowr [y])) := (Fr.refl noB w1).alloc _
          have fby := Fr.step0 fu fay
          have hoay : OwnR wb (World.alloc w1 (rowr [y])) A c o := own_fr hou fay (fun _ _ => by simp [noB])
          have hly : (o).length ≤ 100000000001 := by (try simp only [List.length_append, List.length_cons, List.length_nil]); omega
          go_wp2_with (at_builtin; refine wpList_appY wb _ rfl _ _ rfl A _ c o rfl rfl hoay _ _ y rfl sly hly fby ?_; intro A7 c7 w7 ho7 f7)
          go_roundg (l.length - (k + 1))
          case measure => omega
          case rel => exact ⟨k + 1, A7, c7, o ++ [y], false, by simp, rfl, by omega, by first | rfl | simp, rfl, ho7, by simp only [List.length_append, List.length_cons, List.length_nil]; omega, by intro hdd; first | (cases hdd; done) | (simp only [List.length_append, List.length_cons, List.length_nil]; omega), by rw [HI.out, HD.out, List.append_assoc]; (simp [putW, HC.out]), f7⟩
      · have HC := Lib.hid hc
        clear hc
        have C1 : ∀ w, Calls Tryz.prog 36 #[encI y, encI x] w (Gives w (.int .i64 (0))) := fun w => Gives.val (rcmp_any w y x) (by rw [HC.out])
        go_upto_region 6 with fail
        refine wp_region_fr (by kernel_rfl) (by kernel_rfl) ?_
        iterate 5
          refine wpQ_take (v := ?_) (by rfl) (fun wS hS => ?_) ?_
          rotate_left
          · obtain ⟨L1, L2, L3, L4, L5, L6⟩ := Fr.same hS; go_simp; try with_reducible rfl
          try simp only [List.getElem_toArray, List.getElem_cons_zero, List.getElem_cons_succ, Act.put, List.setIfInBounds_toArray, List.set_cons_zero, List.set_cons_succ]
        refine wpQ_call (by rfl) (fun wS hS => ⟨_, _, ?qh276, Calls.fr hS (C1 _)⟩) ?qk276
        case qh276 => obtain ⟨L1, L2, L3, L4, L5, L6⟩ := Fr.same hS; go_simp; try with_reducible rfl
        try simp only [List.getElem_toArray, List.getElem_cons_zero, List.getElem_cons_succ, Act.put, List.setIfInBounds_toArray, List.set_cons_zero, List.set_cons_succ]
        refine wpQ_take (v := ?_) (by rfl) (fun wS hS => ?_) ?_
        rotate_left
        · obtain ⟨L1, L2, L3, L4, L5, L6⟩ := Fr.same hS; go_simp; try with_reducible rfl
        try simp only [List.getElem_toArray, List.getElem_cons_zero, List.getElem_cons_succ, Act.put, List.setIfInBounds_toArray, List.set_cons_zero, List.set_cons_succ]
        refine wpQ_nil ?_
        intro w1 f1
        have fu : Fr noB wb w1 := hf.step0 f1
        have hou : OwnR wb w1 A c o := own_fr ho f1 (fun _ _ => by simp [noB])
        have by1 := rdI_fr ry (rdI_lt ry) f1 (by simp [noB])
        have bx1 := rdI_fr b2 (rdI_lt b2) f1 (by simp [noB])
        clear C1 f1
        cases d with
        | true =>
          have sly := sl_newR w1 [y]
          have fay : Fr noB w1 (World.alloc w1 (rowr [y])) := (Fr.refl noB w1).alloc _
          have fby := Fr.step0 fu fay
          have hoay : OwnR wb (World.alloc w1 (rowr [y])) A c o := own_fr hou fay (fun _ _ => by simp [noB])
          have hly : (o).length ≤ 100000000001 := by (try simp only [List.length_append, List.length_cons, List.length_nil]); omega
          go_wp2_with (at_builtin; refine wpList_appY wb _ rfl _ _ rfl A _ c o rfl rfl hoay _ _ y rfl sly hly fby ?_; intro A7 c7 w7 ho7 f7)
          go_roundg (l.length - (k + 1))
          case measure => omega
          case rel => exact ⟨k + 1, A7, c7, o ++ [y], true, by simp, rfl, by omega, by first | rfl | simp, rfl, ho7, by simp only [List.length_append, List.length_cons, List.length_nil]; omega, by intro hdd; first | (cases hdd; done) | (simp only [List.length_append, List.length_cons, List.length_nil]; omega), by rw [HI.out, HD.out, List.append_assoc]; (rw [putW_true, putW_true]; rfl), f7⟩
        | false =>
          replace hol2 := hol2 rfl
          have sly := sl_newR w1 [y]
          have fay : Fr noB w1 (World.alloc w1 (rowr [y])) := (Fr.refl noB w1).alloc _
          have fby := Fr.step0 fu fay
          have hoay : OwnR wb (World.alloc w1 (rowr [y])) A c o := own_fr hou fay (fun _ _ => by simp [noB])
          have hly : (o).length ≤ 100000000001 := by (try simp only [List.length_append, List.length_cons, List.length_nil]); omega
          go_wp2_with (at_builtin; refine wpList_appY wb _ rfl _ _ rfl A _ c o rfl rfl hoay _ _ y rfl sly hly fby ?_; intro A7 c7 w7 ho7 f7)
          go_roundg (l.length - (k + 1))
          case measure => omega
          case rel => exact ⟨k + 1, A7, c7, o ++ [y], true, by simp, rfl, by omega, by first | rfl | simp, rfl, ho7, by simp only [List.length_append, List.length_cons, List.length_nil]; omega, by intro hdd; first | (cases hdd; done) | (simp only [List.length_append, List.length_cons, List.length_nil]; omega), by rw [HI.out, HD.out, List.append_assoc]; (rw [putW_true]; simp [putW, HC.out]), f7⟩
      · have HC := Lib.hid hc
        clear hc
        have C1 : ∀ w, Calls Tryz.prog 36 #[encI y, encI x] w (Gives w (.int .i64 (1))) := fun w => Gives.val (rcmp_any w y x) (by rw [HC.out])
        go_upto_region 6 with fail
        refine wp_region_fr (by kernel_rfl) (by kernel_rfl) ?_
        iterate 5
          refine wpQ_take (v := ?_) (by rfl) (fun wS hS => ?_) ?_
          rotate_left
          · obtain ⟨L1, L2, L3, L4, L5, L6⟩ := Fr.same hS; go_simp; try with_reducible rfl
          try simp only [List.getElem_toArray, List.getElem_cons_zero, List.getElem_cons_succ, Act.put, List.setIfInBounds_toArray, List.set_cons_zero, List.set_cons_succ]
        refine wpQ_call (by rfl) (fun wS hS => ⟨_, _, ?qh322, Calls.fr hS (C1 _)⟩) ?qk322
        case qh322 => obtain ⟨L1, L2, L3, L4, L5, L6⟩ := Fr.same hS; go_simp; try with_reducible rfl
        try simp only [List.getElem_toArray, List.getElem_cons_zero, List.getElem_cons_succ, Act.put, List.setIfInBounds_toArray, List.set_cons_zero, List.set_cons_succ]
        refine wpQ_take (v := ?_) (by rfl) (fun wS hS => ?_) ?_
        rotate_left
        · obtain ⟨L1, L2, L3, L4, L5, L6⟩ := Fr.same hS; go_simp; try with_reducible rfl
        try simp only [List.getElem_toArray, List.getElem_cons_zero, List.getElem_cons_succ, Act.put, List.setIfInBounds_toArray, List.set_cons_zero, List.set_cons_succ]
        refine wpQ_nil ?_
        intro w1 f1
        have fu : Fr noB wb w1 := hf.step0 f1
        have hou : OwnR wb w1 A c o := own_fr ho f1 (fun _ _ => by simp [noB])
        have by1 := rdI_fr ry (rdI_lt ry) f1 (by simp [noB])
        have bx1 := rdI_fr b2 (rdI_lt b2) f1 (by simp [noB])
        clear C1 f1
        cases d with
        | true =>
          have sly := sl_newR w1 [y]
          have fay : Fr noB w1 (World.alloc w1 (rowr [y])) := (Fr.refl noB w1).alloc _
          have fby := Fr.step0 fu fay
          have hoay : OwnR wb (World.alloc w1 (rowr [y])) A c o := own_fr hou fay (fun _ _ => by simp [noB])
          have hly : (o).length ≤ 100000000001 := by (try simp only [List.length_append, List.length_cons, List.length_nil]); omega
          go_wp2_with (at_builtin; refine wpList_appY wb _ rfl _ _ rfl A _ c o rfl rfl hoay _ _ y rfl sly hly fby ?_; intro A7 c7 w7 ho7 f7)
          go_roundg (l.length - (k + 1))
          case measure => omega
          case rel => exact ⟨k + 1, A7, c7, o ++ [y], true, by simp, rfl, by omega, by first | rfl | simp, rfl, ho7, by simp only [List.length_append, List.length_cons, List.length_nil]; omega, by intro hdd; first | (cases hdd; done) | (simp only [List.length_append, List.length_cons, List.length_nil]; omega), by rw [HI.out, HD.out, List.append_assoc]; (rw [putW_true, putW_true]; rfl), f7⟩
        | false =>
          replace hol2 := hol2 rfl
          have slx := sl_newR w1 [x]
          have fax : Fr noB w1 (World.alloc w1 (rowr [x])) := (Fr.refl noB w1).alloc _
          have fbx := Fr.step0 fu fax
          have hoax : OwnR wb (World.alloc w1 (rowr [x])) A c o := own_fr hou fax (fun _ _ => by simp [noB])
          have hlx : (o).length ≤ 100000000001 := by (try simp only [List.length_append, List.length_cons, List.length_nil]); omega
          go_wp2_with (first
            | (at_builtin; refine wpList_appY wb _ rfl _ _ rfl A _ c o rfl rfl hoax _ _ x rfl slx hlx fbx ?_; intro A6 c6 w6 ho6 f6; have ry6 := rdI_fr ry0 (rdI_lt ry0) f6 (by simp [noB]); clear by1; have sly := sl_newR w6 [y]; have fay : Fr noB w6 (World.alloc w6 (rowr [y])) := (Fr.refl noB w6).alloc _; have fby := Fr.step0 f6 fay; have hoay : OwnR wb (World.alloc w6 (rowr [y])) A6 c6 (o ++ [x]) := own_fr ho6 fay (fun _ _ => by simp [noB]); have hly : (o ++ [x]).length ≤ 100000000001 := by (try simp only [List.length_append, List.length_cons, List.length_nil]); omega)
            | (at_builtin; refine wpList_appY wb _ rfl _ _ rfl A6 _ c6 (o ++ [x]) rfl (by first | rfl | simp) hoay _ _ y rfl sly hly fby ?_; intro A7 c7 w7 ho7 f7))
          go_roundg (l.length - (k + 1))
          case measure => omega
          case rel => exact ⟨k + 1, A7, c7, o ++ [x] ++ [y], true, by simp, rfl, by omega, by first | rfl | simp, rfl, ho7, by simp only [List.length_append, List.length_cons, List.length_nil]; omega, (by intro hdd; cases hdd), by rw [HI.out, HD.out, putW_true]; simp [putW, HC.out], f7⟩
    · have ek : k = l.length := by omega
      subst ek
      have hdr : l.drop l.length = [] := List.drop_length ..
      have HD := Lib.hid hdr
      clear hdr
      have i1 : ¬ (l.length : Int) < (l.length : Int) := by omega
      cases d with
      | true =>
        go_wp2_with fail
        go_ret
        have e : r = o := by rw [← HRR.out, HI.out, HD.out]; simp [putW]
        rw [e]
        exact ⟨A, c, rfl, Sl.own ho, f0.step0 hf⟩
      | false =>
        have slx := sl_newR wr [x]
        have fax : Fr noB wr (World.alloc wr (rowr [x])) := (Fr.refl noB wr).alloc _
        have fbx := Fr.step0 hf fax
        have hoax : OwnR wb (World.alloc wr (rowr [x])) A c o := own_fr ho fax (fun _ _ => by simp [noB])
        have hlx : (o).length ≤ 100000000001 := by (try simp only [List.length_append, List.length_cons, List.length_nil]); omega
        have rx10 := rdI_fr b2 (rdI_lt b2) fax (by simp [noB])
        go_wp2_with (at_builtin; refine wpList_appY wb _ rfl _ _ rfl A _ c o rfl rfl hoax _ _ x rfl slx hlx fbx ?_; intro A7 c7 w7 ho7 f7)
        go_ret
        have e : r = o ++ [x] := by rw [← HRR.out, HI.out, HD.out]; simp [putW]
        rw [e]
        exact ⟨A7, c7, by first | rfl | simp, Sl.own ho7, f0.step0 f7⟩
end Go.Proofs.YtejkfekpgbmdiaaGreat
namespace Go.Proofs.YtejkfekpgbmdiaaGreat
open Go.RowKit
set_option linter.unusedVariables false
set_option linter.unusedSimpArgs false

theorem rdDr_ok {l : List UInt8} {xs : List It} (h : rdDr l = some xs) : rightDr xs = true := by
  unfold rdDr at h
  dsimp only at h
  split at h
  · rename_i hh
    injection h with h
    rw [← h]; exact hh.2
  · cases h
theorem rdCh_ok {l : List UInt8} {c : Chg} (h : rdCh l = some c) : rightCh c = true := by
  unfold rdCh at h
  dsimp only at h
  split at h
  · rename_i hh
    injection h with h
    rw [← h]; exact hh.2
  · cases h
theorem flat_le {α β : Type} (f : α → List β) (m : Nat) : ∀ (l : List α), (∀ x ∈ l, (f x).length ≤ m) → (l.flatMap f).length ≤ l.length * m
  | [], _ => by simp
  | x :: l, h => by
    have h1 := flat_le f m l (fun y hy => h y (by simp [hy]))
    have h2 := h x (by simp)
    simp only [List.flatMap_cons, List.length_append, List.length_cons, Nat.add_mul]
    omega
def drL (l : List UInt8) : List It := (rdDr l).getD []
theorem drL_ok (l : List UInt8) : (drL l).length ≤ 1000 ∧ ∀ x ∈ drL l, x.Heads.length ≤ 1000 := by
  unfold drL
  cases h : rdDr l with
  | none => simp
  | some xs =>
    have hr := rdDr_ok h
    unfold rightDr at hr
    simp only [Bool.and_eq_true, decide_eq_true_eq, List.all_eq_true] at hr
    refine ⟨hr.1.1, fun x hx => ?_⟩
    have h2 := hr.1.2 x hx
    unfold rightIt at h2
    simp only [Bool.and_eq_true, decide_eq_true_eq] at h2
    exact h2.1.1.2
/-- what is put, in the order of putting -/
def chL (l : List UInt8) : List ID := match rdCh l with | some c => [c.Tree] ++ c.Parents ++ c.Ops.map (·.Data) | none => []
def lbL (l : List UInt8) : List ID := match rdLb l with | some x => [x.Target] | none => []
theorem all_link (l : List UInt8) (x : ID) : x ∈ (drL l).flatMap lkI ++ chL l ++ lbL l ↔ x ∈ linkL l := by
  unfold drL chL lbL linkL
  cases h2 : rdDr l with
  | some xs =>
    have h0 := h2
    rw [rdDr_eq] at h0
    obtain ⟨t, ht⟩ := whole_head Ext.dr h0
    rw [ch_none ht (by decide), lb_none ht (by decide)]
    simp only [Option.getD_some, List.append_nil]
    rfl
  | none =>
    cases h3 : rdCh l with
    | some c =>
      have h0 := h3
      rw [rdCh_eq] at h0
      obtain ⟨t, ht⟩ := whole_head Ext.ch h0
      rw [lb_none ht (by decide)]
      simp only [Option.getD_none, List.flatMap_nil, List.nil_append, List.append_nil, List.mem_append]
      constructor
      · rintro ((h | h) | h) <;> simp [h]
      · rintro ((h | h) | h) <;> simp [h]
    | none =>
      cases rdLb l <;> simp
def SkR (W : World) (n : Nat) (pre : Nat → List ID) (gk : Nat) (ov iv : Value) (wr : World) : Prop :=
  ∃ (k : Nat) (A : Option Addr) (c : Nat) (L : List ID), ov = .slice A L.length c ∧ iv = .int .i64 (k : Int) ∧ gk = n - k ∧ k ≤ n ∧ Sl wr A (idc L) ∧ LkQ L (pre k) ∧ Fr noB W wr
set_option maxRecDepth 100000 in
set_option maxHeartbeats 4000000 in
theorem r4links_any (w : World) (A : Option Addr) (c n : Nat) (l : List UInt8) (hn : l.length = n) (hs : Sl w A (bv l)) (hcap : l.length ≤ c) (hlb : l.length ≤ 140737488355328) : Calls Tryz.prog 22 #[.slice A n c] w (SetTo w (linksO l)) := by
  obtain ⟨d1, d2⟩ := drL_ok l
  have f0 : Fr noB w (w.alloc (.cells #[] 44)) := (Fr.refl noB w).alloc _
  have HN := Lib.hid hn
  have HD2 := Lib.hid d2
  have HC := Lib.hid hcap
  have HB := Lib.hid hlb
  have hs0 := hs.fr0 f0
  clear hn d2 hcap hlb
  go_enter Tryz.func22, Tryz.ntmps22
  go_upto_region 3 with (go_at_call 32; refine (r4dr_any _ A c n l HN.out hs0 HC.out HB.out).mono ?_; rintro e w1 ⟨A1, c1, rs, rfl, f1, hrow, hits⟩)
  have hrow := Sl.own hrow
  have hits := hits.its
  replace hits : ItsIn w1 rs (drL l) := hits
  replace hs := hs0.fr0 f1
  replace f0 := f0.step0 f1
  have hLN := hits.len
  generalize hxs : drL l = xs at hits d1 HD2 hLN
  have HXS := Lib.hid hxs
  have HLN := Lib.hid hLN
  have bp : ∀ k, ((xs.take k).flatMap lkI).length ≤ 1001000 := fun k => by
    have h1 := flat_le lkI 1001 (xs.take k) (fun x hx => by
      have := HD2.out x (List.mem_of_mem_take hx)
      simp only [lkI, List.length_cons, List.length_map]; omega)
    have h2 : (xs.take k).length ≤ 1000 := by rw [List.length_take]; omega
    have h3 : (xs.take k).length * 1001 ≤ 1000 * 1001 := Nat.mul_le_mul_right _ h2
    omega
  have BP := Lib.hid bp
  have hrl : rs.length ≤ 1000 := by omega
  have hown0 : Sl w1 (some ⟨w.heap.size, 0, none⟩) (idc []) := Sl.nil _ _
  clear hxs hLN bp f1 hs0
  go_upto_region 4 with fail
  go_loopg [3, 6] rs.length (fun gk ov iv wr => SkR w1 rs.length (fun k => (xs.take k).flatMap lkI) gk ov iv wr)
  case atStart => exact ⟨0, _, _, [], rfl, rfl, by omega, by omega, hown0, by simpa using LkQ.nil, Fr.refl _ _⟩
  case round =>
    obtain ⟨k, A8, c8, L8, rfl, rfl, rfl, hk, sl8, hq8, hf8⟩ := hrel
    by_cases hlt : k < rs.length
    · have i1 : (k : Int) < (rs.length : Int) := by omega
      have i0 : (0 : Int) ≤ (k : Int) := by omega
      have hlt2 : k < xs.length := by have := HLN.out; omega
      obtain ⟨g, off, rfl, hgg⟩ := hrow.adC (by omega)
      have e1 : codT.rd wr g (off + k * 38) = some rs[k] := (hrow.fr0 hf8).rd k hlt
      have hin : ItIn w1 rs[k] xs[k] := hits.at_ k hlt hlt2
      have hh := HD2.out _ (List.getElem_mem hlt2)
      have ht := flatI_succ lkI xs k hlt2
      have hbk := BP.out (k + 1)
      have b8 := hq8.len
      simp only at b8
      generalize rs[k] = r at e1 hin
      generalize xs[k] = x at hin hh ht
      have es : x.Sub = r.Sub := by rw [hin.eq]; rfl
      have hHd := hin.len
      have hsl := hin.sl
      have hlk : lkI x = [r.Sub] ++ x.Heads.map (·.Data) := by unfold lkI; rw [es]; rfl
      generalize x.Heads = hd at hh hHd hsl hlk
      rw [ht, hlk] at hbk
      simp only [List.length_append, List.length_cons, List.length_nil, List.length_map] at hbk
      have b8' : L8.length ≤ 100000000000 := by omega
      obtain ⟨L9, hL9⟩ : ∃ L9, putS L8 r.Sub = L9 := ⟨_, rfl⟩
      have hq9 := hq8.put r.Sub
      rw [hL9] at hq9
      have HL9 := Lib.hid hL9
      have HQ9 := Lib.hid hq9
      have HT := Lib.hid ht
      have HLKX := Lib.hid hlk
      have HHD := Lib.hid hHd
      have HLT := Lib.hid hlt
      have HBK := Lib.hid hbk
      obtain ⟨p1, p2, p3, p4, p5⟩ := itAtO e1
      clear hL9 hq9 ht hlk hHd hlt hlt2 hbk hin es b8 e1 p1 p2 p3
      go_upto_region 7 with (go_at_call 57; refine (r4putid_any _ A8 c8 L8.length L8 rfl sl8 b8' r.Sub L9 HL9.out).mono ?_; rintro e w9 ⟨A9, c9, rfl, sl9, hf9⟩)
      rw [← HHD.out] at p5
      replace p5 := cell_fr0 p5 hf9
      replace hf8 := hf8.step0 hf9
      clear p4 sl8 hq8 hf9
      generalize r.A = RA at p5 hsl ⊢
      go_upto_region 8 with fail
      go_loopg [3, 7] hd.length (fun gk ov iv wr => SkR w9 hd.length (fun j => (xs.take k).flatMap lkI ++ [r.Sub] ++ (hd.take j).map (·.Data)) gk ov iv wr)
      case atStart => exact ⟨0, A9, c9, L9, rfl, rfl, by omega, by omega, sl9, by simpa using HQ9.out, Fr.refl _ _⟩
      case round =>
        obtain ⟨j, A20, c20, L20, rfl, rfl, rfl, hj, sl20, hq20, hf20⟩ := hrel
        have p6 := cell_fr0 p5 hf20
        by_cases hjl : j < hd.length
        · have i2 : (j : Int) < (hd.length : Int) := by omega
          have i3 : (0 : Int) ≤ (j : Int) := by omega
          obtain ⟨g2, off2, rfl, hgg2⟩ := hsl.adC (by omega)
          have e2 : codH.rd wr g2 (off2 + j * 34) = some hd[j] := ((hsl.fr0 hf8).fr0 hf20).rd j hjl
          have ht2 : (hd.take (j + 1)).map (·.Data) = (hd.take j).map (·.Data) ++ [hd[j].Data] := by rw [List.take_succ_eq_append_getElem hjl, List.map_append]; rfl
          have e3 : rdI wr g2 (off2 + j * 34 + 2) = some (hd[j]).Data := Cod.rdI_part e2 2 (fun j' v hv => by
            show (csH hd[j])[2 + j']? = some v
            rw [Nat.add_comm]
            simpa [csH] using hv)
          have b20 : L20.length ≤ 100000000000 := by
            have h1 := hq20.len
            have h2 := HBK.out
            simp only [List.length_append, List.length_cons, List.length_nil, List.length_map, List.length_take] at h1
            omega
          generalize hd[j].Data = q at e3 ht2
          obtain ⟨L21, hL21⟩ : ∃ L9, putS L20 q = L9 := ⟨_, rfl⟩
          have hq21 := hq20.put q
          rw [hL21] at hq21
          have HL21 := Lib.hid hL21
          have HQ21 := Lib.hid hq21
          have HT2 := Lib.hid ht2
          have HJL := Lib.hid hjl
          clear hL21 hq21 ht2 hjl e2 hq20
          go_wp2_with (go_at_call 57; refine (r4putid_any _ A20 c20 L20.length L20 rfl sl20 b20 q L21 HL21.out).mono ?_; rintro e w21 ⟨A21, c21, rfl, sl21, hf21⟩)
          have hjl := HJL.out
          go_roundg (hd.length - (j + 1))
          case measure => omega
          case rel => exact ⟨j + 1, A21, c21, L21, rfl, by simp, rfl, by omega, sl21, by simp only; rw [HT2.out, ← List.append_assoc]; exact HQ21.out, hf20.step0 hf21⟩
        · have hjn : j = hd.length := by omega
          subst hjn
          have i2 : ¬ (hd.length : Int) < (hd.length : Int) := by omega
          simp only at hq20
          rw [List.take_length] at hq20
          have HF := Lib.hid (show LkQ L20 ((xs.take (k + 1)).flatMap lkI) by
            rw [HT.out, HLKX.out, ← List.append_assoc]; exact hq20)
          clear hjl hj hq20
          go_wp2_with fail
          have hlt := HLT.out
          go_roundg (rs.length - (k + 1))
          case measure => omega
          case rel => exact ⟨k + 1, A20, c20, L20, rfl, by simp, rfl, by omega, sl20, HF.out, hf8.step0 hf20⟩
    · have hkn : k = rs.length := by omega
      subst hkn
      have i1 : ¬ (rs.length : Int) < (rs.length : Int) := by omega
      have hq : LkQ L8 ((drL l).flatMap lkI) := by
        have h := hq8
        simp only at h
        rw [HLN.out, List.take_length] at h
        rw [HXS.out]; exact h
      have b8 : L8.length ≤ 1001000 := by
        have h1 := hq.len
        have h2 := BP.out xs.length
        rw [List.take_length] at h2
        rw [HXS.out] at h1
        omega
      have HQ := Lib.hid hq
      replace f0 := f0.step0 hf8
      replace hs := hs.fr0 hf8
      clear hq hq8 hlt hk hf8 hrow hits
      obtain ⟨och, hoch⟩ : ∃ o, o = rdCh l := ⟨_, rfl⟩
      have HOCH := Lib.hid hoch
      clear hoch
      go_upto_region 12 with (go_at_call 33; refine (r4ch_any _ A c n l HN.out hs HC.out HB.out).mono ?_; rintro e w2 ⟨r, qs, rfl, fz, hz1, hz2⟩; rw [← HOCH.out] at hz1 hz2 ⊢)
      have fa : Fr noB w2 (w2.alloc (codC.o r)) := (Fr.refl noB w2).alloc _
      have q1 := Cod.rd_new' (C := codC) w2 r
      replace f0 := (f0.step0 fz).step0 fa
      replace hs := (hs.fr0 fz).fr0 fa
      replace sl8 := (sl8.fr0 fz).fr0 fa
      have hz3 : ∀ c0, och = some c0 → CgIn (w2.alloc (codC.o r)) r qs c0 := fun c0 h => (hz2 c0 h).1.fr fa
      clear hz1 hz2 fz fa
      generalize w2.alloc (codC.o r) = W2 at q1 f0 hs sl8 hz3 ⊢
      generalize w2.heap.size = N at q1 ⊢
      cases och with
      | none =>
        have hQ : LkQ L8 ((drL l).flatMap lkI ++ chL l) := by
          have e : chL l = [] := by unfold chL; rw [← HOCH.out]
          rw [e, List.append_nil]; exact HQ.out
        have HQC := Lib.hid hQ
        have b8' : L8.length ≤ 100000000000 := by omega
        clear hQ HQ hz3
        go_upto_region 22 with fail
        clear q1
        obtain ⟨olb, holb⟩ : ∃ o, o = rdLb l := ⟨_, rfl⟩
        have HOLB := Lib.hid holb
        clear holb
        go_upto_region 23 with (go_at_call 34; refine (r4lb_any _ A c n l HN.out hs HC.out HB.out).mono ?_; rintro e w5 ⟨rfl, fz⟩; rw [← HOLB.out])
        have fa : Fr noB w5 (w5.alloc (codL.o (olb.getD zLbl))) := (Fr.refl noB w5).alloc _
        have q5 := Cod.rd_new' (C := codL) w5 (olb.getD zLbl)
        have fo := (f0.step0 fz).step0 fa
        have sl5 := (sl8.fr0 fz).fr0 fa
        clear fz fa
        generalize w5.alloc (codL.o (olb.getD zLbl)) = W5 at q5 fo sl5 ⊢
        generalize w5.heap.size = N5 at q5 ⊢
        cases olb with
        | none =>
          go_wp2_with fail
          go_ret
          have hL : LkQ L8 (linkL l) := by
            refine HQC.out.congr (fun x => ?_)
            rw [← all_link l x]
            have e : lbL l = [] := by unfold lbL; rw [← HOLB.out]
            rw [e, List.append_nil]
          have e2 : L8 = linksO l := hL.uniq linksQ
          rw [← e2]
          exact ⟨_, _, rfl, sl5, fo⟩
        | some lb =>
          have q6 := (lbAt q5).target
          simp only [Option.getD_some] at q6
          obtain ⟨L9, hL9⟩ : ∃ L9, putS L8 lb.Target = L9 := ⟨_, rfl⟩
          have hq9 := (HQC.out).put lb.Target
          rw [hL9] at hq9
          have HL9 := Lib.hid hL9
          have HQ9 := Lib.hid hq9
          clear hL9 hq9
          go_wp2_with (go_at_call 57; refine (r4putid_any _ _ _ _ L8 rfl sl5 b8' lb.Target L9 HL9.out).mono ?_; rintro e w9 ⟨A9, c9, rfl, sl9, hf9⟩)
          go_ret
          have hL : LkQ L9 (linkL l) := by
            refine HQ9.out.congr (fun x => ?_)
            rw [← all_link l x]
            have e : lbL l = [lb.Target] := by unfold lbL; rw [← HOLB.out]
            rw [e]
          have e2 : L9 = linksO l := hL.uniq linksQ
          rw [← e2]
          exact ⟨A9, c9, rfl, sl9, fo.step0 hf9⟩
      | some cg =>
        have hin := hz3 cg rfl
        have hrc := rdCh_ok (HOCH.out.symm)
        have hpl : cg.Parents.length ≤ 2 ∧ cg.Ops.length ≤ 64 := by
          unfold rightCh at hrc
          simp only [Bool.and_eq_true, decide_eq_true_eq] at hrc
          exact ⟨hrc.1.1.1.1.1.1.1.1.1, hrc.1.1.1.2⟩
        obtain ⟨hpl, hol⟩ := hpl
        obtain ⟨t1, t2, t3, t4, t5, hps, t6, hos, hop, hpb, hob, hmb⟩ := hin
        obtain ⟨a1, a2, a3, a4, a5, a6, a7⟩ := cgAt q1
        obtain ⟨L10, hL10⟩ : ∃ L9, putS L8 r.Tree = L9 := ⟨_, rfl⟩
        have hq10 := HQ.out.put r.Tree
        rw [hL10] at hq10
        have HL10 := Lib.hid hL10
        have HQ10 := Lib.hid hq10
        have T3 := Lib.hid t3
        have b8' : L8.length ≤ 100000000000 := by omega
        have hbD : ((drL l).flatMap lkI).length ≤ 1001000 := by
          have h2 := BP.out xs.length
          rw [List.take_length] at h2
          rw [HXS.out]; exact h2
        have HBD := Lib.hid hbD
        clear hL10 hq10 t1 t2 t3 t4 hrc hz3 hpb hob hmb a2 a3 a6 a7 hbD
        go_upto_region 14 with (go_at_call 57; refine (r4putid_any _ A8 c8 L8.length L8 rfl sl8 b8' r.Tree L10 HL10.out).mono ?_; rintro e w10 ⟨A10, c10, rfl, sl10, hf10⟩)
        replace f0 := f0.step0 hf10
        replace hs := hs.fr0 hf10
        replace a1 := cell_fr0 a1 hf10
        replace a4 := cell_fr0 a4 hf10
        replace hps := hps.fr0 hf10
        replace hos := hos.fr0 hf10
        replace hop := hop.fr hf10
        clear a5 sl8 hf10 q1
        rw [← t5] at a1
        rw [← t6] at a4
        have LOP := Lib.hid hop.len
        generalize r.PA = PA at a1 hps ⊢
        generalize r.OA = OA at a4 hos ⊢
        clear t5 t6
        go_upto_region 15 with fail
        go_loopg [3, 10] cg.Parents.length (fun gk ov iv wr => SkR w10 cg.Parents.length (fun k => (drL l).flatMap lkI ++ [r.Tree] ++ cg.Parents.take k) gk ov iv wr)
        case atStart => exact ⟨0, _, _, L10, rfl, rfl, by omega, by omega, sl10, by simpa using HQ10.out, Fr.refl _ _⟩
        case round =>
          obtain ⟨k, A11, c11, L11, rfl, rfl, rfl, hk, sl11, hq11, hf11⟩ := hrel
          have a1 := cell_fr0 a1 hf11
          by_cases hlt : k < cg.Parents.length
          · have i1 : (k : Int) < (cg.Parents.length : Int) := by omega
            have i0 : (0 : Int) ≤ (k : Int) := by omega
            obtain ⟨g, off, rfl⟩ := hps.ad (by omega)
            have e1 := (hps.fr0 hf11).id k hlt
            have ht : cg.Parents.take (k + 1) = cg.Parents.take k ++ [cg.Parents[k]] := List.take_succ_eq_append_getElem hlt
            have b11 : L11.length ≤ 100000000000 := by
              have h1 := hq11.len
              have h2 := HBD.out
              simp only [List.length_append, List.length_cons, List.length_nil, List.length_take] at h1
              omega
            generalize cg.Parents[k] = q at e1 ht
            obtain ⟨L12, hL12⟩ : ∃ L9, putS L11 q = L9 := ⟨_, rfl⟩
            have hq12 := hq11.put q
            rw [hL12] at hq12
            have HL12 := Lib.hid hL12
            have HQ12 := Lib.hid hq12
            have HT := Lib.hid ht
            have HLT := Lib.hid hlt
            clear hL12 hq12 ht hlt hq11
            go_wp2_with (go_at_call 57; refine (r4putid_any _ A11 c11 L11.length L11 rfl sl11 b11 q L12 HL12.out).mono ?_; rintro e w12 ⟨A12, c12, rfl, sl12, hf12⟩)
            have hlt := HLT.out
            go_roundg (cg.Parents.length - (k + 1))
            case measure => omega
            case rel => exact ⟨k + 1, A12, c12, L12, rfl, by simp, rfl, by omega, sl12, by simp only; rw [HT.out, ← List.append_assoc]; exact HQ12.out, hf11.step0 hf12⟩
          · have hkn : k = cg.Parents.length := by omega
            subst hkn
            have i1 : ¬ (cg.Parents.length : Int) < (cg.Parents.length : Int) := by omega
            simp only at hq11
            rw [List.take_length] at hq11
            have HQ11 := Lib.hid hq11
            replace f0 := f0.step0 hf11
            replace hs := hs.fr0 hf11
            replace a4 := cell_fr0 a4 hf11
            replace hos := hos.fr0 hf11
            replace hop := hop.fr hf11
            clear hq11 hlt hk hf11 hps
            go_upto_region 19 with fail
            clear a1
            obtain ⟨W3, hW3⟩ : ∃ wl, wl = wr := ⟨_, rfl⟩
            subst hW3
            go_loopg [3, 11] qs.length (fun gk ov iv wr' => SkR W3 qs.length (fun k => (drL l).flatMap lkI ++ [r.Tree] ++ cg.Parents ++ (cg.Ops.take k).map (·.Data)) gk ov iv wr')
            case atStart => exact ⟨0, _, _, L11, rfl, rfl, by omega, by omega, sl11, by simpa using HQ11.out, Fr.refl _ _⟩
            case round =>
              obtain ⟨k, A13, c13, L13, rfl, rfl, rfl, hk, sl13, hq13, hf13⟩ := hrel
              have a4 := cell_fr0 a4 hf13
              have LOPX := LOP.out
              by_cases hlt : k < qs.length
              · have i1 : (k : Int) < (qs.length : Int) := by omega
                have i0 : (0 : Int) ≤ (k : Int) := by omega
                have hlt2 : k < cg.Ops.length := by omega
                obtain ⟨g, off, rfl, hgg⟩ := hos.adC (by omega)
                have e1 : codO.rd wr g (off + k * 41) = some qs[k] := (hos.fr0 hf13).rd k hlt
                have hinO := hop.at_ k hlt hlt2
                have ht : (cg.Ops.take (k + 1)).map (·.Data) = (cg.Ops.take k).map (·.Data) ++ [cg.Ops[k].Data] := by rw [List.take_succ_eq_append_getElem hlt2, List.map_append]; rfl
                have ed : (cg.Ops[k]).Data = (qs[k]).Data := by rw [hinO.eq]; rfl
                have e3 : rdI wr g (off + k * 41 + 8) = some (cg.Ops[k]).Data := by
                  rw [ed]
                  exact Cod.rdI_part e1 8 (getApp (qs[k]).Data (opL qs[k]) _ 8 rfl)
                have b13 : L13.length ≤ 100000000000 := by
                  have h1 := hq13.len
                  have h2 := HBD.out
                  simp only [List.length_append, List.length_cons, List.length_nil, List.length_map, List.length_take] at h1
                  omega
                generalize (cg.Ops[k]).Data = q at e3 ht ed
                obtain ⟨L14, hL14⟩ : ∃ L9, putS L13 q = L9 := ⟨_, rfl⟩
                have hq14 := hq13.put q
                rw [hL14] at hq14
                have HL14 := Lib.hid hL14
                have HQ14 := Lib.hid hq14
                have HT := Lib.hid ht
                have HLT := Lib.hid hlt
                clear hL14 hq14 ht hlt hq13 ed e1 hinO hlt2
                go_wp2_with (go_at_call 57; refine (r4putid_any _ A13 c13 L13.length L13 rfl sl13 b13 q L14 HL14.out).mono ?_; rintro e w14 ⟨A14, c14, rfl, sl14, hf14⟩)
                have hlt := HLT.out
                go_roundg (qs.length - (k + 1))
                case measure => omega
                case rel => exact ⟨k + 1, A14, c14, L14, rfl, by simp, rfl, by omega, sl14, by simp only; rw [HT.out, ← List.append_assoc]; exact HQ14.out, hf13.step0 hf14⟩
              · have hkn : k = qs.length := by omega
                subst hkn
                have i1 : ¬ (qs.length : Int) < (qs.length : Int) := by omega
                simp only at hq13
                rw [LOPX, List.take_length] at hq13
                have hQ : LkQ L13 ((drL l).flatMap lkI ++ chL l) := by
                  have e : chL l = [cg.Tree] ++ cg.Parents ++ cg.Ops.map (·.Data) := by unfold chL; rw [← HOCH.out]
                  rw [e, T3.out, ← List.append_assoc, ← List.append_assoc]; exact hq13
                have HQC := Lib.hid hQ
                have b13 : L13.length ≤ 100000000000 := by
                  have h1 := hq13.len
                  have h2 := HBD.out
                  simp only [List.length_append, List.length_cons, List.length_nil, List.length_map] at h1
                  omega
                replace f0 := f0.step0 hf13
                replace hs := hs.fr0 hf13
                clear hq13 hQ hlt hk hf13 hop hos LOPX
                go_upto_region 22 with fail
                clear a4
                obtain ⟨olb, holb⟩ : ∃ o, o = rdLb l := ⟨_, rfl⟩
                have HOLB := Lib.hid holb
                clear holb
                go_upto_region 23 with (go_at_call 34; refine (r4lb_any _ A c n l HN.out hs HC.out HB.out).mono ?_; rintro e w5 ⟨rfl, fz⟩; rw [← HOLB.out])
                have fa : Fr noB w5 (w5.alloc (codL.o (olb.getD zLbl))) := (Fr.refl noB w5).alloc _
                have q5 := Cod.rd_new' (C := codL) w5 (olb.getD zLbl)
                have fo := (f0.step0 fz).step0 fa
                have sl5 := (sl13.fr0 fz).fr0 fa
                clear fz fa
                generalize w5.alloc (codL.o (olb.getD zLbl)) = W5 at q5 fo sl5 ⊢
                generalize w5.heap.size = N5 at q5 ⊢
                cases olb with
                | none =>
                  go_wp2_with fail
                  go_ret
                  have hL : LkQ L13 (linkL l) := by
                    refine HQC.out.congr (fun x => ?_)
                    rw [← all_link l x]
                    have e : lbL l = [] := by unfold lbL; rw [← HOLB.out]
                    rw [e, List.append_nil]
                  have e2 : L13 = linksO l := hL.uniq linksQ
                  rw [← e2]
                  exact ⟨_, _, rfl, sl5, fo⟩
                | some lb =>
                  have q6 := (lbAt q5).target
                  simp only [Option.getD_some] at q6
                  obtain ⟨L9, hL9⟩ : ∃ L9, putS L13 lb.Target = L9 := ⟨_, rfl⟩
                  have hq9 := (HQC.out).put lb.Target
                  rw [hL9] at hq9
                  have HL9 := Lib.hid hL9
                  have HQ9 := Lib.hid hq9
                  clear hL9 hq9
                  go_wp2_with (go_at_call 57; refine (r4putid_any _ _ _ _ L13 rfl sl5 b13 lb.Target L9 HL9.out).mono ?_; rintro e w9 ⟨A9, c9, rfl, sl9, hf9⟩)
                  go_ret
                  have hL : LkQ L9 (linkL l) := by
                    refine HQ9.out.congr (fun x => ?_)
                    rw [← all_link l x]
                    have e : lbL l = [lb.Target] := by unfold lbL; rw [← HOLB.out]
                    rw [e]
                  have e2 : L9 = linksO l := hL.uniq linksQ
                  rw [← e2]
                  exact ⟨A9, c9, rfl, sl9, fo.step0 hf9⟩
end Go.Proofs.YtejkfekpgbmdiaaGreat
