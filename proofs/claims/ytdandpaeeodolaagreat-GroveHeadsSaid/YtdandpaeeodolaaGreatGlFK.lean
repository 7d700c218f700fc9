/- Contract: pollardlaw12.few. (ex_ldO_at) -/
import Derived.Test.YtdandpaeeodolaaGreatGlHK
import Derived.Test.YtdandpaeeodolaaGreatGlSK
namespace Go.Proofs.YtdandpaeeodolaaGreat
open Go.RowKit Go.Sort
set_option linter.unusedVariables false
set_option linter.unusedSimpArgs false
attribute [local go_sem] Oper.semAt_some

def FewTo (W w : World) (e : Ending) (w' : World) : Prop :=
  ∃ (A : Option Addr) (c : Nat) (os : List OpW) (ys : List Opn), e = .returned (.slice A os.length c) ∧ OwnC codO w w' A c os ∧ AllO OpIn W os ys ∧ (∀ o ∈ ys, goodOp o = true) ∧ os.length ≤ 40 ∧ Fr noB w w'
def FewLoop (W w : World) (N : Nat) (gk : Nat) (iv ov : Value) (wr : World) : Prop :=
  ∃ (k : Nat) (A : Option Addr) (c : Nat) (os : List OpW) (ys : List Opn), iv = .int .i64 (k : Int) ∧ ov = .slice A os.length c ∧ gk = N - k ∧ k ≤ N ∧ OwnC codO w wr A c os ∧ AllO OpIn W os ys ∧ (∀ o ∈ ys, goodOp o = true) ∧ os.length ≤ 40 ∧ Fr noB w wr
set_option maxRecDepth 100000 in
set_option maxHeartbeats 4000000 in
theorem l12few_any (W w : World) (hW : Fr noB W w) (A : Option Addr) (c n : Nat) (rs : List OpW) (xs : List Opn) (hn : rs.length = n) (hs : Sl w A (codO.row rs)) (hb : rs.length ≤ 140737488355328) (hX : AllO OpIn W rs xs) :
    Calls Tryz.prog 10 #[.slice A n c] w (FewTo W w) := by
  subst hn
  have HX := Lib.hid hX
  have hsl := Lib.hid hs
  have HB := Lib.hid hb
  have fa : Fr noB w (w.alloc (Obj.cells #[] 33)) := (Fr.refl noB w).alloc _
  have h0 : FewLoop W w rs.length rs.length (.int .i64 ((0 : Nat) : Int)) (.slice (some ⟨w.heap.size, 0, none⟩) 0 0) (w.alloc (Obj.cells #[] 33)) := by
    refine ⟨0, some ⟨w.heap.size, 0, none⟩, 0, [], [], rfl, rfl, rfl, Nat.zero_le _, ?_, AllO.nil, by simp, by simp, fa⟩
    exact World.ownsRow_lit (base := w.heap.size) (e := 33) (size := 41) w #[] 0 (Nat.le_refl _) (by unfold maxLen; omega) (by simp)
  clear hX hs hb fa
  go_enter Tryz.func10, Tryz.ntmps10
  go_upto_region 2 with fail
  generalize w.alloc (Obj.cells #[] 33) = W0 at h0 ⊢
  generalize some (⟨w.heap.size, 0, none⟩ : Addr) = A0 at h0 ⊢
  go_wp2_with fail
  go_loopg [9, 3] rs.length (fun gk iv ov wr => FewLoop W w rs.length gk iv ov wr)
  case atStart => exact h0
  case round =>
    clear h0
    obtain ⟨k, A1, c1, os, ys, rfl, rfl, rfl, hk, ho, hy, hg, hl, hf⟩ := hrel
    have HY := Lib.hid hy
    have HG := Lib.hid hg
    have HL := Lib.hid hl
    have HK := Lib.hid hk
    by_cases hlt : k < rs.length
    · have j0 : (0 : Int) ≤ (k : Int) := by omega
      have j1 : (k : Int) < (rs.length : Int) := by omega
      have hs0 := hsl.out
      obtain ⟨g, off, rfl, hgg⟩ := hs0.adC (by omega)
      have e0 : codO.rd w g (off + k * 41) = some rs[k] := hs0.rd k hlt
      have e1 := Cod.rd_fr0 e0 hf
      have hlx : k < xs.length := by rw [← HX.out.1]; exact hlt
      have hin := HX.out.2 k hlt hlx
      have HLT := Lib.hid hlt
      generalize rs[k] = r at e0 e1 hin
      generalize xs[k] = x at hin
      have HIN := Lib.hid hin
      have ho' := Lib.hid ho
      clear hy hg hk hlt e0 hs0 hgg hin ho
      go_upto_region 5 with fail
      have f12 : Fr noB wr (wr.alloc (codO.o r)) := (Fr.refl noB wr).alloc _
      have q12 := Cod.rd_new' (C := codO) wr r
      obtain ⟨D2, hD2⟩ : ∃ x, x = wr.heap.size := ⟨_, rfl⟩
      rw [← hD2] at q12 ⊢
      have o12 := own_new0 ho'.out f12
      have F12 := hf.step0 f12
      clear hD2 e1 ho' f12
      generalize wr.alloc (codO.o r) = W12 at q12 o12 F12 ⊢
      by_cases h40 : os.length < 40
      · have i40 : (os.length : Int) < 40 := by omega
        have H40 := Lib.hid h40
        clear h40 hl
        cases hgd : goodOp x with
        | true =>
          have HGD := Lib.hid hgd
          go_upto_region 6 with (go_at_call 23; go_loud (refine (r3good_any W12 r x ((HIN.out.fr hW).fr F12)).mono ?_; rintro e w4 ⟨rfl, f4⟩; rw [HGD.out]; have q4 := Cod.rd_fr0 q12 f4; have o4 := own_new0 o12 f4; have F4 := F12.step0 f4; clear q12 o12))
          have sl := Cod.sl_new (C := codO) w4 [r]
          have fn : Fr noB w4 (w4.alloc (codO.ro [r])) := (Fr.refl noB w4).alloc _
          have o5 := own_new0 o4 fn
          have F5 := F4.step0 fn
          clear o4 F4 fn hgd
          go_wp2_with (at_builtin; refine wpList_appC' etO w _ rfl _ _ rfl A1 os.length c1 os rfl rfl o5 (some ⟨w4.heap.size, 0, none⟩) 1 1 [r] rfl sl rfl (by have := H40.out; simp; omega) F5.size ?_; intro A7 c7 w7 hc7 hm7 o7 g7 hA7)
          go_roundg (rs.length - (k + 1))
          case measure => have := HLT.out; omega
          case rel => exact ⟨k + 1, A7, c7, os ++ [r], ys ++ [x], congrArg (Value.int .i64) (IntWalk.wrap64_in _ (by have := HB.out; have := HLT.out; omega)), by simp, rfl, HLT.out, o7, HY.out.snoc HIN.out, fun o ho => by
            rcases List.mem_append.1 ho with h | h
            · exact HG.out o h
            · rw [List.mem_singleton] at h; subst h; exact HGD.out, by have := H40.out; simp; omega, gv_own F5 o5 g7⟩
        | false =>
          have HGD := Lib.hid hgd
          clear hgd
          go_wp2_with (go_at_call 23; refine (r3good_any W12 r x ((HIN.out.fr hW).fr F12)).mono ?_; rintro e w4 ⟨rfl, f4⟩; rw [HGD.out]; have o4 := own_new0 o12 f4; have F4 := F12.step0 f4; clear o12)
          go_roundg (rs.length - (k + 1))
          case measure => have := HLT.out; omega
          case rel => exact ⟨k + 1, A1, c1, os, ys, congrArg (Value.int .i64) (IntWalk.wrap64_in _ (by have := HB.out; have := HLT.out; omega)), rfl, rfl, HLT.out, o4, HY.out, HG.out, HL.out, F4⟩
      · have i40 : ¬ (os.length : Int) < 40 := by omega
        clear h40 hl
        go_wp2_with fail
        go_roundg (rs.length - (k + 1))
        case measure => have := HLT.out; omega
        case rel => exact ⟨k + 1, A1, c1, os, ys, congrArg (Value.int .i64) (IntWalk.wrap64_in _ (by have := HB.out; have := HLT.out; omega)), rfl, rfl, HLT.out, o12, HY.out, HG.out, HL.out, F12⟩
    · have j1 : ¬ (k : Int) < (rs.length : Int) := by omega
      clear hk hlt hy hg hl
      go_wp2_with fail
      go_ret
      exact ⟨A1, c1, os, ys, rfl, ho, HY.out, HG.out, HL.out, hf⟩
/-- what lies in cells of other types is no part of a tree -/
theorem GvS.offC {base : Nat} {w : World} {b : Nat} {t : TrW} {L : List Opn} (h : GvS base w b t L) {g : Nat} {cur : Array Value} {e : TypeId} {z : Nat × Nat} (hg : w.heap[g]? = some (.cells cur e z)) (h1 : e ≠ 63) (h2 : e ≠ 68) : ¬ trM b t g := by
  rintro (rfl | rfl | h3)
  · have hh : w.heap[g]? = some (.cells (trL t).toArray 63 (0, 0)) := h.tr
    rw [hh] at hg
    injection hg with hg
    injection hg with _ hg _
    exact h1 hg.symm
  · obtain ⟨_, hm, _⟩ := h.rows
    obtain ⟨es, c, h4⟩ := mpT_blk hm
    rw [h4] at hg; cases hg
  · obtain ⟨ds, _, hd, _⟩ := h.log
    obtain ⟨_, cur', z', h4⟩ := own_blk hd h3
    rw [h4] at hg
    injection hg with hg
    injection hg with _ hg _
    exact h2 hg.symm
/-- a row of other cells stays where the tree is turned -/
theorem GvS.own {base base' : Nat} {w w' : World} {b : Nat} {t : TrW} {L : List Opn} (h : GvS base w b t L) (f : Fr (trM b t) w w') {e : TypeId} {size n c : Nat} {A : Option Addr} {xs : List Value} (ho : w.ownsRow base' e size (.slice A n c) n xs) (h1 : e ≠ 63) (h2 : e ≠ 68) : w'.ownsRow base' e size (.slice A n c) n xs :=
  own_fr ho f (fun g hg hm => by
    rw [ownBlock_sl'] at hg
    obtain ⟨_, cur, z, h4⟩ := own_blk ho hg
    exact h.offC h4 h1 h2 hm)
theorem goodOp_over {o : Opn} (h : goodOp o = true) : o.Over.length ≤ 64 := by
  obtain ⟨_, _, hk | hk⟩ := goodOp_at h
  · rw [(goodOp_move h hk).2.2.2]; simp
  · unfold goodOp at h
    simp only [Bool.and_eq_true] at h
    have := h.2
    rw [if_neg (by omega), if_pos hk] at this
    unfold editOk at this
    simp only [Bool.and_eq_true, decide_eq_true_eq] at this
    omega
/-- where no operation takes the place of another one, stamps may be turned -/
theorem GvS.frH {base : Nat} {w w' : World} {b : Nat} {t : TrW} {L : List Opn} (h : GvS base w b t L) {M : Nat → Prop} (f : Fr M w w') (hs : ∀ g, M g → ∀ cs z, w.heap[g]? ≠ some (.cells cs 45 z)) (hv : ∀ o ∈ L, o.Over = []) (hM : ∀ g, M g → ¬ trM b t g) : GvS base w' b t L := by
  have k : ∀ (r : RwW) (x : RwP), RwO w r x → RwO w' r x := fun r x h => by
    have ho := own_hs h.own f (fun b hb cs z => hs b hb cs z)
    exact ⟨h.inn.own_ ho, ho⟩
  obtain ⟨rs, r1, r2⟩ := h.rows
  obtain ⟨ds, d1, d2, d3⟩ := h.log
  refine ⟨h.tr.fr f (fun e => hM _ e (.inl rfl)), h.bb, h.mm, ⟨rs, mpT_fr r1 f (fun e => hM _ e (.inr (.inl rfl))), r2.map k⟩, ⟨ds, d1, own_fr d2 f (fun g hg hm => hM _ hm (.inr (.inr (by rw [ownBlock_sl'] at hg; exact hg)))), d3.1, fun i h1 h2 => ?_⟩, h.ok⟩
  have hd := d3.2 i h1 h2
  have hL : i < L.length := by rw [logX_len] at h2; exact h2
  have hov : ((logX [] L)[i]).op.Over = [] := by rw [logX_op [] L i hL]; exact hv _ (List.getElem_mem hL)
  exact ⟨⟨⟨hd.op.inn.eq, hd.op.inn.len, by rw [hov]; exact Sl.nil _ _, hd.op.inn.bd, hd.op.inn.nm⟩, .inl hov⟩, hd.tn, k _ _ hd.was, hd.was0⟩
/-- operations of a list are inserted one by one -/
def InsLoop (W : World) (b : Nat) (w2 : World) (A : Option Addr) (c : Nat) (os : List OpW) (gk : Nat) (iv : Value) (wr : World) : Prop :=
  ∃ (k : Nat) (t : TrW) (L : List Opn), iv = .int .i64 (k : Int) ∧ gk = os.length - k ∧ k ≤ os.length ∧ GvS W.heap.size wr b t L ∧ SrtL L ∧ L.length ≤ k ∧ OwnC codO w2 wr A c os ∧ Fr noB W wr
end Go.Proofs.YtdandpaeeodolaaGreat
