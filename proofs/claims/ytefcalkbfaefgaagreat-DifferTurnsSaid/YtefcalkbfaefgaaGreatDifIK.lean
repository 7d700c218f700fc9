/- Contract: snap.Right: rows are a tree. (ex_ldS_at, Fr.sameR) Contract: differ.maker.put. (ex_ldO_at) Contract: differ.maker.moves: the order of depths, the moves. (ex_ldS_at ex_bldOm_at, Fr.sameR) Contract: differ.maker.moves. (ex_ldS_at ex_bldOm_at, Fr.sameR) Contract: differ.maker.edits. (ex_ldS_at ex_bldOe_at, Fr.sameR) Contract: differ.Diff. -/
import Derived.Test.YtefcalkbfaefgaaGreatDifCK
import Derived.Test.YtefcalkbfaefgaaGreatStabZK
import Derived.Test.YtefcalkbfaefgaaGreatRdCK
namespace Go.Proofs.YtefcalkbfaefgaaGreat
open Go.RowKit
set_option linter.unusedVariables false
set_option linter.unusedSimpArgs false

def TrTo (w : World) (xs : List RwP) (e : Ending) (w' : World) : Prop := ∃ b : Bool, e = .returned (.bool b) ∧ Fr noB w w' ∧ (b = true ↔ TreeOk xs)
def NtA (w : World) (rs : List RwW) (xs : List RwP) (t : Nat) (gk : Nat) (iv : Value) (wr : World) : Prop :=
  ∃ k : Nat, iv = .int .i64 (k : Int) ∧ gk = rs.length - k ∧ k ≤ rs.length ∧ mpT wr t = some (parK (rs.take k)) ∧ (∀ i (h : i < xs.length), i < k → rightR xs[i] = true) ∧ PwT xs k ∧ Fr noB w wr
def NtB (w : World) (rs : List RwW) (xs : List RwP) (t t2 : Nat) (gk : Nat) (iv : Value) (wr : World) : Prop :=
  ∃ (k : Nat) (kv : List (St × Value)), iv = .int .i64 (k : Int) ∧ gk = rs.length - k ∧ k ≤ rs.length ∧ mpT wr t = some (parK rs) ∧ mpT wr t2 = some kv ∧ GoodK xs kv ∧ (∀ i (h : i < xs.length), i < k → ∃ m, reach xs m xs[i].Node = true) ∧ Fr noB w wr
def NtC (w : World) (rs : List RwW) (xs : List RwP) (t t2 : Nat) (kv : List (St × Value)) (s : St) (gk : Nat) (wv pv : Value) (wr : World) : Prop :=
  ∃ (P : Nat) (A : Option Addr) (c : Nat) (way : List St) (u : St), wv = .slice A way.length c ∧ pv = .pointer (some ⟨P, 0, none⟩) ∧ gk = rs.length + 1 - way.length ∧ way.length ≤ rs.length + 1 ∧ codS.bxd wr P = some u ∧ w.heap.size ≤ P ∧ wfS u = true ∧ OwnC codS w wr A c way ∧
    (∀ a, A = some a → a.block ≠ P) ∧ (∀ x ∈ way, wfS x = true) ∧ WayT xs s u way ∧ mpT wr t = some (parK rs) ∧ mpT wr t2 = some kv ∧ Fr noB w wr
def NtD (w : World) (rs : List RwW) (xs : List RwP) (t t2 : Nat) (A : Option Addr) (way : List St) (gk : Nat) (iv : Value) (wr : World) : Prop :=
  ∃ (j : Nat) (kv : List (St × Value)), iv = .int .i64 (j : Int) ∧ gk = way.length - j ∧ j ≤ way.length ∧ mpT wr t = some (parK rs) ∧ mpT wr t2 = some kv ∧ GoodK xs kv ∧ Sl wr A (codS.row way) ∧ Fr noB w wr
theorem nd_par {w : World} {rs : List RwW} {xs : List RwP} (h : RwsIn w rs xs) {k : Nat} (hk : k < rs.length) (hp : PwT xs (k + 1)) : ∀ x ∈ rs.take k, x.Node ≠ rs[k].Node := by
  intro x hx e
  obtain ⟨i, hi, rfl⟩ := List.getElem_of_mem hx
  rw [List.length_take] at hi
  rw [List.getElem_take] at e
  have hl := h.len
  have h1 := (h.at_ i (by omega) (by omega)).node
  have h2 := (h.at_ k hk (by omega)).node
  exact hp.ne (by omega) (show i < k by omega) (by rw [h1, h2]; exact e)
theorem not_right {xs : List RwP} {i : Nat} (h : i < xs.length) (hr : rightR xs[i] = false) : ¬ TreeOk xs := fun ht => by
  have := ht.ok _ (List.getElem_mem h)
  rw [hr] at this; cases this
theorem not_rise {xs : List RwP} {q k : Nat} (hk : k < xs.length) (hq : q + 1 = k) (hz : ¬ cmpS (xs[q]'(by omega)).Node xs[k].Node < 0) : ¬ TreeOk xs := fun ht => hz (ht.pw q k (by omega) hk hk)
theorem not_long {xs : List RwP} (h : ¬ xs.length ≤ 5000) : ¬ TreeOk xs := fun ht => h ht.len
theorem TrTo.no {w w' : World} {xs : List RwP} (h : ¬ TreeOk xs) (f : Fr noB w w') : TrTo w xs (.returned (.bool false)) w' := ⟨false, rfl, f, by simp [h]⟩
theorem mpT_put {w : World} {b : Nat} {y z : St} (hb : codS.bxd w b = some y) {r : Nat} {kv : List (St × Value)} (h : mpT w r = some kv) : mpT (codS.put w b z) r = some kv := by
  obtain ⟨p1, _, _⟩ := Cod.put_fr hb z
  have hh := Cod.bxd_at hb
  rw [Cod.o_eq] at hh
  refine mpT_fr h p1 fun e => ?_
  have e' : r = b := e
  exact mpT_ne h hh e'.symm
theorem Fr.own' {w0 w w' : World} {e : TypeId} {size n c : Nat} {A : Option Addr} {xs : List Value} (f : Fr noB w0 w) (h : w.ownsRow w0.heap.size e size (.slice A n c) n xs) (hg : w.grownBy w' (A.map (·.block))) : Fr noB w0 w' :=
  f.step (Fr.ofGrown (M := fun b => A.map (·.block) = some b) hg (fun g hg => hg)) (fun b hb => .inl (own_lt h b hb).1)
set_option maxRecDepth 100000 in
set_option maxHeartbeats 4000000 in
theorem ntree_any (w : World) (A : Option Addr) (c n : Nat) (rs : List RwW) (xs : List RwP) (hn : rs.length = n) (hs : Sl w A (codR.row rs)) (hb : rs.length ≤ 140737488355328) (h : RwsIn w rs xs) (hbd : ∀ x ∈ xs, x.Heads.length ≤ 2932031007402) :
    Calls Tryz.prog 23 #[.slice A n c] w (TrTo w xs) := by
  subst hn
  have hlen := Lib.hid h.len
  by_cases hl5 : rs.length ≤ 5000
  · have n5 : ¬ (5000 : Int) < (rs.length : Int) := by omega
    have f0 : Fr noB w (w.alloc (.map #[] 0)) := (Fr.refl noB w).alloc _
    have m0 := mpT_new w
    go_enter Tryz.func23, Tryz.ntmps23
    go_wp2_with fail
    generalize w.alloc (.map #[] 0) = W0 at f0 m0 ⊢
    obtain ⟨t, ht⟩ : ∃ t, t = w.heap.size := ⟨_, rfl⟩
    rw [← ht] at m0 ⊢
    have HT := Lib.hid ht
    clear ht
    go_loopg [21] rs.length (fun gk iv wr => NtA w rs xs t gk iv wr)
    case atStart => exact ⟨0, rfl, by omega, by omega, m0, fun i h1 h2 => by omega, PwT.zero xs, f0⟩
    case round =>
      clear m0 f0
      obtain ⟨k, rfl, rfl, hk, hm, hok, hpw, hf⟩ := hrel
      have HOK := Lib.hid hok
      have HPW := Lib.hid hpw
      clear hok hpw
      by_cases hlt : k < rs.length
      · have hlt2 : k < xs.length := by rw [← hlen.out]; exact hlt
        have i1 : (k : Int) < (rs.length : Int) := by omega
        have i0 : (0 : Int) ≤ (k : Int) := by omega
        obtain ⟨g, off, rfl, hg⟩ := hs.adC (by omega)
        have e1 : codR.rd wr g (off + k * 8) = some rs[k] := (hs.fr0 hf).rd k hlt
        have hin : RwIn wr rs[k] xs[k] := (h.at_ k hlt hlt2).fr hf
        have hbx := hbd _ (List.getElem_mem hlt2)
        have fa : Fr noB wr (wr.alloc (codR.o rs[k])) := (Fr.refl noB wr).alloc _
        have q := rwAt (Cod.rd_new' (C := codR) wr rs[k])
        have HW := Lib.hid (h.wf (List.getElem_mem hlt))
        have D1 : ∀ w', Fr noB (wr.alloc (codR.o rs[k])) w' → Calls Tryz.prog 53 #[.agg (codR.A rs[k])] w' (Gives w' (.bool (rightR xs[k]))) := fun w' f => nrow_any w' rs[k] xs[k] ((hin.fr fa).fr f) hbx
        have hgs : g < (wr.alloc (codR.o rs[k])).heap.size := by
          have := (hs.fr0 hf).rd k hlt
          have := Cod.rd_lt this
          simp; omega
        have hNs : wr.heap.size < (wr.alloc (codR.o rs[k])).heap.size := by simp
        have hm' := mpT_fr0 hm fa
        have hOK : rightR xs[k] = true → ∀ i (h : i < xs.length), i < k + 1 → rightR xs[i] = true := fun hr i h1 h2 => by
          by_cases e : i = k
          · subst e; exact hr
          · exact HOK.out i h1 (by omega)
        have HOK' := Lib.hid hOK
        have HNR := Lib.hid (fun hr : rightR xs[k] = false => not_right hlt2 hr)
        have HND := Lib.hid hin.node
        have HPUT := Lib.hid (fun hp : PwT xs (k + 1) => (par_put (nd_par h hlt hp)).trans (by rw [← List.take_succ_eq_append_getElem hlt] : parK (rs.take k ++ [rs[k]]) = parK (rs.take (k + 1))))
        have hprev : ∀ q (hq : q + 1 = k), codS.rd (wr.alloc (codR.o rs[k])) g (off + q * 8) = some (xs[q]'(by omega)).Node := fun q hq => by
          have h1 : codR.rd (wr.alloc (codR.o rs[k])) g (off + q * 8) = some (rs[q]'(by omega)) := ((hs.fr0 hf).fr0 fa).rd q (by omega)
          rw [(h.at_ q (by omega) (by omega)).node]
          exact (rwAtO h1).node
        have HPV := Lib.hid hprev
        have HST := Lib.hid (fun hc => HPW.out.step hlt2 hc)
        have HNT := Lib.hid (fun q (hq : q + 1 = k) (hz : ¬ cmpS (xs[q]'(by omega)).Node xs[k].Node < 0) => not_rise hlt2 hq hz)
        clear hOK hprev hin hbx hm
        obtain ⟨q1, q2, q3, q4, q5, q6⟩ := q
        clear q3 q4 q5
        obtain ⟨r, hr⟩ : ∃ r, r = rs[k] := ⟨_, rfl⟩
        rw [← hr] at e1 fa q1 q2 q6 HW D1 hgs hNs hm' HND HPUT HPV
        have HRr := Lib.hid hr
        clear hr
        go_upto_region 7 with fail
        generalize hW1 : wr.alloc (codR.o r) = W1 at fa q1 q2 q6 D1 hgs hNs hm' HPV ⊢
        obtain ⟨N, hN⟩ : ∃ x, x = wr.heap.size := ⟨_, rfl⟩
        rw [← hN] at q1 q2 q6 hNs ⊢
        clear hN hW1
        obtain ⟨b, hbr⟩ : ∃ b, b = rightR xs[k] := ⟨_, rfl⟩
        rw [← hbr] at D1
        have HBR := Lib.hid hbr
        clear hbr
        cases b with
        | false =>
          refine wp_region_fr (by kernel_rfl) (by kernel_rfl) ?_
          refine wpQ_take (v := ?_) (by rfl) (fun wS hS => ?_) ?_
          rotate_left
          · obtain ⟨L1, L2, L3, L4, L5, L6⟩ := Fr.same hS; have L7 := Fr.sameR hS; go_simp; try with_reducible rfl
          try simp only [List.getElem_toArray, List.getElem_cons_zero, List.getElem_cons_succ, Act.put, List.setIfInBounds_toArray, List.set_cons_zero, List.set_cons_succ]
          refine wpQ_call (by rfl) (fun wS hS => ⟨_, _, ?qh123, Calls.fr hS (D1 _ hS)⟩) ?qk123
          case qh123 => obtain ⟨L1, L2, L3, L4, L5, L6⟩ := Fr.same hS; go_simp; try with_reducible rfl
          try simp only [List.getElem_toArray, List.getElem_cons_zero, List.getElem_cons_succ, Act.put, List.setIfInBounds_toArray, List.set_cons_zero, List.set_cons_succ]
          iterate 2
            refine wpQ_take (v := ?_) (by rfl) (fun wS hS => ?_) ?_
            rotate_left
            · obtain ⟨L1, L2, L3, L4, L5, L6⟩ := Fr.same hS; have L7 := Fr.sameR hS; go_simp; try with_reducible rfl
            try simp only [List.getElem_toArray, List.getElem_cons_zero, List.getElem_cons_succ, Act.put, List.setIfInBounds_toArray, List.set_cons_zero, List.set_cons_succ]
          iterate 14
            refine wpQ_off (by rfl) ?_
            try simp only [List.getElem_toArray, List.getElem_cons_zero, List.getElem_cons_succ, Act.put, List.setIfInBounds_toArray, List.set_cons_zero, List.set_cons_succ]
          refine wpQ_take (v := ?_) (by rfl) (fun wS hS => ?_) ?_
          rotate_left
          · obtain ⟨L1, L2, L3, L4, L5, L6⟩ := Fr.same hS; have L7 := Fr.sameR hS; go_simp; try with_reducible rfl
          try simp only [List.getElem_toArray, List.getElem_cons_zero, List.getElem_cons_succ, Act.put, List.setIfInBounds_toArray, List.set_cons_zero, List.set_cons_succ]
          refine wpQ_nil ?_
          intro w1 f1
          go_wp2_with fail
          go_ret
          exact TrTo.no (HNR.out HBR.out.symm) ((hf.step0 fa).step0 f1)
        | true =>
          have HO2 := Lib.hid (HOK'.out HBR.out.symm)
          clear HNR HOK'
          by_cases hk0 : k = 0
          · have HP := Lib.hid (HST.out (.inl hk0))
            have n0 : ¬ (0 : Int) < (k : Int) := by omega
            clear HST HNT HPV
            refine wp_region_fr (by kernel_rfl) (by kernel_rfl) ?_
            refine wpQ_take (v := ?_) (by rfl) (fun wS hS => ?_) ?_
            rotate_left
            · obtain ⟨L1, L2, L3, L4, L5, L6⟩ := Fr.same hS; have L7 := Fr.sameR hS; go_simp; try with_reducible rfl
            try simp only [List.getElem_toArray, List.getElem_cons_zero, List.getElem_cons_succ, Act.put, List.setIfInBounds_toArray, List.set_cons_zero, List.set_cons_succ]
            refine wpQ_call (by rfl) (fun wS hS => ⟨_, _, ?qh155, Calls.fr hS (D1 _ hS)⟩) ?qk155
            case qh155 => obtain ⟨L1, L2, L3, L4, L5, L6⟩ := Fr.same hS; go_simp; try with_reducible rfl
            try simp only [List.getElem_toArray, List.getElem_cons_zero, List.getElem_cons_succ, Act.put, List.setIfInBounds_toArray, List.set_cons_zero, List.set_cons_succ]
            iterate 5
              refine wpQ_take (v := ?_) (by rfl) (fun wS hS => ?_) ?_
              rotate_left
              · obtain ⟨L1, L2, L3, L4, L5, L6⟩ := Fr.same hS; have L7 := Fr.sameR hS; go_simp; try with_reducible rfl
              try simp only [List.getElem_toArray, List.getElem_cons_zero, List.getElem_cons_succ, Act.put, List.setIfInBounds_toArray, List.set_cons_zero, List.set_cons_succ]
            iterate 10
              refine wpQ_off (by rfl) ?_
              try simp only [List.getElem_toArray, List.getElem_cons_zero, List.getElem_cons_succ, Act.put, List.setIfInBounds_toArray, List.set_cons_zero, List.set_cons_succ]
            iterate 2
              refine wpQ_take (v := ?_) (by rfl) (fun wS hS => ?_) ?_
              rotate_left
              · obtain ⟨L1, L2, L3, L4, L5, L6⟩ := Fr.same hS; have L7 := Fr.sameR hS; go_simp; try with_reducible rfl
              try simp only [List.getElem_toArray, List.getElem_cons_zero, List.getElem_cons_succ, Act.put, List.setIfInBounds_toArray, List.set_cons_zero, List.set_cons_succ]
            refine wpQ_nil ?_
            intro w1 f1
            -- the map is put, in world w1 (f1 : Fr noB W1 w1), with HP : PwT xs (k + 1)
            clear D1
            replace q1 := Cod.rd_fr0 q1 f1
            replace q2 := Cod.rd_fr0 q2 f1
            have hm2 := mpT_fr0 hm' f1
            have hwf := HW.out.1
            obtain ⟨_, m1, m2, m3⟩ := mputT_all Tryz.underlying100 hm2 hwf (.agg (codS.A r.Parent))
            have HM := Lib.hid (And.intro m1 (And.intro m2 m3))
            clear m1 m2 m3 hm' q6 hgs hNs
            go_wp2_with fail
            go_roundg (rs.length - (k + 1))
            case measure => omega
            case rel =>
              obtain ⟨m1, m2, m3⟩ := HM.out
              exact ⟨k + 1, by first | (simp; done) | (simp; omega), rfl, by omega, by rw [m1, HPUT.out HP.out], HO2.out, HP.out, ((hf.step0 fa).step0 f1).step1 m2 (by have := HT.out; omega)⟩
          · obtain ⟨qk, hqk⟩ : ∃ q : Nat, q + 1 = k := ⟨k - 1, by omega⟩
            have n0 : (0 : Int) < (k : Int) := by omega
            have n0' : 0 < k := by omega
            clear hk0
            have wq : IntKind.i64.wrap ((k : Int) - 1) = (qk : Int) := by rw [IntKind.wrap_i64]; omega
            have c0 : (0 : Int) ≤ (qk : Int) := by omega
            have c1 : (qk : Int) < (rs.length : Int) := by omega
            have p1 := HPV.out qk hqk
            have HNT' := Lib.hid (HNT.out qk hqk)
            have HST' := Lib.hid (fun hc : cmpS (xs[qk]'(by omega)).Node xs[k].Node < 0 => HST.out (.inr ⟨qk, hqk, hc⟩))
            have hxk : xs[k].Node = r.Node := HND.out
            rw [hxk] at HNT' HST'
            generalize (xs[qk]'(by omega)).Node = pn at p1 HNT' HST'
            have C2 := fun wS : World => scmp_v wS pn r.Node
            obtain ⟨z, hz⟩ : ∃ z, z = cmpS pn r.Node := ⟨_, rfl⟩
            rw [← hz] at C2 HNT' HST'
            clear hz hxk hqk HST HNT HPV
            by_cases hneg : z < 0
            · have HP := Lib.hid (HST'.out hneg)
              have hneg' : ¬ 0 ≤ z := by omega
              refine wp_region_fr (by kernel_rfl) (by kernel_rfl) ?_
              refine wpQ_take (v := ?_) (by rfl) (fun wS hS => ?_) ?_
              rotate_left
              · obtain ⟨L1, L2, L3, L4, L5, L6⟩ := Fr.same hS; have L7 := Fr.sameR hS; go_simp; try with_reducible rfl
              try simp only [List.getElem_toArray, List.getElem_cons_zero, List.getElem_cons_succ, Act.put, List.setIfInBounds_toArray, List.set_cons_zero, List.set_cons_succ]
              refine wpQ_call (by rfl) (fun wS hS => ⟨_, _, ?qh213, Calls.fr hS (D1 _ hS)⟩) ?qk213
              case qh213 => obtain ⟨L1, L2, L3, L4, L5, L6⟩ := Fr.same hS; go_simp; try with_reducible rfl
              try simp only [List.getElem_toArray, List.getElem_cons_zero, List.getElem_cons_succ, Act.put, List.setIfInBounds_toArray, List.set_cons_zero, List.set_cons_succ]
              iterate 13
                refine wpQ_take (v := ?_) (by rfl) (fun wS hS => ?_) ?_
                rotate_left
                · obtain ⟨L1, L2, L3, L4, L5, L6⟩ := Fr.same hS; have L7 := Fr.sameR hS; go_simp; try with_reducible rfl
                try simp only [List.getElem_toArray, List.getElem_cons_zero, List.getElem_cons_succ, Act.put, List.setIfInBounds_toArray, List.set_cons_zero, List.set_cons_succ]
              refine wpQ_call (by rfl) (fun wS hS => ⟨_, _, ?qh221, Calls.fr hS (C2 _)⟩) ?qk221
              case qh221 => obtain ⟨L1, L2, L3, L4, L5, L6⟩ := Fr.same hS; go_simp; try with_reducible rfl
              try simp only [List.getElem_toArray, List.getElem_cons_zero, List.getElem_cons_succ, Act.put, List.setIfInBounds_toArray, List.set_cons_zero, List.set_cons_succ]
              iterate 3
                refine wpQ_take (v := ?_) (by rfl) (fun wS hS => ?_) ?_
                rotate_left
                · obtain ⟨L1, L2, L3, L4, L5, L6⟩ := Fr.same hS; have L7 := Fr.sameR hS; go_simp; try with_reducible rfl
                try simp only [List.getElem_toArray, List.getElem_cons_zero, List.getElem_cons_succ, Act.put, List.setIfInBounds_toArray, List.set_cons_zero, List.set_cons_succ]
              refine wpQ_nil ?_
              intro w1 f1
              -- the map is put, in world w1 (f1 : Fr noB W1 w1), with HP : PwT xs (k + 1)
              clear D1
              replace q1 := Cod.rd_fr0 q1 f1
              replace q2 := Cod.rd_fr0 q2 f1
              have hm2 := mpT_fr0 hm' f1
              have hwf := HW.out.1
              obtain ⟨_, m1, m2, m3⟩ := mputT_all Tryz.underlying100 hm2 hwf (.agg (codS.A r.Parent))
              have HM := Lib.hid (And.intro m1 (And.intro m2 m3))
              clear m1 m2 m3 hm' q6 hgs hNs
              go_wp2_with fail
              go_roundg (rs.length - (k + 1))
              case measure => omega
              case rel =>
                obtain ⟨m1, m2, m3⟩ := HM.out
                exact ⟨k + 1, by first | (simp; done) | (simp; omega), rfl, by omega, by rw [m1, HPUT.out HP.out], HO2.out, HP.out, ((hf.step0 fa).step0 f1).step1 m2 (by have := HT.out; omega)⟩
            · have hneg' : 0 ≤ z := by omega
              refine wp_region_fr (by kernel_rfl) (by kernel_rfl) ?_
              refine wpQ_take (v := ?_) (by rfl) (fun wS hS => ?_) ?_
              rotate_left
              · obtain ⟨L1, L2, L3, L4, L5, L6⟩ := Fr.same hS; have L7 := Fr.sameR hS; go_simp; try with_reducible rfl
              try simp only [List.getElem_toArray, List.getElem_cons_zero, List.getElem_cons_succ, Act.put, List.setIfInBounds_toArray, List.set_cons_zero, List.set_cons_succ]
              refine wpQ_call (by rfl) (fun wS hS => ⟨_, _, ?qh252, Calls.fr hS (D1 _ hS)⟩) ?qk252
              case qh252 => obtain ⟨L1, L2, L3, L4, L5, L6⟩ := Fr.same hS; go_simp; try with_reducible rfl
              try simp only [List.getElem_toArray, List.getElem_cons_zero, List.getElem_cons_succ, Act.put, List.setIfInBounds_toArray, List.set_cons_zero, List.set_cons_succ]
              iterate 13
                refine wpQ_take (v := ?_) (by rfl) (fun wS hS => ?_) ?_
                rotate_left
                · obtain ⟨L1, L2, L3, L4, L5, L6⟩ := Fr.same hS; have L7 := Fr.sameR hS; go_simp; try with_reducible rfl
                try simp only [List.getElem_toArray, List.getElem_cons_zero, List.getElem_cons_succ, Act.put, List.setIfInBounds_toArray, List.set_cons_zero, List.set_cons_succ]
              refine wpQ_call (by rfl) (fun wS hS => ⟨_, _, ?qh260, Calls.fr hS (C2 _)⟩) ?qk260
              case qh260 => obtain ⟨L1, L2, L3, L4, L5, L6⟩ := Fr.same hS; go_simp; try with_reducible rfl
              try simp only [List.getElem_toArray, List.getElem_cons_zero, List.getElem_cons_succ, Act.put, List.setIfInBounds_toArray, List.set_cons_zero, List.set_cons_succ]
              iterate 3
                refine wpQ_take (v := ?_) (by rfl) (fun wS hS => ?_) ?_
                rotate_left
                · obtain ⟨L1, L2, L3, L4, L5, L6⟩ := Fr.same hS; have L7 := Fr.sameR hS; go_simp; try with_reducible rfl
                try simp only [List.getElem_toArray, List.getElem_cons_zero, List.getElem_cons_succ, Act.put, List.setIfInBounds_toArray, List.set_cons_zero, List.set_cons_succ]
              refine wpQ_nil ?_
              intro w1 f1
              go_wp2_with fail
              go_ret
              exact TrTo.no (HNT'.out hneg) ((hf.step0 fa).step0 f1)
      · have hkn : k = rs.length := by omega
        subst hkn
        have i1 : ¬ (rs.length : Int) < (rs.length : Int) := by omega
        rw [List.take_length] at hm
        have fb : Fr noB wr (wr.alloc (.map #[] 0)) := (Fr.refl noB wr).alloc _
        have m2 := mpT_new wr
        have hm2 := mpT_fr0 hm fb
        have hgt := mpT_lt hm
        clear hlt
        go_wp2_with fail
        have hf2 := hf.step0 fb
        generalize wr.alloc (.map #[] 0) = W2 at fb m2 hm2 hf2 ⊢
        obtain ⟨t2, ht2⟩ : ∃ t2, t2 = wr.heap.size := ⟨_, rfl⟩
        rw [← ht2] at m2 ⊢
        have HT2 := Lib.hid (show w.heap.size ≤ t2 ∧ t ≠ t2 from ⟨by rw [ht2]; exact hf.size, by omega⟩)
        clear ht2 hm fb hgt hf hk
        go_loopg [54] rs.length (fun gk iv wr => NtB w rs xs t t2 gk iv wr)
        case atStart => exact ⟨0, [], rfl, by omega, by omega, hm2, m2, GoodK.nil xs, fun i h1 h2 => by omega, hf2⟩
        case round =>
          clear m2 hm2 hf2
          obtain ⟨k, kv, rfl, rfl, hk, hm, hm2, hgd, hall, hf⟩ := hrel
          have HGD := Lib.hid hgd
          have HALL := Lib.hid hall
          clear hgd hall
          by_cases hlt : k < rs.length
          · have hlt2 : k < xs.length := by rw [← hlen.out]; exact hlt
            have i1 : (k : Int) < (rs.length : Int) := by omega
            have i0 : (0 : Int) ≤ (k : Int) := by omega
            obtain ⟨g, off, rfl, hg⟩ := hs.adC (by omega)
            have e1 : codR.rd wr g (off + k * 8) = some rs[k] := (hs.fr0 hf).rd k hlt
            have hnd := (h.at_ k hlt hlt2).node
            have hwf := (h.wf (List.getElem_mem hlt)).1
            have HST := Lib.hid (fun (hr : ∃ m, reach xs m rs[k].Node = true) => (show ∀ i (h : i < xs.length), i < k + 1 → ∃ m, reach xs m xs[i].Node = true from fun i h1 h2 => by
              by_cases e : i = k
              · subst e; rw [hnd]; exact hr
              · exact HALL.out i h1 (by omega)))
            have HNO := Lib.hid (fun (hr : ∀ m, reach xs m rs[k].Node = false) => not_tree hlt2 (fun m => by rw [hnd]; exact hr m))
            clear hnd hlt2
            generalize rs[k] = r at e1 hwf HST HNO
            have fa : Fr noB wr (wr.alloc (codR.o r)) := (Fr.refl noB wr).alloc _
            have q1 := (rwAt (Cod.rd_new' (C := codR) wr r)).node
            have fb : Fr noB (wr.alloc (codR.o r)) ((wr.alloc (codR.o r)).alloc (codS.o r.Node)) := (Fr.refl noB _).alloc _
            have b1 := Cod.bxd_new (C := codS) (wr.alloc (codR.o r)) r.Node
            have hz : (wr.alloc (codR.o r)).heap.size = wr.heap.size + 1 := by simp
            rw [hz] at b1
            have st1 : codS.stR ((wr.alloc (codR.o r)).alloc (codS.o zSt)) (.pointer (some ⟨wr.heap.size + 1, 0, none⟩)) (.agg (codS.A r.Node)) = .ok .skip ((wr.alloc (codR.o r)).alloc (codS.o r.Node)) := okS.stR_new1 wr _ r.Node zSt
            have f2 := (hf.step0 fa).step0 fb
            have hm' := mpT_fr0 (mpT_fr0 hm fa) fb
            have hm2' := mpT_fr0 (mpT_fr0 hm2 fa) fb
            clear hz hm hm2
            go_wp2_with fail
            generalize (wr.alloc (codR.o r)).alloc (codS.o r.Node) = W3 at fb b1 f2 hm' hm2' ⊢
            obtain ⟨P0, hP0⟩ : ∃ x, x = wr.heap.size + 1 := ⟨_, rfl⟩
            rw [← hP0] at b1 ⊢
            have HP0 := Lib.hid (show w.heap.size ≤ P0 by have := hf.size; omega)
            clear hP0 st1 q1 fa fb e1
            go_loopg [9, 10] (rs.length + 1) (fun gk wv pv wr => NtC w rs xs t t2 kv r.Node gk wv pv wr)
            case atStart => exact ⟨P0, none, 0, [], r.Node, rfl, rfl, rfl, by simp, b1, HP0.out, hwf, World.ownsRow_nil _ _ _ _, (fun a ha => by cases ha), (fun x hx => by cases hx), WayT.nil xs _, hm', hm2', f2⟩
            case round =>
              clear b1 f2 hm' hm2'
              obtain ⟨P, A9, c9, way, u, rfl, rfl, rfl, hwl, hbx, hPn, hwu, hown, hnb, hww, hway, hm, hm2, hf⟩ := hrel
              have q1 := Cod.bxd_rd hbx
              obtain ⟨bb, hlk, hbb⟩ := HGD.out.look u
              have HWAY := Lib.hid hway
              have HWW := Lib.hid hww
              have HOWN := Lib.hid hown
              have HNB := Lib.hid hnb
              have HBB := Lib.hid hbb
              have HPn := Lib.hid hPn
              clear hway hww hown hnb hbb hPn
              by_cases hfx : fixedS u = true
              · have C1 : ∀ wS : World, Calls Tryz.prog 54 #[.agg (codS.A u)] wS (Gives wS (.bool true)) := fun wS => by have := nfixed_any wS u; rwa [hfx] at this
                have HREACH := Lib.hid (show ∃ m, reach xs m u = true from ⟨0, hfx⟩)
                clear hfx
                go_upto_region 25 with (go_at_call 54; refine (C1 _).mono ?_; rintro e w5 ⟨rfl, f5⟩)
                clear C1
                -- the way is at its end: u reaches; in world w5 (hf5 : Fr noB w w5)
                clear hlk hbx
                have hm5 := mpT_fr0 hm f5
                have hm52 := mpT_fr0 hm2 f5
                have hf5 := hf.step0 f5
                have hsl := (Sl.own HOWN.out).fr0 f5
                have hwayb : way.length ≤ 100000 := by omega
                clear q1 hm hm2
                go_wp2_with fail
                go_loopg [92] way.length (fun gk iv wr => NtD w rs xs t t2 A9 way gk iv wr)
                case atStart => exact ⟨0, kv, rfl, by omega, by omega, hm5, hm52, HGD.out, hsl, hf5⟩
                case round =>
                  clear hm5 hm52 hsl
                  obtain ⟨j, kv2, rfl, rfl, hj, hm6, hm62, hgd2, hsl2, hf6⟩ := hrel
                  have HGD2 := Lib.hid hgd2
                  clear hgd2
                  by_cases hltj : j < way.length
                  · have i3 : (j : Int) < (way.length : Int) := by omega
                    have i4 : (0 : Int) ≤ (j : Int) := by omega
                    obtain ⟨g5, off5, rfl, hg5⟩ := hsl2.adC (by omega)
                    have e5 : codS.rd wr g5 (off5 + j * 2) = some way[j] := hsl2.rd j hltj
                    have hwj := HWW.out _ (List.getElem_mem hltj)
                    have hrj := HWAY.out.all _ (List.getElem_mem hltj)
                    have hne5 : g5 ≠ t2 := hsl2.ne_map (Cod.row_ne (by intro h0; rw [h0] at hltj; simp at hltj)) hm62
                    have HSL := Lib.hid hsl2
                    generalize way[j] = y at e5 hwj hrj
                    have HRJ := Lib.hid (show ∃ m, reach xs m y = true by obtain ⟨m, hm⟩ := HREACH.out; exact hrj m hm)
                    clear hrj
                    have fy : Fr noB wr (wr.alloc (codS.o y)) := (Fr.refl noB wr).alloc _
                    have ny := Cod.rd_new' (C := codS) wr y
                    have hm7 := mpT_fr0 hm6 fy
                    have hm72 := mpT_fr0 hm62 fy
                    obtain ⟨_, m1, m2, m3⟩ := mputT_all Tryz.underlying101 hm72 hwj (.bool true)
                    have HM := Lib.hid (And.intro m1 (And.intro m2 m3))
                    clear m1 m2 m3 hm62
                    go_wp2_with fail
                    go_roundg (way.length - (j + 1))
                    case measure => omega
                    case rel =>
                      obtain ⟨m1, m2, m3⟩ := HM.out
                      have ht2 := HT2.out
                      exact ⟨j + 1, _, by simp, rfl, by omega, mpT_fr hm7 m2 (fun e => ht2.2 e), m1, HGD2.out.put HRJ.out, (HSL.out.fr0 fy).fr m2 (fun a ha e => by
                        injection ha with ha
                        subst ha
                        exact hne5 e), (hf6.step0 fy).step1 m2 ht2.1⟩
                  · have hjn : j = way.length := by omega
                    have i3 : ¬ (j : Int) < (way.length : Int) := by omega
                    go_wp2_with fail
                    go_roundg (rs.length - (k + 1))
                    case measure => omega
                    case rel => exact ⟨k + 1, kv2, by simp, rfl, by omega, hm6, hm62, HGD2.out, HST.out (by obtain ⟨m, hm⟩ := HREACH.out; exact HWAY.out.up m hm), hf6⟩
              · have hfx' : fixedS u = false := by simpa using hfx
                have C1 : ∀ wS : World, Calls Tryz.prog 54 #[.agg (codS.A u)] wS (Gives wS (.bool false)) := fun wS => by have := nfixed_any wS u; rwa [hfx'] at this
                have HFX := Lib.hid hfx'
                clear hfx hfx'
                cases bb with
                | true =>
                  have HREACH := Lib.hid (HBB.out rfl)
                  go_upto_region 25 with (go_at_call 54; refine (C1 _).mono ?_; rintro e w5 ⟨rfl, f5⟩; have q15 := Cod.rd_fr0 q1 f5; have hm25 := mpT_fr0 hm2 f5)
                  clear C1 q15 hm25
                  -- the way is at its end: u reaches; in world w5 (hf5 : Fr noB w w5)
                  clear hlk hbx
                  have hm5 := mpT_fr0 hm f5
                  have hm52 := mpT_fr0 hm2 f5
                  have hf5 := hf.step0 f5
                  have hsl := (Sl.own HOWN.out).fr0 f5
                  have hwayb : way.length ≤ 100000 := by omega
                  clear q1 hm hm2
                  go_wp2_with fail
                  go_loopg [92] way.length (fun gk iv wr => NtD w rs xs t t2 A9 way gk iv wr)
                  case atStart => exact ⟨0, kv, rfl, by omega, by omega, hm5, hm52, HGD.out, hsl, hf5⟩
                  case round =>
                    clear hm5 hm52 hsl
                    obtain ⟨j, kv2, rfl, rfl, hj, hm6, hm62, hgd2, hsl2, hf6⟩ := hrel
                    have HGD2 := Lib.hid hgd2
                    clear hgd2
                    by_cases hltj : j < way.length
                    · have i3 : (j : Int) < (way.length : Int) := by omega
                      have i4 : (0 : Int) ≤ (j : Int) := by omega
                      obtain ⟨g5, off5, rfl, hg5⟩ := hsl2.adC (by omega)
                      have e5 : codS.rd wr g5 (off5 + j * 2) = some way[j] := hsl2.rd j hltj
                      have hwj := HWW.out _ (List.getElem_mem hltj)
                      have hrj := HWAY.out.all _ (List.getElem_mem hltj)
                      have hne5 : g5 ≠ t2 := hsl2.ne_map (Cod.row_ne (by intro h0; rw [h0] at hltj; simp at hltj)) hm62
                      have HSL := Lib.hid hsl2
                      generalize way[j] = y at e5 hwj hrj
                      have HRJ := Lib.hid (show ∃ m, reach xs m y = true by obtain ⟨m, hm⟩ := HREACH.out; exact hrj m hm)
                      clear hrj
                      have fy : Fr noB wr (wr.alloc (codS.o y)) := (Fr.refl noB wr).alloc _
                      have ny := Cod.rd_new' (C := codS) wr y
                      have hm7 := mpT_fr0 hm6 fy
                      have hm72 := mpT_fr0 hm62 fy
                      obtain ⟨_, m1, m2, m3⟩ := mputT_all Tryz.underlying101 hm72 hwj (.bool true)
                      have HM := Lib.hid (And.intro m1 (And.intro m2 m3))
                      clear m1 m2 m3 hm62
                      go_wp2_with fail
                      go_roundg (way.length - (j + 1))
                      case measure => omega
                      case rel =>
                        obtain ⟨m1, m2, m3⟩ := HM.out
                        have ht2 := HT2.out
                        exact ⟨j + 1, _, by simp, rfl, by omega, mpT_fr hm7 m2 (fun e => ht2.2 e), m1, HGD2.out.put HRJ.out, (HSL.out.fr0 fy).fr m2 (fun a ha e => by
                          injection ha with ha
                          subst ha
                          exact hne5 e), (hf6.step0 fy).step1 m2 ht2.1⟩
                    · have hjn : j = way.length := by omega
                      have i3 : ¬ (j : Int) < (way.length : Int) := by omega
                      go_wp2_with fail
                      go_roundg (rs.length - (k + 1))
                      case measure => omega
                      case rel => exact ⟨k + 1, kv2, by simp, rfl, by omega, hm6, hm62, HGD2.out, HST.out (by obtain ⟨m, hm⟩ := HREACH.out; exact HWAY.out.up m hm), hf6⟩
                | false =>
                  go_upto_region 18 with (go_at_call 54; refine (C1 _).mono ?_; rintro e w5 ⟨rfl, f5⟩; have q15 := Cod.rd_fr0 q1 f5; have hm25 := mpT_fr0 hm2 f5)
                  clear C1 hlk q1
                  have hm5 := mpT_fr0 hm f5
                  have hf5 := hf.step0 f5
                  have hb5 := Cod.bxd_fr0 hbx f5
                  have ho5 := own_new0 HOWN.out f5
                  have hPs := Cod.bxd_lt hb5
                  clear hm hm2 hf hbx HOWN
                  rcases h.find u with ⟨g1, g2⟩ | ⟨r', x', g1, g2, g3⟩
                  · have hlk : Go.Proofs.YtefcalkbfaefgaaGreat.look (parK rs) u = none := by rw [look_par, g1]; rfl
                    have HN := Lib.hid (HNO.out (HWAY.out.stuck HFX.out g2))
                    clear g1 g2
                    go_wp2_with fail
                    go_ret
                    exact TrTo.no HN.out (hf5.alloc _)
                  · have hlk : Go.Proofs.YtefcalkbfaefgaaGreat.look (parK rs) u = some (.agg (codS.A r'.Parent)) := by rw [look_par, g1]; rfl
                    by_cases hlong : rs.length < way.length
                    · have HN := Lib.hid (HNO.out (HWAY.out.long (by rw [← hlen.out]; exact hlong)))
                      have n1 : (rs.length : Int) < (way.length : Int) := by omega
                      clear g1 g2
                      go_wp2_with fail
                      go_ret
                      exact TrTo.no HN.out (hf5.alloc _)
                    · have n1 : ¬ (rs.length : Int) < (way.length : Int) := by omega
                      have HWAY' := Lib.hid (show WayT xs r.Node r'.Parent (way ++ [u]) by have := HWAY.out.step HFX.out g2; rwa [g3.parent] at this)
                      have hwp := g3.wp
                      clear g1 g2 g3
                      generalize r'.Parent = up at hlk HWAY' hwp
                      have fu : Fr noB w5 (w5.alloc (codS.o up)) := (Fr.refl noB w5).alloc _
                      have fr_ : Fr noB (w5.alloc (codS.o up)) ((w5.alloc (codS.o up)).alloc (codS.ro [u])) := (Fr.refl noB _).alloc _
                      have hbu := Cod.bxd_fr0 (Cod.bxd_new (C := codS) w5 up) fr_
                      have sl6 := Cod.sl_new (C := codS) (w5.alloc (codS.o up)) [u]
                      have hz : (w5.alloc (codS.o up)).heap.size = w5.heap.size + 1 := by simp
                      rw [hz] at sl6
                      have hm6 := mpT_fr0 (mpT_fr0 hm5 fu) fr_
                      have hm26 := mpT_fr0 (mpT_fr0 hm25 fu) fr_
                      have hf6 := (hf5.step0 fu).step0 fr_
                      have hb6 := Cod.bxd_fr0 (Cod.bxd_fr0 hb5 fu) fr_
                      have q16 := Cod.bxd_rd (Cod.bxd_fr0 hb5 fu)
                      have ho6 := own_new0 (own_new0 ho5 fu) fr_
                      have hsz : ((w5.alloc (codS.o up)).alloc (codS.ro [u])).heap.size = w5.heap.size + 2 := by simp
                      have HA := Lib.hid (show ∀ a, A9 = some a → a.block < w5.heap.size from fun a ha => by
                        subst ha
                        exact (own_lt ho5 a.block rfl).2)
                      have HSZ := Lib.hid hsz
                      clear hz hsz fu fr_ hm25 hb5 ho5 hf5
                      go_upto_region 21 with fail
                      clear q15 hlk hm5
                      go_upto_region 22 with (at_builtin; refine wpList_appC' etS w _ rfl _ _ rfl A9 way.length c9 way rfl rfl ho6 (some ⟨w5.heap.size + 1, 0, none⟩) 1 1 [u] rfl sl6 rfl (by simp; omega) hf6.size ?_; intro A7 c7 w7 hc7 hmx7 ho7 hg7 hA7; obtain ⟨way', hway'⟩ : ∃ l : List St, l = way ++ [u] := ⟨_, rfl⟩; rw [← hway'] at ho7 ⊢; have HWE := Lib.hid hway'; clear hway')
                      have hway' := HWE.out
                      rw [← hway'] at HWAY'
                      clear hway'
                      have fg := Fr.ofGrown (M := fun b => A9.map (·.block) = some b) hg7 (fun g hg => hg)
                      have hnA : ¬ A9.map (·.block) = some P := fun e => by
                        cases hA : A9 with
                        | none => rw [hA] at e; cases e
                        | some a =>
                          rw [hA] at e
                          simp only [Option.map_some, Option.some.injEq] at e
                          exact HNB.out a hA e
                      have hnN : ¬ A9.map (·.block) = some w5.heap.size := fun e => by
                        cases hA : A9 with
                        | none => rw [hA] at e; cases e
                        | some a =>
                          rw [hA] at e
                          simp only [Option.map_some, Option.some.injEq] at e
                          have := HA.out a hA
                          omega
                      have hb7 := Cod.bxd_fr hb6 fg hnA
                      have hbu7 := Cod.bxd_fr hbu fg hnN
                      have qu7 := Cod.bxd_rd hbu7
                      have hmA : ∀ {r0 : Nat} {kv0 : List (St × Value)}, mpT ((w5.alloc (codS.o up)).alloc (codS.ro [u])) r0 = some kv0 → mpT w7 r0 = some kv0 := fun {r0 kv0} hm0 => mpT_fr hm0 fg (fun e => by
                        have hne : way ≠ [] ∨ way = [] := by by_cases hw0 : way = [] <;> simp [hw0]
                        cases hA : A9 with
                        | none => rw [hA] at e; cases e
                        | some a =>
                          rw [hA] at e
                          simp only [Option.map_some, Option.some.injEq] at e
                          rcases ho6.2 with ⟨hv, _⟩ | ⟨gg, cap, cur, hv, _, hgg, _⟩
                          · injection hv with h1 _ _
                            rw [hA] at h1; cases h1
                          · injection hv with h1 _ _
                            rw [hA] at h1
                            injection h1 with h1
                            subst h1
                            exact mpT_ne hm0 hgg e)
                      have hm7 := hmA hm6
                      have hm27 := hmA hm26
                      have hf7 := Fr.own' hf6 ho6 hg7
                      have hst := okS.stR_box hb7 up
                      obtain ⟨p1, p2, p3⟩ := Cod.put_fr hb7 up
                      have q8 := Cod.bxd_rd p3
                      have hm8 := mpT_put (z := up) hb7 hm7
                      have hm28 := mpT_put (z := up) hb7 hm27
                      have hAP : ∀ g, (Value.slice A7 way'.length c7).ownBlock = some g → ¬ oneB P g := fun g hg e => by
                        have e' : g = P := e
                        subst e'
                        rw [ownBlock_sl'] at hg
                        rcases hA7 with h1 | h1
                        · rw [h1] at hg; exact hnA hg
                        · rw [h1] at hg
                          injection hg with hg
                          have := HSZ.out
                          omega
                      have ho8 := own_fr ho7 p1 hAP
                      have hf8 := hf7.step1 p1 HPn.out
                      clear hg7 hA7 hmA hm7 hm27 hb6 hbu hbu7 ho6 hm6 hm26 sl6 q16 hnN hnA fg hf7 hf6 hc7 hmx7 hAP
                      generalize hW8 : codS.put w7 P up = W8 at hst p1 p2 p3 q8 hm8 hm28 ho8 hf8
                      clear p2 hW8
                      have n8 := Cod.bxd_new (C := codS) W8 up
                      have fn8 : Fr noB W8 (W8.alloc (codS.o up)) := (Fr.refl noB W8).alloc _
                      have HO8 := Lib.hid ho8
                      have HW' := HWE
                      clear ho8 ho7 hb7
                      go_wp2_with fail
                      go_roundg (rs.length + 1 - way'.length)
                      case measure => have := HW'.out; subst this; simp; omega
                      case rel =>
                        have hw' := HW'.out
                        refine ⟨W8.heap.size, A7, c7, way', up, rfl, rfl, rfl, by subst hw'; simp; omega, n8, hf8.size, hwp, own_new0 HO8.out fn8, fun a ha e => ?_, fun x hx => ?_, HWAY'.out, mpT_fr0 hm8 fn8, mpT_fr0 hm28 fn8, hf8.step0 fn8⟩
                        · subst ha
                          have := (own_lt HO8.out a.block rfl).2
                          omega
                        · subst hw'
                          rcases List.mem_append.1 hx with hx | hx
                          · exact HWW.out x hx
                          · rw [List.mem_singleton] at hx
                            subst hx; exact hwu
          · have hkn : k = rs.length := by omega
            subst hkn
            have i1 : ¬ (rs.length : Int) < (rs.length : Int) := by omega
            go_wp2_with fail
            go_ret
            have hl := hlen.out
            exact ⟨true, rfl, hf, by simp only [true_iff]; exact treeOk_of (by omega) (fun i hi => HOK.out i hi (by omega)) (by have := HPW.out; rwa [hl] at this) (fun i hi => HALL.out i hi (by omega))⟩
  · have n5 : (5000 : Int) < (rs.length : Int) := by omega
    have HN := Lib.hid (not_long (xs := xs) (by rw [← hlen.out]; exact hl5))
    clear hl5
    go_enter Tryz.func23, Tryz.ntmps23
    go_wp2_with fail
    go_ret
    exact TrTo.no HN.out (Fr.refl _ _)
end Go.Proofs.YtefcalkbfaefgaaGreat
namespace Go.Proofs.YtefcalkbfaefgaaGreat
open Go.RowKit
set_option linter.unusedVariables false
set_option linter.unusedSimpArgs false

/-- a maker of operations -/
structure MkW where
  At : St
  A : Option Addr
  n : Nat
  c : Nat
  bad : Bool
def csM (r : MkW) : List Value := [.int .i64 r.At.T, .int .i64 r.At.R, .slice r.A r.n r.c, .bool r.bad]
def zMkW : MkW := ⟨zSt, none, 0, 0, false⟩
def codM : Cod MkW := ⟨63, 4, csM, zMkW, fun x => by simp [csM], by decide, fun x u hu => by
    simp only [csM, List.mem_cons, List.not_mem_nil, or_false] at hu
    rcases hu with rfl | rfl | rfl | rfl <;> rfl, fun x y h => by
  obtain ⟨⟨a, b⟩, A, n, c, d⟩ := x; obtain ⟨⟨a', b'⟩, A', n', c', d'⟩ := y
  simp only [csM] at h; simp only [List.cons.injEq, Value.int.injEq, Value.bool.injEq, Value.slice.injEq, true_and, and_true] at h
  obtain ⟨rfl, rfl, ⟨h1, h2, h3⟩, h4⟩ := h
  subst h1 h2 h3 h4
  rfl⟩
theorem bldM_1 (w : World) (s : St) : (Instr.build 63 #[(0, .agg (codS.A s))]).run Tryz.prog w = .ok (.agg (codM.A ⟨s, none, 0, 0, false⟩)) w := by
  rw [Cod.A_eq, Cod.A_eq]
  kernel_rfl
@[simp ↓] theorem ex_bldM (ρ : Operand → Value) (x0 : Operand) (d : Option Nat) (t : TypeId) (p : String) (f : Array Edge) (g : Option (Nat × Bool)) (w : World) :
    (execOp ρ { dst := d, op := .build 63 #[(0, x0)], type := t, pos := p, after := f, guard := g }).run Tryz.prog w = mkB 63 w [(0, ρ x0)] := (exB ρ _ _ _ rfl w).trans (by simp only [List.map_toArray, List.map_cons, List.map_nil])
@[simp] theorem mkB_M (w : World) (s : St) : mkB 63 w [(0, .agg (codS.A s))] = .ok (.value (.agg (codM.A ⟨s, none, 0, 0, false⟩))) w := mkB_ok (bldM_1 w s)
@[simp] theorem bx_M (w : World) (x : MkW) : (Instr.box 63 (.agg (codM.A x))).run Tryz.prog w = .ok (.pointer (some ⟨w.heap.size, 0, none⟩)) (w.alloc (codM.o x)) := Cod.bxO (C := codM) w x
structure MkAt (w : World) (b : Nat) (r : MkW) : Prop where
  at_ : codS.rd w b 0 = some r.At
  T : w.cell? ⟨b, 0, none⟩ = some (.int .i64 r.At.T)
  ops : w.cell? ⟨b, 2, none⟩ = some (.slice r.A r.n r.c)
  bad : w.cell? ⟨b, 3, none⟩ = some (.bool r.bad)
theorem mkAt {w : World} {b : Nat} {r : MkW} (h : codM.rd w b 0 = some r) : MkAt w b r := by
  have e (k : Nat) {v : Value} (hv : (codM.cs r)[k]? = some v) := by simpa using Cod.rd_cell h k hv
  have s (k : Nat) {x : St} (hv : ∀ j v, (codS.cs x)[j]? = some v → (codM.cs r)[k + j]? = some v) := by simpa using Cod.rd_part (C' := codS) h k hv
  exact ⟨s 0 (get2 _ _ 0 rfl rfl), e 0 rfl, e 2 rfl, e 3 rfl⟩
theorem seM_T (r : MkW) (x : Int) : (codM.cs r).set 0 (.int .i64 x) = codM.cs { r with At := ⟨x, r.At.R⟩ } := rfl
theorem seM_bad (r : MkW) (x : Bool) : (codM.cs r).set 3 (.bool x) = codM.cs { r with bad := x } := rfl
theorem seM_ops (r : MkW) (A : Option Addr) (n c : Nat) : (codM.cs r).set 2 (.slice A n c) = codM.cs { r with A := A, n := n, c := c } := rfl
/-- a maker under way, made since W -/
def MkS (W w : World) (M : Nat) (s : St) (bad : Bool) (os : List Opn) : Prop :=
  ∃ (B : Option Addr) (d : Nat) (rs : List OpW), codM.bxd w M = some ⟨s, B, rs.length, d, bad⟩ ∧ Rws W w none 0 [] B d rs os ∧ Fr noB W w ∧ W.heap.size ≤ M
theorem MkS.new {W w w' : World} {M : Nat} {s : St} {bad : Bool} {os : List Opn} (h : MkS W w M s bad os) (f : Fr noB w w') : MkS W w' M s bad os := by
  obtain ⟨B, d, rs, h1, h2, h3, h4⟩ := h
  exact ⟨B, d, rs, Cod.bxd_fr0 h1 f, h2.new f, h3.step0 f, h4⟩
theorem MkS.fr {W w : World} {M : Nat} {s : St} {bad : Bool} {os : List Opn} (h : MkS W w M s bad os) : Fr noB W w := h.choose_spec.choose_spec.choose_spec.2.2.1
/-- the blocks that a put turns: of makers, of operations -/
def MkB (w : World) (b : Nat) : Prop := ∃ cs t z, w.heap[b]? = some (.cells cs t z) ∧ (t = 42 ∨ t = 63)
theorem MkB.maker {w : World} {M : Nat} {r : MkW} (h : codM.bxd w M = some r) : MkB w M := by
  have hh := Cod.bxd_at h
  rw [Cod.o_eq] at hh
  exact ⟨_, _, _, hh, .inr rfl⟩
theorem MkB.row {w : World} {base : Nat} {n c : Nat} {B : Option Addr} {xs : List Value} (h : w.ownsRow base codO.t 41 (.slice B n c) n xs) {b : Nat} (hb : B.map (·.block) = some b) : MkB w b := by
  rcases h.2 with ⟨hv, _⟩ | ⟨g, cap, cur, hv, _, hg, _⟩
  · injection hv with hv; subst hv; cases hb
  · injection hv with hv
    subst hv
    simp only [Option.map_some, Option.some.injEq] at hb
    subst hb
    exact ⟨_, _, _, hg, .inl rfl⟩
/-- an operation as a value of the call's own -/
def OpV (W w : World) (r : OpW) (o : Opn) : Prop := OpIn w r o ∧ w.ownsRow W.heap.size 30 2 (.slice r.A r.n r.c) r.n (codS.row o.Over)
set_option maxRecDepth 100000 in
set_option maxHeartbeats 2000000 in
theorem put_m (W w : World) (M : Nat) (s : St) (bad : Bool) (os : List Opn) (h : MkS W w M s bad os) (hs : -1000000000000000 ≤ s.T ∧ s.T ≤ 1000000000000000) (hl : os.length ≤ 100000000000) (r : OpW) (o : Opn) (ho : OpV W w r o) :
    Calls Tryz.prog 58 #[.pointer (some ⟨M, 0, none⟩), .agg (codO.A r)] w fun e w' => e = .returned (.tuple #[]) ∧ MkS W w' M ⟨s.T + 1, s.R⟩ (bad || !goodOp { o with At := s }) (os ++ [{ o with At := s }]) ∧ Fr (MkB w) w w' := by
  obtain ⟨B, d, rs, hM, hR, hf, hMn⟩ := h
  obtain ⟨ho1, ho2⟩ := ho
  have hMl := Cod.bxd_lt hM
  have hlen := hR.hos.len
  have fa : Fr noB w (w.alloc (.cells (codO.A r) 42)) := (Fr.refl noB w).alloc _
  have b1 : codO.bxd (w.alloc (.cells (codO.A r) 42)) w.heap.size = some r := Cod.bxd_box w r
  have hst := stO_At b1 s
  obtain ⟨p1, p2, p3⟩ := Cod.put_fr b1 { r with At := s }
  have hM1 := Cod.bxd_fr0 hM fa
  have a1 := (mkAt (Cod.bxd_rd hM1)).at_
  have f2 := fa.step1 p1 (Nat.le_refl _)
  have hR2 := hR.new f2
  have hM2 := Cod.bxd_fr0 hM f2
  have a2 := (mkAt (Cod.bxd_rd hM2)).T
  have z2 := (Cod.bxd_blk hM2).frozen 0
  have hi2 : OpIn (codO.put (w.alloc (.cells (codO.A r) 42)) w.heap.size { r with At := s }) { r with At := s } { o with At := s } := by
    have := ho1.fr f2
    refine ⟨?_, this.len, this.sl, this.bd, this.nm⟩
    conv => lhs; rw [this.eq]
    rfl
  have hr2 : (codO.put (w.alloc (.cells (codO.A r) 42)) w.heap.size { r with At := s }).ownsRow W.heap.size 30 2 (.slice ({ r with At := s } : OpW).A ({ r with At := s } : OpW).n ({ r with At := s } : OpW).c) ({ r with At := s } : OpW).n (codS.row ({ o with At := s } : Opn).Over) := own_new0 ho2 f2
  have HBN := Lib.hid (show ∀ b, B.map (·.block) = some b → b ≠ w.heap.size from fun b hb => by have := (own_lt hR.hrs b hb).2; omega)
  have hf2 := hf.step0 f2
  have HMK := Lib.hid (show ∀ b, b = M → MkB w b from fun b hb => by subst hb; exact MkB.maker hM)
  have HBK := Lib.hid (show ∀ b, B.map (·.block) = some b → MkB w b from fun b hb => MkB.row hR.hrs hb)
  have fK2 : Fr (MkB w) w _ := f2.any
  have HN := Lib.hid (show W.heap.size ≤ w.heap.size ∧ M ≠ w.heap.size from ⟨hf.size, by omega⟩)
  have HLEN := Lib.hid hlen
  have wt : IntKind.i64.wrap (s.T + 1) = s.T + 1 := by rw [IntKind.wrap_i64]; omega
  obtain ⟨o', ho'⟩ : ∃ o' : Opn, o' = { o with At := s } := ⟨_, rfl⟩
  replace hr2 : (codO.put (w.alloc (.cells (codO.A r) 42)) w.heap.size { r with At := s }).ownsRow W.heap.size 30 2 (.slice ({ r with At := s } : OpW).A ({ r with At := s } : OpW).n ({ r with At := s } : OpW).c) ({ r with At := s } : OpW).n (codS.row o'.Over) := by rw [ho']; exact hr2
  rw [← ho'] at hi2 ⊢
  obtain ⟨bd, hbd⟩ : ∃ bd : Bool, bd = (bad || !goodOp o') := ⟨_, rfl⟩
  rw [← hbd]
  have HBD := Lib.hid hbd
  clear hM hR fa hf hlen ho1 ho2 hM1 b1 ho' hbd
  go_enter Tryz.func58, Tryz.ntmps58
  go_upto_region 3 with fail
  clear hst a1 a2 z2 wt p1 p2
  have hM3 := Cod.bxd_set hM2 0 (.int .i64 (s.T + 1)) _ (seM_T _ _)
  have g3 := Cod.set_fr (codO.put (w.alloc (.cells (codO.A r) 42)) w.heap.size { r with At := s }) M 0 (.int .i64 (s.T + 1))
  have hR3 := hR2.box (Cod.bxd_blk hM2) (by decide) (by decide) (by decide) g3
  have hr3 := own_box (Cod.bxd_blk hM2) hr2 (by decide) g3
  have hi3 := hi2.of hr3
  have p4 := Cod.bxd_fr p3 g3 (fun e => HN.out.2 (by have e' : w.heap.size = M := e; exact e'.symm))
  have hf3 := hf2.step1 g3 hMn
  have fK3 := fK2.trans g3 (fun b _ hb => HMK.out b hb)
  generalize World.setCell _ _ _ = W3 at hM3 hR3 hr3 hi3 p4 hf3 fK3 ⊢
  clear g3 hM2 hR2 hr2 hi2 p3 f2 hf2 fK2
  simp only at hM3
  obtain ⟨N, hN⟩ : ∃ x, x = w.heap.size := ⟨_, rfl⟩
  rw [← hN] at p4 HN HBN ⊢
  clear hN
  generalize hr' : ({ r with At := s } : OpW) = r' at hr3 hi3 p4 ⊢
  have q3 := (mkAt (Cod.bxd_rd hM3)).bad
  have z3 := (Cod.bxd_blk hM3).frozen 3
  have q4 := Cod.bxd_rd p4
  cases bad with
  | true =>
    go_upto_region 4 with fail
    have hM5 := Cod.bxd_set hM3 3 (.bool true) _ (seM_bad _ _)
    have g5 := Cod.set_fr W3 M 3 (.bool true)
    have hR5 := hR3.box (Cod.bxd_blk hM3) (by decide) (by decide) (by decide) g5
    have hr5 := own_box (Cod.bxd_blk hM3) hr3 (by decide) g5
    have hi5 := hi3.of hr5
    have p5 := Cod.bxd_fr p4 g5 (fun e => HN.out.2 (by have e' : N = M := e; exact e'.symm))
    have hf5 := hf3.step1 g5 hMn
    have fK5 := fK3.trans g5 (fun b _ hb => HMK.out b hb)
    generalize World.setCell _ _ _ = W5 at hM5 hR5 hr5 hi5 p5 hf5 fK5 ⊢
    clear g5 hM3 hR3 hr3 hi3 p4 hf3 q3 z3 q4 fK3
    simp only at hM5
    have HBV := Lib.hid (HBD.out.trans (Bool.true_or _))
    -- the flag is set: world W5, of which hM5 .. speak
    have q5 := (mkAt (Cod.bxd_rd hM5)).ops
    have q6 := Cod.bxd_rd p5
    have z5 := (Cod.bxd_blk hM5).frozen 2
    have hk : ∀ w' w'' : World, Fr noB w' w'' → (w'.cell? ⟨M, 2, none⟩ = some (.slice B rs.length d) ∧ codO.rd w' N 0 = some r') → (w''.cell? ⟨M, 2, none⟩ = some (.slice B rs.length d) ∧ codO.rd w'' N 0 = some r') := fun w' w'' f h => ⟨cell_fr0 h.1 f, Cod.rd_fr0 h.2 f⟩
    have fd := (Fr.refl noB W5).drew
    refine wp_region_M 10 11 [⟨1073741824, 1, 0⟩, ⟨2147483648, 1, 0⟩, ⟨4294967296, 2147483648, 2⟩, ⟨8589934592, 4294967296, 4⟩, ⟨17179869184, 8589934592, 8⟩, ⟨34359738368, 8, 0⟩, ⟨68719476736, 34359738368, 32⟩, ⟨137438953472, 85899345920, 80⟩, ⟨274877906944, 1073741824, 255⟩, ⟨549755813888, 274877906944, 511⟩, ⟨0, 687194767360, 767⟩] [(true, 0), (true, 1), (true, 5), (true, 2), (true, 3), (true, 4), (false, 6), (false, 7), (true, 8), (true, 9)] (fun w' => w'.cell? ⟨M, 2, none⟩ = some (.slice B rs.length d) ∧ codO.rd w' N 0 = some r') (by kernel_rfl) rfl (by kernel_rfl) (by kernel_rfl) (by kernel_rfl) (hk _ _ fd ⟨q5, q6⟩) (fun hA hF => ?_)
    iterate 6
      refine wpAnyS_take (v := ?_) hA rfl (fun _ _ _ h => h) (Or.inl ⟨by rfl, ?_⟩) hF (fun hA => ?_)
      rotate_left
      · intro wS hSw; (try dsimp only at hSw); obtain ⟨s1, s2⟩ := hSw; first | (apply Eq.trans; apply ex_ldO_at; exact rfl; exact rfl; assumption; with_reducible rfl) | (go_simp; try with_reducible rfl)
      try simp only [List.getElem_toArray, List.getElem_cons_zero, List.getElem_cons_succ, Act.put, List.setIfInBounds_toArray, List.set_cons_zero, List.set_cons_succ]
    refine wpAnyS_one hA rfl (fun K' hK => ?_)
    refine step_runI rfl _ _ (ex_bsO_at (x := r') rfl rfl) ?_
    have fn : Fr noB W5.drew (W5.drew.alloc (codO.ro [r'])) := (Fr.refl noB _).alloc _
    have sl := Cod.sl_new (C := codO) W5.drew [r']
    replace hF := hk _ _ fn hF
    refine hK.out _ _ hF (fun hA => ?_)
    clear hK K'
    as_aux_lemma =>
    refine wpAnyS_one hA rfl (fun K' hK => ?_)
    refine step_appC' etO W _ rfl _ _ rfl B rs.length d rs rfl rfl (own_new0 (own_new0 hR5.hrs fd) fn) (some ⟨W5.drew.heap.size, 0, none⟩) 1 1 [r'] rfl sl rfl (by have := HLEN.out; simp; omega) ((hf5.step0 fd).step0 fn).size ?_
    intro A7 c7 w7 hc7 hm7 ho7 hg7 hA7
    obtain ⟨rs', hrs'⟩ : ∃ l : List OpW, l = rs ++ [r'] := ⟨_, rfl⟩
    rw [← hrs'] at ho7 ⊢
    have HRS := Lib.hid hrs'
    clear hrs'
    have hM6 := Cod.bxd_fr0 (Cod.bxd_fr0 hM5 fd) fn
    have hR6 := (hR5.new fd).new fn
    have hne7 := (Cod.bxd_blk hM6).ne_own hR6.hrs (by decide)
    have fg := Fr.ofGrown (M := fun b => B.map (·.block) = some b) hg7 (fun g hg => hg)
    have hMB : ¬ B.map (·.block) = some M := fun e => hne7 M (by rw [ownBlock_sl']; exact e) rfl
    have hNB : ¬ B.map (·.block) = some N := fun e => by
      have := HBN.out N e
      exact this rfl
    replace hF := And.intro ((World.cell?_of_block (a := ⟨M, 2, none⟩) (fg.block M (Cod.bxd_lt hM6) hMB)).trans hF.1) (Cod.rd_fr hF.2 fg hNB)
    refine hK.out _ _ hF (fun hA => ?_)
    clear hK K'
    as_aux_lemma =>
    iterate 2
      refine wpAnyS_take (v := ?_) hA rfl (fun _ _ _ h => h) (Or.inl ⟨by rfl, ?_⟩) hF (fun hA => ?_)
      rotate_left
      · intro wS hSw; (try dsimp only at hSw); obtain ⟨s1, s2⟩ := hSw; first | (apply Eq.trans; apply ex_ldO_at; exact rfl; exact rfl; assumption; with_reducible rfl) | (go_simp; try with_reducible rfl)
      try simp only [List.getElem_toArray, List.getElem_cons_zero, List.getElem_cons_succ, Act.put, List.setIfInBounds_toArray, List.set_cons_zero, List.set_cons_succ]
    refine wpAnyS_end hA rfl ?_
    simp only [List.drop_succ_cons, List.drop_zero]
    clear hF hk
    have hM7 := Cod.bxd_fr hM6 fg hMB
    have q7 := (mkAt (Cod.bxd_rd hM7)).ops
    have z7 := (Cod.bxd_blk hM7).frozen 2
    have hR7 := hR6.growO hg7 (by have := ho7; rw [HRS.out] at this; exact this) ((hi5.fr fd).fr fn) (own_new0 (own_new0 hr5 fd) fn)
    have hf7 := Fr.own' ((hf5.step0 fd).step0 fn) hR6.hrs hg7
    have fK7 := ((fK5.step0 fd).step0 fn).trans fg (fun b _ hb => HBK.out b hb)
    go_wp2_with fail
    go_end0
    have hM8 := Cod.bxd_set hM7 2 (.slice A7 rs'.length c7) _ (seM_ops _ _ _ _)
    have g8 := Cod.set_fr w7 M 2 (.slice A7 rs'.length c7)
    rw [← HRS.out] at hR7
    rw [HBV.out]
    exact ⟨rfl, ⟨A7, c7, rs', hM8, hR7.box (Cod.bxd_blk hM7) (by decide) (by decide) (by decide) g8, hf7.step1 g8 hMn, hMn⟩, fK7.trans g8 (fun b _ hb => HMK.out b hb)⟩
  | false =>
    go_upto_region 4 with (go_at_call 30; refine (sgood_any _ r' o' hi3).mono ?_; rintro e w4 ⟨rfl, f4⟩; have q34 := cell_fr0 q3 f4; have hM4 := Cod.bxd_fr0 hM3 f4; have z34 := (Cod.bxd_blk hM4).frozen 3)
    have hM5 := Cod.bxd_set hM4 3 (.bool (!goodOp o')) _ (seM_bad _ _)
    have g5 := Cod.set_fr w4 M 3 (.bool (!goodOp o'))
    have hR5 := (hR3.new f4).box (Cod.bxd_blk hM4) (by decide) (by decide) (by decide) g5
    have hr5 := own_box (Cod.bxd_blk hM4) (own_new0 hr3 f4) (by decide) g5
    have hi5 := hi3.of hr5
    have p5 := Cod.bxd_fr (Cod.bxd_fr0 p4 f4) g5 (fun e => HN.out.2 (by have e' : N = M := e; exact e'.symm))
    have hf5 := (hf3.step0 f4).step1 g5 hMn
    have fK5 := (fK3.step0 f4).trans g5 (fun b _ hb => HMK.out b hb)
    generalize World.setCell _ _ _ = W5 at hM5 hR5 hr5 hi5 p5 hf5 fK5 ⊢
    clear g5 hM3 hR3 hr3 hi3 p4 hf3 q3 z3 q4 q34 hM4 z34 f4 fK3
    simp only at hM5
    have HBV := Lib.hid (HBD.out.trans (Bool.false_or _))
    -- the flag is set: world W5, of which hM5 .. speak
    have q5 := (mkAt (Cod.bxd_rd hM5)).ops
    have q6 := Cod.bxd_rd p5
    have z5 := (Cod.bxd_blk hM5).frozen 2
    have hk : ∀ w' w'' : World, Fr noB w' w'' → (w'.cell? ⟨M, 2, none⟩ = some (.slice B rs.length d) ∧ codO.rd w' N 0 = some r') → (w''.cell? ⟨M, 2, none⟩ = some (.slice B rs.length d) ∧ codO.rd w'' N 0 = some r') := fun w' w'' f h => ⟨cell_fr0 h.1 f, Cod.rd_fr0 h.2 f⟩
    have fd := (Fr.refl noB W5).drew
    refine wp_region_M 10 11 [⟨1073741824, 1, 0⟩, ⟨2147483648, 1, 0⟩, ⟨4294967296, 2147483648, 2⟩, ⟨8589934592, 4294967296, 4⟩, ⟨17179869184, 8589934592, 8⟩, ⟨34359738368, 8, 0⟩, ⟨68719476736, 34359738368, 32⟩, ⟨137438953472, 85899345920, 80⟩, ⟨274877906944, 1073741824, 255⟩, ⟨549755813888, 274877906944, 511⟩, ⟨0, 687194767360, 767⟩] [(true, 0), (true, 1), (true, 5), (true, 2), (true, 3), (true, 4), (false, 6), (false, 7), (true, 8), (true, 9)] (fun w' => w'.cell? ⟨M, 2, none⟩ = some (.slice B rs.length d) ∧ codO.rd w' N 0 = some r') (by kernel_rfl) rfl (by kernel_rfl) (by kernel_rfl) (by kernel_rfl) (hk _ _ fd ⟨q5, q6⟩) (fun hA hF => ?_)
    iterate 6
      refine wpAnyS_take (v := ?_) hA rfl (fun _ _ _ h => h) (Or.inl ⟨by rfl, ?_⟩) hF (fun hA => ?_)
      rotate_left
      · intro wS hSw; (try dsimp only at hSw); obtain ⟨s1, s2⟩ := hSw; first | (apply Eq.trans; apply ex_ldO_at; exact rfl; exact rfl; assumption; with_reducible rfl) | (go_simp; try with_reducible rfl)
      try simp only [List.getElem_toArray, List.getElem_cons_zero, List.getElem_cons_succ, Act.put, List.setIfInBounds_toArray, List.set_cons_zero, List.set_cons_succ]
    refine wpAnyS_one hA rfl (fun K' hK => ?_)
    refine step_runI rfl _ _ (ex_bsO_at (x := r') rfl rfl) ?_
    have fn : Fr noB W5.drew (W5.drew.alloc (codO.ro [r'])) := (Fr.refl noB _).alloc _
    have sl := Cod.sl_new (C := codO) W5.drew [r']
    replace hF := hk _ _ fn hF
    refine hK.out _ _ hF (fun hA => ?_)
    clear hK K'
    as_aux_lemma =>
    refine wpAnyS_one hA rfl (fun K' hK => ?_)
    refine step_appC' etO W _ rfl _ _ rfl B rs.length d rs rfl rfl (own_new0 (own_new0 hR5.hrs fd) fn) (some ⟨W5.drew.heap.size, 0, none⟩) 1 1 [r'] rfl sl rfl (by have := HLEN.out; simp; omega) ((hf5.step0 fd).step0 fn).size ?_
    intro A7 c7 w7 hc7 hm7 ho7 hg7 hA7
    obtain ⟨rs', hrs'⟩ : ∃ l : List OpW, l = rs ++ [r'] := ⟨_, rfl⟩
    rw [← hrs'] at ho7 ⊢
    have HRS := Lib.hid hrs'
    clear hrs'
    have hM6 := Cod.bxd_fr0 (Cod.bxd_fr0 hM5 fd) fn
    have hR6 := (hR5.new fd).new fn
    have hne7 := (Cod.bxd_blk hM6).ne_own hR6.hrs (by decide)
    have fg := Fr.ofGrown (M := fun b => B.map (·.block) = some b) hg7 (fun g hg => hg)
    have hMB : ¬ B.map (·.block) = some M := fun e => hne7 M (by rw [ownBlock_sl']; exact e) rfl
    have hNB : ¬ B.map (·.block) = some N := fun e => by
      have := HBN.out N e
      exact this rfl
    replace hF := And.intro ((World.cell?_of_block (a := ⟨M, 2, none⟩) (fg.block M (Cod.bxd_lt hM6) hMB)).trans hF.1) (Cod.rd_fr hF.2 fg hNB)
    refine hK.out _ _ hF (fun hA => ?_)
    clear hK K'
    as_aux_lemma =>
    iterate 2
      refine wpAnyS_take (v := ?_) hA rfl (fun _ _ _ h => h) (Or.inl ⟨by rfl, ?_⟩) hF (fun hA => ?_)
      rotate_left
      · intro wS hSw; (try dsimp only at hSw); obtain ⟨s1, s2⟩ := hSw; first | (apply Eq.trans; apply ex_ldO_at; exact rfl; exact rfl; assumption; with_reducible rfl) | (go_simp; try with_reducible rfl)
      try simp only [List.getElem_toArray, List.getElem_cons_zero, List.getElem_cons_succ, Act.put, List.setIfInBounds_toArray, List.set_cons_zero, List.set_cons_succ]
    refine wpAnyS_end hA rfl ?_
    simp only [List.drop_succ_cons, List.drop_zero]
    clear hF hk
    have hM7 := Cod.bxd_fr hM6 fg hMB
    have q7 := (mkAt (Cod.bxd_rd hM7)).ops
    have z7 := (Cod.bxd_blk hM7).frozen 2
    have hR7 := hR6.growO hg7 (by have := ho7; rw [HRS.out] at this; exact this) ((hi5.fr fd).fr fn) (own_new0 (own_new0 hr5 fd) fn)
    have hf7 := Fr.own' ((hf5.step0 fd).step0 fn) hR6.hrs hg7
    have fK7 := ((fK5.step0 fd).step0 fn).trans fg (fun b _ hb => HBK.out b hb)
    go_wp2_with fail
    go_end0
    have hM8 := Cod.bxd_set hM7 2 (.slice A7 rs'.length c7) _ (seM_ops _ _ _ _)
    have g8 := Cod.set_fr w7 M 2 (.slice A7 rs'.length c7)
    rw [← HRS.out] at hR7
    rw [HBV.out]
    exact ⟨rfl, ⟨A7, c7, rs', hM8, hR7.box (Cod.bxd_blk hM7) (by decide) (by decide) (by decide) g8, hf7.step1 g8 hMn, hMn⟩, fK7.trans g8 (fun b _ hb => HMK.out b hb)⟩
/-- the maker behind the operations L, numbered from s on -/
def MkL (W w : World) (M : Nat) (s : St) (L : List Opn) : Prop := MkS W w M ⟨s.T + L.length, s.R⟩ (!(numS s L).all goodOp) (numS s L)
theorem MkL.new {W w w' : World} {M : Nat} {s : St} {L : List Opn} (h : MkL W w M s L) (f : Fr noB w w') : MkL W w' M s L := MkS.new h f
theorem put_l (W w : World) (M : Nat) (s : St) (L : List Opn) (h : MkL W w M s L) (hs : 0 ≤ s.T ∧ s.T ≤ 100000000000000) (hl : L.length ≤ 100000000) (r : OpW) (o : Opn) (ho : OpV W w r o) :
    Calls Tryz.prog 58 #[.pointer (some ⟨M, 0, none⟩), .agg (codO.A r)] w fun e w' => e = .returned (.tuple #[]) ∧ MkL W w' M s (L ++ [o]) ∧ Fr (MkB w) w w' := by
  refine (put_m W w M _ _ _ h (by simp only; omega) (by rw [numS_len]; omega) r o ho).mono ?_
  rintro e w' ⟨he, h1, h2⟩
  refine ⟨he, ?_, h2⟩
  unfold MkL
  rw [numS_app]
  have e1 : (⟨s.T + (L ++ [o]).length, s.R⟩ : St) = ⟨s.T + L.length + 1, s.R⟩ := by
    simp only [List.length_append, List.length_singleton, St.mk.injEq, and_true]
    omega
  rw [e1]
  have e2 : (!(numS s L ++ [{ o with At := ⟨s.T + L.length, s.R⟩ }]).all goodOp) = (!(numS s L).all goodOp || !goodOp { o with At := ⟨s.T + L.length, s.R⟩ }) := by
    rw [List.all_append, Bool.not_and]
    simp
  rw [e2]
  exact h1
/-- what a put leaves as it is -/
theorem mpT_mk {w w' : World} (f : Fr (MkB w) w w') {r : Nat} {kv : List (St × Value)} (h : mpT w r = some kv) : mpT w' r = some kv := mpT_fr h f (fun ⟨cs, t, z, hb, _⟩ => mpT_ne h hb rfl)
theorem sl_mk {w w' : World} (f : Fr (MkB w) w w') {α : Type} {C : Cod α} {base n c : Nat} {A : Option Addr} {xs : List Value} (h : w.ownsRow base C.t C.n (.slice A n c) n xs) (h1 : C.t ≠ 42) (h2 : C.t ≠ 63) : w'.ownsRow base C.t C.n (.slice A n c) n xs := by
  refine own_fr h f (fun g hg hM => ?_)
  obtain ⟨cs, t, z, hb, ht⟩ := hM
  rcases h.2 with ⟨hv, _⟩ | ⟨g1, cap, cur, hv, _, hgg, _⟩
  · rw [hv] at hg; cases hg
  · rw [hv] at hg
    injection hg with hg
    subst hg
    rw [hgg] at hb
    injection hb with hb
    injection hb with _ ht2
    subst ht2
    rcases ht with ht | ht
    · exact h1 ht
    · exact h2 ht
end Go.Proofs.YtefcalkbfaefgaaGreat
namespace Go.Proofs.YtefcalkbfaefgaaGreat
open Go.RowKit Go.Sort
set_option linter.unusedVariables false
set_option linter.unusedSimpArgs false

@[simp] theorem str_beq (a b : List UInt8) : ((str a).toList == (str b).toList) = decide (a = b) := by
  rw [str_toList, str_toList]
  by_cases h : a = b
  · simp [h]
  · simp [h]
theorem cmpI_call (w : World) (a b : Int) : Calls Tryz.prog 52 #[.int .i64 a, .int .i64 b] w (Gives w (.int .i64 (cmpZ a b))) := (compareI_any w a b).mono fun e w' ⟨h1, h2⟩ => ⟨h1, h2 ▸ Fr.refl _ _⟩
def cfD (ys : List RwP) (x y : RwW) : Int := cmpZ (depthN ys ys.length x.Node) (depthN ys ys.length y.Node)
theorem cfD_neg (ys : List RwP) (x y : RwW) : ltC (cfD ys) x y = decide (depthN ys ys.length x.Node < depthN ys ys.length y.Node) := by
  unfold ltC cfD cmpZ
  by_cases h : depthN ys ys.length x.Node < depthN ys ys.length y.Node
  · have h' : (depthN ys ys.length x.Node : Int) < (depthN ys ys.length y.Node : Int) := by omega
    simp [h, h']
  · have h' : ¬ (depthN ys ys.length x.Node : Int) < (depthN ys ys.length y.Node : Int) := by omega
    rw [if_neg h']
    split <;> simp [h]
theorem swoD (ys : List RwP) : SWO (ltC (cfD ys)) where
  irrefl x := by rw [cfD_neg]; simp
  trans x y z h1 h2 := by
    rw [cfD_neg, decide_eq_true_eq] at *
    omega
  ntrans x y z h1 h2 := by
    rw [cfD_neg, decide_eq_false_iff_not] at *
    omega
/-- what the order is asked of -/
def okDd (ys : List RwP) (x : RwW) : Prop := wfS x.Node = true ∧ reach ys ys.length x.Node = true
set_option maxRecDepth 100000 in
set_option maxHeartbeats 1000000 in
theorem moves1_any (w : World) (Y t : Nat) (rs : List RwW) (ys : List RwP) (hY : w.cell? ⟨Y, 0, none⟩ = some (.map (some t))) (hm : mpT w t = some (tab rs)) (hR : RwsIn w rs ys) (hl : ys.length ≤ 100000) (x y : RwW) (hx : okDd ys x) (hy : okDd ys y) :
    Calls Tryz.prog 56 #[.agg (codR.A x), .agg (codR.A y), .pointer (some ⟨Y, 0, none⟩)] w (Gives w (.int .i64 (cfD ys x y))) := by
  have fa : Fr noB w ((w.alloc (.cells (codR.A x) 36)).alloc (.cells (codR.A y) 36)) := ((Fr.refl noB w).alloc _).alloc _
  have q1 := (rwAt (Cod.rd_fr0 (Cod.rd_new (C := codR) w 36 x) ((Fr.refl noB _).alloc (.cells (codR.A y) 36)))).node
  have q2 := (rwAt (Cod.rd_new (C := codR) (w.alloc (.cells (codR.A x) 36)) 36 y)).node
  have hz : (w.alloc (.cells (codR.A x) 36)).heap.size = w.heap.size + 1 := by simp
  rw [hz] at q2
  have q0 := cell_fr0 hY fa
  have hm1 := mpT_fr0 hm fa
  have hR1 := hR.fr fa
  have z1 : w.heap.size < ((w.alloc (.cells (codR.A x) 36)).alloc (.cells (codR.A y) 36)).heap.size := by simp; omega
  have z2 : w.heap.size + 1 < ((w.alloc (.cells (codR.A x) 36)).alloc (.cells (codR.A y) 36)).heap.size := by simp
  have z3 : Y < ((w.alloc (.cells (codR.A x) 36)).alloc (.cells (codR.A y) 36)).heap.size := by
    have : Y < w.heap.size := World.block_lt_of_cell? _ _ hY
    have := fa.size
    omega
  have HCF := Lib.hid (show cfD ys x y = cmpZ (depthN ys ys.length x.Node) (depthN ys ys.length y.Node) from rfl)
  clear hz hY hm hR
  go_enter Tryz.func56, Tryz.ntmps56
  go_upto_region 1 with fail
  generalize (w.alloc (.cells (codR.A x) 36)).alloc (.cells (codR.A y) 36) = W1 at fa q0 q1 q2 hm1 hR1 z1 z2 z3 ⊢
  have D1 : ∀ w', Fr noB W1 w' → Calls Tryz.prog 57 #[.map (some t), .agg (codS.A x.Node)] w' (Gives w' (.int .i64 (depthN ys ys.length x.Node))) := fun w' f => depth_any w' t rs ys (mpT_fr0 hm1 f) (hR1.fr f) x.Node hx.1 ys.length hx.2 (by omega)
  have D2 : ∀ w', Fr noB W1 w' → Calls Tryz.prog 57 #[.map (some t), .agg (codS.A y.Node)] w' (Gives w' (.int .i64 (depthN ys ys.length y.Node))) := fun w' f => depth_any w' t rs ys (mpT_fr0 hm1 f) (hR1.fr f) y.Node hy.1 ys.length hy.2 (by omega)
  generalize depthN ys ys.length x.Node = a at D1 HCF
  generalize depthN ys ys.length y.Node = b at D2 HCF
  have C3 := fun wS : World => cmpI_call wS (a : Int) (b : Int)
  generalize cmpZ (a : Int) (b : Int) = z at C3 HCF
  clear hm1 hR1
  refine wp_region_fr (by kernel_rfl) (by kernel_rfl) ?_
  iterate 3
    refine wpQ_take (v := ?_) (by rfl) (fun wS hS => ?_) ?_
    rotate_left
    · obtain ⟨L1, L2, L3, L4, L5, L6⟩ := Fr.same hS; have L7 := Fr.sameR hS; go_simp; try with_reducible rfl
    try simp only [List.getElem_toArray, List.getElem_cons_zero, List.getElem_cons_succ, Act.put, List.setIfInBounds_toArray, List.set_cons_zero, List.set_cons_succ]
  refine wpQ_call (by rfl) (fun wS hS => ⟨_, _, ?qh69, Calls.fr hS (D1 _ hS)⟩) ?qk69
  case qh69 => obtain ⟨L1, L2, L3, L4, L5, L6⟩ := Fr.same hS; go_simp; try with_reducible rfl
  try simp only [List.getElem_toArray, List.getElem_cons_zero, List.getElem_cons_succ, Act.put, List.setIfInBounds_toArray, List.set_cons_zero, List.set_cons_succ]
  iterate 3
    refine wpQ_take (v := ?_) (by rfl) (fun wS hS => ?_) ?_
    rotate_left
    · obtain ⟨L1, L2, L3, L4, L5, L6⟩ := Fr.same hS; have L7 := Fr.sameR hS; go_simp; try with_reducible rfl
    try simp only [List.getElem_toArray, List.getElem_cons_zero, List.getElem_cons_succ, Act.put, List.setIfInBounds_toArray, List.set_cons_zero, List.set_cons_succ]
  refine wpQ_call (by rfl) (fun wS hS => ⟨_, _, ?qh77, Calls.fr hS (D2 _ hS)⟩) ?qk77
  case qh77 => obtain ⟨L1, L2, L3, L4, L5, L6⟩ := Fr.same hS; go_simp; try with_reducible rfl
  try simp only [List.getElem_toArray, List.getElem_cons_zero, List.getElem_cons_succ, Act.put, List.setIfInBounds_toArray, List.set_cons_zero, List.set_cons_succ]
  refine wpQ_call (by rfl) (fun wS hS => ⟨_, _, ?qh80, Calls.fr hS (C3 _)⟩) ?qk80
  case qh80 => obtain ⟨L1, L2, L3, L4, L5, L6⟩ := Fr.same hS; go_simp; try with_reducible rfl
  try simp only [List.getElem_toArray, List.getElem_cons_zero, List.getElem_cons_succ, Act.put, List.setIfInBounds_toArray, List.set_cons_zero, List.set_cons_succ]
  refine wpQ_take (v := ?_) (by rfl) (fun wS hS => ?_) ?_
  rotate_left
  · obtain ⟨L1, L2, L3, L4, L5, L6⟩ := Fr.same hS; have L7 := Fr.sameR hS; go_simp; try with_reducible rfl
  try simp only [List.getElem_toArray, List.getElem_cons_zero, List.getElem_cons_succ, Act.put, List.setIfInBounds_toArray, List.set_cons_zero, List.set_cons_succ]
  refine wpQ_nil ?_
  intro w1 f1
  go_wp2_with fail
  go_ret
  exact ⟨by rw [HCF.out]; rfl, fa.step0 f1⟩
/-! moves -/
def movedW (as_ : List RwW) (r : RwW) : Bool := match findW as_ r.Node with
  | none => true
  | some x => !(decide (x.Parent = r.Parent) && decide (x.Name = r.Name))
def goneW (bs : List RwW) (r : RwW) : Bool := (findW bs r.Node).isNone && decide (r.Parent ≠ trS)
theorem movedW_eq {w : World} {as_ : List RwW} {xs : List RwP} (h : RwsIn w as_ xs) {r : RwW} {x : RwP} (hr : RwIn w r x) : movedW as_ r = movedR xs x := by
  unfold movedW movedR
  rw [hr.node]
  rcases h.find r.Node with ⟨h1, h2⟩ | ⟨r', x', h1, h2, h3⟩
  · rw [h1, h2]
  · rw [h1, h2]
    simp only [h3.parent, h3.name, hr.parent, hr.name]
theorem goneW_eq {w : World} {bs : List RwW} {ys : List RwP} (h : RwsIn w bs ys) {r : RwW} {x : RwP} (hr : RwIn w r x) : goneW bs r = goneR ys x := by
  unfold goneW goneR
  rw [hr.node, hr.parent]
  rcases h.find r.Node with ⟨h1, h2⟩ | ⟨r', x', h1, h2, h3⟩
  · rw [h1, h2]; rfl
  · rw [h1, h2]; rfl
/-- the plain row of a row of a tree's -/
def plR (ys : List RwP) (r : RwW) : RwP := (findR ys r.Node).getD ⟨zSt, zSt, zSt, [], []⟩
theorem plR_eq {w : World} {bs : List RwW} {ys : List RwP} (h : RwsIn w bs ys) (hn : (ys.map (·.Node)).Nodup) {r : RwW} {x : RwP} (hx : x ∈ ys) (hr : RwIn w r x) : plR ys r = x := by
  unfold plR
  rw [← hr.node, findR_mem hn hx]
  rfl
theorem filter_two {w : World} : ∀ {bs : List RwW} {ys : List RwP} (all : List RwP), RwsIn w bs ys → (all.map (·.Node)).Nodup → (∀ y ∈ ys, y ∈ all) → ∀ (f : RwW → Bool) (g : RwP → Bool), (∀ r x, RwIn w r x → f r = g x) → (bs.filter f).map (plR all) = ys.filter g
  | [], ys, all, h, hn, hs, f, g, hfg => by
    have := h.len
    obtain rfl : ys = [] := List.length_eq_zero_iff.1 (by simpa using this.symm)
    rfl
  | r :: bs, [], all, h, hn, hs, f, g, hfg => by have := h.len; simp at this
  | r :: bs, y :: ys, all, h, hn, hs, f, g, hfg => by
    obtain ⟨h1, h2⟩ := h.tail
    have ih := filter_two all h2 hn (fun z hz => hs z (List.mem_cons_of_mem _ hz)) f g hfg
    have hy : plR all r = y := by
      unfold plR
      rw [← h1.node, findR_mem hn (hs y (List.mem_cons_self ..))]
      rfl
    rw [List.filter_cons, List.filter_cons, hfg r y h1]
    split
    · rw [List.map_cons, ih, hy]
    · exact ih
def mvWd (r : RwW) : OpW := { zOpW with Kind := 1, Node := r.Node, Parent := r.Parent, Name := r.Name }
def trW (r : RwW) : OpW := { zOpW with Kind := 1, Node := r.Node, Parent := trS, Name := r.Name }
theorem mvV {W w w' : World} {r : RwW} {x : RwP} (h : RwIn w r x) : OpV W w' (mvWd r) (mvO x) :=
  ⟨⟨by unfold mvO opOf mvWd zOpW; simp only [h.node, h.parent, h.name], rfl, Sl.nil _ _, by simp [mvO], h.nm⟩, World.ownsRow_nil _ _ _ _⟩
theorem trV {W w w' : World} {r : RwW} {x : RwP} (h : RwIn w r x) : OpV W w' (trW r) (trO x) :=
  ⟨⟨by unfold trO opOf trW zOpW; simp only [h.node, h.name], rfl, Sl.nil _ _, by simp [trO], h.nm⟩, World.ownsRow_nil _ _ _ _⟩
def MvA (w : World) (W : World) (M : Nat) (s : St) (as_ bs : List RwW) (gk : Nat) (lv iv : Value) (wr : World) : Prop :=
  ∃ (k : Nat) (A8 : Option Addr) (c8 : Nat) (ls : List RwW), iv = .int .i64 (k : Int) ∧ lv = .slice A8 ls.length c8 ∧ gk = bs.length - k ∧ k ≤ bs.length ∧ ls = (bs.take k).filter (movedW as_) ∧ OwnC codR w wr A8 c8 ls ∧ Fr noB w wr
theorem filter_take_succ {α : Type} (f : α → Bool) (l : List α) (k : Nat) (h : k < l.length) : (l.take (k + 1)).filter f = (l.take k).filter f ++ (if f l[k] then [l[k]] else []) := by
  rw [List.take_succ_eq_append_getElem h, List.filter_append]
  congr 1
  by_cases hf : f l[k] <;> simp [hf]
theorem length_filter_take {α : Type} (f : α → Bool) (l : List α) (k : Nat) : ((l.take k).filter f).length ≤ k := by
  have := List.length_filter_le f (l.take k)
  rw [List.length_take] at this
  omega
end Go.Proofs.YtefcalkbfaefgaaGreat
namespace Go.Proofs.YtefcalkbfaefgaaGreat
open Go.RowKit Go.Sort
set_option linter.unusedVariables false
set_option linter.unusedSimpArgs false

theorem RwA.mk_ {w w' : World} {g : Nat} {d : Array RwW} (h : RwA codR w g d) (f : Fr (MkB w) w w') : RwA codR w' g d := by
  have hl := h.lt
  obtain ⟨cur, hg, ht⟩ := h
  refine ⟨cur, (f.block g hl fun hM => ?_).trans hg, ht⟩
  obtain ⟨cs, t, z, hb, h1⟩ := hM
  rw [hg] at hb
  injection hb with hb
  injection hb with _ h2
  subst h2
  rcases h1 with h1 | h1 <;> exact absurd h1 (by decide)
theorem Blk.mk_ {w w' : World} {g : Nat} {cs : List Value} (h : Blk w g 81 cs) (f : Fr (MkB w) w w') : Blk w' g 81 cs := h.fr f fun ⟨cs', t, z, hb, h1⟩ => by
  unfold Blk at h
  rw [h] at hb
  injection hb with hb
  injection hb with _ h2
  subst h2
  rcases h1 with h1 | h1 <;> exact absurd h1 (by decide)
def MvB (V : World) (M : Nat) (s : St) (ys : List RwP) (A8 : Option Addr) (l : List RwW) (Y t2 : Nat) (bs : List RwW) (gk : Nat) (iv : Value) (wr : World) : Prop :=
  ∃ k : Nat, iv = .int .i64 (k : Int) ∧ gk = l.length - k ∧ k ≤ l.length ∧ MkL V wr M s ((l.take k).map fun r => mvO (plR ys r)) ∧ (∀ g, A8 = some ⟨g, 0, none⟩ → l ≠ [] → RwA codR wr g l.toArray) ∧ Blk wr Y 81 [.map (some t2)] ∧ mpT wr t2 = some (tab bs)
def MvC (V : World) (M : Nat) (s : St) (L1 : List Opn) (xs ys : List RwP) (Y t2 : Nat) (bs : List RwW) (gk : Nat) (iv : Value) (wr : World) : Prop :=
  ∃ k : Nat, iv = .int .i64 (k : Int) ∧ gk = xs.length - k ∧ k ≤ xs.length ∧ MkL V wr M s (L1 ++ ((xs.take k).filter (goneR ys)).map trO) ∧ Blk wr Y 81 [.map (some t2)] ∧ mpT wr t2 = some (tab bs)
theorem own_ne_map {w : World} {base : Nat} {e : TypeId} {size n c : Nat} {A : Option Addr} {xs : List Value} (h : w.ownsRow base e size (.slice A n c) n xs) {r : Nat} {kv : List (St × Value)} (hm : mpT w r = some kv) : ¬ A.map (·.block) = some r := fun e => by
  rcases h.2 with ⟨hv, _⟩ | ⟨g, cap, cur, hv, _, hg, _⟩
  · injection hv with hv; subst hv; cases e
  · injection hv with hv
    subst hv
    simp only [Option.map_some, Option.some.injEq] at e
    exact mpT_ne hm hg e
theorem MkL.two {V w w' : World} {M : Nat} {s : St} {L : List Opn} (h : MkL V w M s L) {base n c : Nat} {A : Option Addr} {xs : List Value} (ho : w.ownsRow base codR.t codR.n (.slice A n c) n xs) (hb : V.heap.size ≤ base) (f : Fr (fun b => A.map (·.block) = some b) w w') : MkL V w' M s L := by
  obtain ⟨B, d, rs, h1, h2, h3, h4⟩ := h
  have hne := (Cod.bxd_blk h1).ne_own ho (by decide)
  refine ⟨B, d, rs, Cod.bxd_fr h1 f (fun e => hne M (by rw [ownBlock_sl']; exact e) rfl), ⟨own_two ho h2.hps (by decide) f, own_two ho h2.hrs (by decide) f, h2.hos.map fun v n l hv => own_two ho hv (by decide) f⟩, h3.step f (fun b hb' => .inl ?_), h4⟩
  have := (own_lt ho b hb').1
  omega
/-- the moves of a turn -/
def MvTo (V : World) (M : Nat) (s : St) (xs ys : List RwP) (e : Ending) (w' : World) : Prop := e = .returned (.tuple #[]) ∧ ∃ l : List RwP, l.Perm (ys.filter (movedR xs)) ∧ l.Pairwise (fun p q => ¬ depthN ys ys.length q.Node < depthN ys ys.length p.Node) ∧ MkL V w' M s (l.map mvO ++ (xs.filter (goneR ys)).map trO)
set_option maxRecDepth 100000 in
set_option maxHeartbeats 8000000 in
theorem moves_any (V w : World) (M : Nat) (s : St) (hs : 0 ≤ s.T ∧ s.T ≤ 100000000000000) (h : MkL V w M s []) (A B : Option Addr) (c d n m : Nat) (as_ bs : List RwW) (xs ys : List RwP) (hn : as_.length = n) (hm : bs.length = m)
    (hSA : Sl V A (codR.row as_)) (hSB : Sl V B (codR.row bs)) (hX : RwsIn V as_ xs) (hY : RwsIn V bs ys) (tX : TreeOk xs) (tY : TreeOk ys) :
    Calls Tryz.prog 25 #[.pointer (some ⟨M, 0, none⟩), .slice A n c, .slice B m d] w (MvTo V M s xs ys) := by
  subst hn hm
  have hla : as_.length ≤ 5000 := by rw [hX.len]; exact tX.len
  have hlb : bs.length ≤ 5000 := by rw [hY.len]; exact tY.len
  have hV := MkS.fr h
  have ndA : (as_.map (·.Node)).Nodup := by rw [hX.nodes]; exact tX.nd
  have ndB : (bs.map (·.Node)).Nodup := by rw [hY.nodes]; exact tY.nd
  have HNB := Lib.hid tY.nd
  have C1 := of_any w A c as_.length as_ rfl (hSA.fr0 hV) (by omega) ndA (fun r hr => (hX.wf hr).1)
  have C2 := fun w' => fun (f : Fr noB w w') => of_any w' B d bs.length bs rfl ((hSB.fr0 hV).fr0 f) (by omega) ndB (fun r hr => (hY.wf hr).1)
  have HC := Lib.hid (And.intro C1 C2)
  clear C1 C2 ndA ndB
  go_enter Tryz.func25, Tryz.ntmps25
  have tok : True := trivial
  go_upto_region 1 with (first
    | (go_at_call 40; have _t := tok; refine HC.out.1.mono ?_; rintro e w1 ⟨t1, rfl, m1, hg1, f1⟩; clear tok _t)
    | (go_at_call 40; refine (HC.out.2 w1 f1).mono ?_; rintro e w2 ⟨t2, rfl, m2, hg2, f2⟩))
  have fY : Fr noB w2 (w2.alloc (.cells #[.map (some t2)] 81)) := (Fr.refl noB w2).alloc _
  have bY : Blk (w2.alloc (.cells #[.map (some t2)] 81)) w2.heap.size 81 [.map (some t2)] := Blk.new w2 81 [.map (some t2)]
  have m1' := mpT_fr0 (mpT_fr0 m1 f2) fY
  have m2' := mpT_fr0 m2 fY
  have fW := (f1.step0 f2).step0 fY
  clear HC m1 m2 hg1 hg2
  generalize w2.alloc (.cells #[.map (some t2)] 81) = W2 at bY m1' m2' fW ⊢
  clear f1 f2 fY
  obtain ⟨Y, hYe⟩ : ∃ x, x = w2.heap.size := ⟨_, rfl⟩
  rw [← hYe] at bY ⊢
  clear hYe
  have hVW := hV.step0 fW
  have HM := Lib.hid (MkL.new h fW)
  clear h hV
  go_wp2_with fail
  go_loopg [8, 25] bs.length (fun gk lv iv wr => MvA W2 V M s as_ bs gk lv iv wr)
  case atStart => exact ⟨0, none, 0, [], rfl, rfl, by omega, by omega, rfl, World.ownsRow_nil _ _ _ _, Fr.refl _ _⟩
  case round =>
    obtain ⟨k, A8, c8, ls, rfl, rfl, rfl, hk, hls, hown, hf2⟩ := hrel
    have HLS := Lib.hid hls
    have hlsb : ls.length ≤ k := by rw [hls]; exact length_filter_take _ _ _
    clear hls
    by_cases hlt : k < bs.length
    · have i1 : (k : Int) < (bs.length : Int) := by omega
      have i0 : (0 : Int) ≤ (k : Int) := by omega
      have hBr := (hSB.fr0 hVW).fr0 hf2
      obtain ⟨g, off, rfl, hg⟩ := hBr.adC (by omega)
      have e1 : codR.rd wr g (off + k * 8) = some bs[k] := hBr.rd k hlt
      have hwf := (hY.wf (List.getElem_mem hlt)).1
      have hnext := filter_take_succ (movedW as_) bs k hlt
      generalize bs[k] = r at e1 hwf hnext
      have HNX := Lib.hid hnext
      clear hnext
      have fa : Fr noB wr (wr.alloc (codR.o r)) := (Fr.refl noB wr).alloc _
      have mx := mpT_fr0 (mpT_fr0 m1' hf2) fa
      have n1 := Cod.rd_new' (C := codR) wr r
      have nn1 := (rwAt n1).node
      cases hfw : findW as_ r.Node with
      | none =>
        have HMV := Lib.hid (show movedW as_ r = true by unfold movedW; rw [hfw])
        have hlk : Go.Proofs.YtefcalkbfaefgaaGreat.look (tab as_) r.Node = none := by rw [look_tab, hfw]; rfl
        clear hfw
        -- the other row's box holds zRwW
        have fb : Fr noB (wr.alloc (codR.o r)) ((wr.alloc (codR.o r)).alloc (codR.o zRwW)) := (Fr.refl noB _).alloc _
        have n2 := Cod.rd_new' (C := codR) (wr.alloc (codR.o r)) zRwW
        have hz : (wr.alloc (codR.o r)).heap.size = wr.heap.size + 1 := by simp
        rw [hz] at n2
        have n1b := Cod.rd_fr0 n1 fb
        obtain ⟨u1, u2, u3, u4, u5, u6⟩ := rwAt n1b
        obtain ⟨v1, v2, v3, v4, v5, v6⟩ := rwAt n2
        have hown4 := own_new0 (own_new0 hown fa) fb
        have hf24 := (hf2.step0 fa).step0 fb
        clear hz n1b n2 n1 hown u1 u3 u5 v1 v3 v5 v6
        -- the row is taken
        have fr_ : Fr noB ((wr.alloc (codR.o r)).alloc (codR.o zRwW)) (((wr.alloc (codR.o r)).alloc (codR.o zRwW)).alloc (codR.ro [r])) := (Fr.refl noB _).alloc _
        have sl := Cod.sl_new (C := codR) ((wr.alloc (codR.o r)).alloc (codR.o zRwW)) [r]
        have hz2 : ((wr.alloc (codR.o r)).alloc (codR.o zRwW)).heap.size = wr.heap.size + 2 := by simp
        rw [hz2] at sl
        have hown5 := own_new0 hown4 fr_
        have hf25 := hf24.step0 fr_
        have hnx := HNX.out.trans (by rw [if_pos HMV.out, ← HLS.out])
        have HNX2 := Lib.hid hnx
        clear hz2 hown4 fr_ hf24 hnx
        go_wp2_with (at_builtin; refine wpList_appC' etR W2 _ rfl _ _ rfl A8 ls.length c8 ls rfl rfl hown5 (some ⟨wr.heap.size + 2, 0, none⟩) 1 1 [r] rfl sl rfl (by simp; omega) hf25.size ?_; intro A7 c7 w7 hc7 hmx7 ho7 hg7 hA7; obtain ⟨ls', hls'⟩ : ∃ l : List RwW, l = ls ++ [r] := ⟨_, rfl⟩; rw [← hls'] at ho7 ⊢; have HLE := Lib.hid hls'; clear hls' hmx7 hc7)
        have hf7 := Fr.own' hf25 hown5 hg7
        go_roundg (bs.length - (k + 1))
        case measure => omega
        case rel => exact ⟨k + 1, A7, c7, ls', by simp, rfl, rfl, by omega, by rw [HNX2.out]; exact HLE.out, ho7, hf7⟩
      | some x =>
        have hlk : Go.Proofs.YtefcalkbfaefgaaGreat.look (tab as_) r.Node = some (.agg (codR.A x)) := by rw [look_tab, hfw]; rfl
        have hmv : movedW as_ r = !(decide (x.Parent = r.Parent) && decide (x.Name = r.Name)) := by unfold movedW; rw [hfw]
        clear hfw
        by_cases hp : x.Parent = r.Parent
        · by_cases hq : x.Name = r.Name
          · have HMV := Lib.hid (show movedW as_ r = false by rw [hmv]; simp [hp, hq])
            have d1 : decide (x.Parent = r.Parent) = true := by simp [hp]
            have d2 : decide (x.Name = r.Name) = true := by simp [hq]
            clear hmv hp hq
            -- the other row's box holds x
            have fb : Fr noB (wr.alloc (codR.o r)) ((wr.alloc (codR.o r)).alloc (codR.o x)) := (Fr.refl noB _).alloc _
            have n2 := Cod.rd_new' (C := codR) (wr.alloc (codR.o r)) x
            have hz : (wr.alloc (codR.o r)).heap.size = wr.heap.size + 1 := by simp
            rw [hz] at n2
            have n1b := Cod.rd_fr0 n1 fb
            obtain ⟨u1, u2, u3, u4, u5, u6⟩ := rwAt n1b
            obtain ⟨v1, v2, v3, v4, v5, v6⟩ := rwAt n2
            have hown4 := own_new0 (own_new0 hown fa) fb
            have hf24 := (hf2.step0 fa).step0 fb
            clear hz n1b n2 n1 hown u1 u3 u5 v1 v3 v5 v6
            have hnx := HNX.out.trans (by rw [if_neg (by rw [HMV.out]; decide), ← HLS.out, List.append_nil])
            have HNX2 := Lib.hid hnx
            clear hnx
            go_wp2_with fail
            go_roundg (bs.length - (k + 1))
            case measure => omega
            case rel => exact ⟨k + 1, A8, c8, ls, by simp, rfl, rfl, by omega, HNX2.out.symm, hown4, hf24⟩
          · have HMV := Lib.hid (show movedW as_ r = true by rw [hmv]; simp [hq])
            have d1 : decide (x.Parent = r.Parent) = true := by simp [hp]
            have d2 : decide (x.Name = r.Name) = false := by simp [hq]
            clear hmv hp hq
            -- the other row's box holds x
            have fb : Fr noB (wr.alloc (codR.o r)) ((wr.alloc (codR.o r)).alloc (codR.o x)) := (Fr.refl noB _).alloc _
            have n2 := Cod.rd_new' (C := codR) (wr.alloc (codR.o r)) x
            have hz : (wr.alloc (codR.o r)).heap.size = wr.heap.size + 1 := by simp
            rw [hz] at n2
            have n1b := Cod.rd_fr0 n1 fb
            obtain ⟨u1, u2, u3, u4, u5, u6⟩ := rwAt n1b
            obtain ⟨v1, v2, v3, v4, v5, v6⟩ := rwAt n2
            have hown4 := own_new0 (own_new0 hown fa) fb
            have hf24 := (hf2.step0 fa).step0 fb
            clear hz n1b n2 n1 hown u1 u3 u5 v1 v3 v5 v6
            -- the row is taken
            have fr_ : Fr noB ((wr.alloc (codR.o r)).alloc (codR.o x)) (((wr.alloc (codR.o r)).alloc (codR.o x)).alloc (codR.ro [r])) := (Fr.refl noB _).alloc _
            have sl := Cod.sl_new (C := codR) ((wr.alloc (codR.o r)).alloc (codR.o x)) [r]
            have hz2 : ((wr.alloc (codR.o r)).alloc (codR.o x)).heap.size = wr.heap.size + 2 := by simp
            rw [hz2] at sl
            have hown5 := own_new0 hown4 fr_
            have hf25 := hf24.step0 fr_
            have hnx := HNX.out.trans (by rw [if_pos HMV.out, ← HLS.out])
            have HNX2 := Lib.hid hnx
            clear hz2 hown4 fr_ hf24 hnx
            go_wp2_with (at_builtin; refine wpList_appC' etR W2 _ rfl _ _ rfl A8 ls.length c8 ls rfl rfl hown5 (some ⟨wr.heap.size + 2, 0, none⟩) 1 1 [r] rfl sl rfl (by simp; omega) hf25.size ?_; intro A7 c7 w7 hc7 hmx7 ho7 hg7 hA7; obtain ⟨ls', hls'⟩ : ∃ l : List RwW, l = ls ++ [r] := ⟨_, rfl⟩; rw [← hls'] at ho7 ⊢; have HLE := Lib.hid hls'; clear hls' hmx7 hc7)
            have hf7 := Fr.own' hf25 hown5 hg7
            go_roundg (bs.length - (k + 1))
            case measure => omega
            case rel => exact ⟨k + 1, A7, c7, ls', by simp, rfl, rfl, by omega, by rw [HNX2.out]; exact HLE.out, ho7, hf7⟩
        · have HMV := Lib.hid (show movedW as_ r = true by rw [hmv]; simp [hp])
          have d1 : decide (x.Parent = r.Parent) = false := by simp [hp]
          clear hmv hp
          -- the other row's box holds x
          have fb : Fr noB (wr.alloc (codR.o r)) ((wr.alloc (codR.o r)).alloc (codR.o x)) := (Fr.refl noB _).alloc _
          have n2 := Cod.rd_new' (C := codR) (wr.alloc (codR.o r)) x
          have hz : (wr.alloc (codR.o r)).heap.size = wr.heap.size + 1 := by simp
          rw [hz] at n2
          have n1b := Cod.rd_fr0 n1 fb
          obtain ⟨u1, u2, u3, u4, u5, u6⟩ := rwAt n1b
          obtain ⟨v1, v2, v3, v4, v5, v6⟩ := rwAt n2
          have hown4 := own_new0 (own_new0 hown fa) fb
          have hf24 := (hf2.step0 fa).step0 fb
          clear hz n1b n2 n1 hown u1 u3 u5 v1 v3 v5 v6
          -- the row is taken
          have fr_ : Fr noB ((wr.alloc (codR.o r)).alloc (codR.o x)) (((wr.alloc (codR.o r)).alloc (codR.o x)).alloc (codR.ro [r])) := (Fr.refl noB _).alloc _
          have sl := Cod.sl_new (C := codR) ((wr.alloc (codR.o r)).alloc (codR.o x)) [r]
          have hz2 : ((wr.alloc (codR.o r)).alloc (codR.o x)).heap.size = wr.heap.size + 2 := by simp
          rw [hz2] at sl
          have hown5 := own_new0 hown4 fr_
          have hf25 := hf24.step0 fr_
          have hnx := HNX.out.trans (by rw [if_pos HMV.out, ← HLS.out])
          have HNX2 := Lib.hid hnx
          clear hz2 hown4 fr_ hf24 hnx
          go_wp2_with (at_builtin; refine wpList_appC' etR W2 _ rfl _ _ rfl A8 ls.length c8 ls rfl rfl hown5 (some ⟨wr.heap.size + 2, 0, none⟩) 1 1 [r] rfl sl rfl (by simp; omega) hf25.size ?_; intro A7 c7 w7 hc7 hmx7 ho7 hg7 hA7; obtain ⟨ls', hls'⟩ : ∃ l : List RwW, l = ls ++ [r] := ⟨_, rfl⟩; rw [← hls'] at ho7 ⊢; have HLE := Lib.hid hls'; clear hls' hmx7 hc7)
          have hf7 := Fr.own' hf25 hown5 hg7
          go_roundg (bs.length - (k + 1))
          case measure => omega
          case rel => exact ⟨k + 1, A7, c7, ls', by simp, rfl, rfl, by omega, by rw [HNX2.out]; exact HLE.out, ho7, hf7⟩
    · have hkn : k = bs.length := by omega
      subst hkn
      have i1 : ¬ (bs.length : Int) < (bs.length : Int) := by omega
      have hls := HLS.out
      rw [List.take_length] at hls
      have HLS2 := Lib.hid hls
      have hmem : ∀ r ∈ ls, r ∈ bs := fun r hr => by
        rw [hls] at hr
        exact (List.mem_filter.1 hr).1
      have hok : ∀ r ∈ ls, okDd ys r := fun r hr => by
        obtain ⟨x, hx, hin⟩ := hY.mem (hmem r hr)
        exact ⟨hin.wn, by rw [← hin.node]; exact tY.reach hx⟩
      have HOK := Lib.hid hok
      have HMEM := Lib.hid hmem
      have hyl : ys.length ≤ 100000 := by rw [← hY.len]; omega
      have HCM := Lib.hid (show ∀ g, A8 = some ⟨g, 0, none⟩ → CmpFRow (okDd ys) wr g (.pointer (some ⟨Y, 0, none⟩)) (cfD ys) ls.length from fun g hg W d hd S x y px py => by
        have hgn : W2.heap.size ≤ g ∧ g < wr.heap.size := by
          subst hg
          exact own_lt hown g rfl
        have fS : Fr noB W2 W := hf2.step1 S.fr hgn.1
        refine moves1_any W Y t2 bs ys ?_ (mpT_fr0 m2' fS) (hY.fr (hVW.step0 fS)) hyl x y px py
        have := (bY.fr fS (by simp [noB])).cell 0
        simpa using this)
      have HM2 := Lib.hid (MkL.new HM.out hf2)
      have bY2 := bY.fr hf2 (by simp [noB])
      have m22 := mpT_fr0 m2' hf2
      have hown' := hown
      have hf2' := hf2
      clear hls hmem hok m1' m2' bY HM hlt HLS hk
      go_upto_region 10 with (go_at_call 55; refine (ssRow_any (okDd ys) (cfD ys) (swoD ys) _ W2.heap.size A8 c8 ls.length ls (.pointer (some ⟨Y, 0, none⟩)) rfl hown HOK.out (by omega) HCM.out).mono ?_; rintro e w5 ⟨rfl, ls', hperm, hpw, hsl, f5, hra⟩)
      have hM5 := HM2.out.two hown' (Nat.le_trans (Nat.le_refl _) hVW.size) f5
      have bY5 := bY2.fr f5 (fun e => (bY2.ne_own hown' (by decide)) Y (by rw [ownBlock_sl']; exact e) rfl)
      have m25 := mpT_fr m22 f5 (own_ne_map hown' m22)
      have HGA := Lib.hid (show ls' ≠ [] → ∃ g, A8 = some ⟨g, 0, none⟩ from fun h0 => by
        have h1 : ls ≠ [] := fun e => h0 (by subst e; exact List.Perm.eq_nil hperm)
        obtain ⟨g, hg, _⟩ := RwA.own hown' h1
        exact ⟨g, hg⟩)
      have hlen := hperm.length_eq
      rw [← hlen]
      have HPW := Lib.hid hpw
      have HPERM := Lib.hid hperm
      have HRA := Lib.hid hra
      have hllb : ls'.length ≤ 5000 := by omega
      have HMEM2 := Lib.hid (show ∀ r ∈ ls', r ∈ bs from fun r hr => HMEM.out r (hperm.mem_iff.1 hr))
      clear hown hown' hf2 hf2' bY2 m22 HM2 HCM HOK HMEM hsl f5 hlen hpw hperm hra hlsb
      go_wp2_with fail
      go_loopg [62] ls'.length (fun gk iv wr => MvB V M s ys A8 ls' Y t2 bs gk iv wr)
      case atStart => exact ⟨0, rfl, by omega, by omega, hM5, HRA.out, bY5, m25⟩
      case round =>
        clear hM5 bY5 m25 HRA
        obtain ⟨k, rfl, rfl, hk, hM6, hra, bY6, m26⟩ := hrel
        have HRA := Lib.hid hra
        clear hra
        by_cases hlt : k < ls'.length
        · have i3 : (k : Int) < (ls'.length : Int) := by omega
          have i4 : (0 : Int) ≤ (k : Int) := by omega
          have hne : ls' ≠ [] := by intro h0; rw [h0] at hlt; simp at hlt
          obtain ⟨g, rfl⟩ := HGA.out hne
          have hra := HRA.out g rfl hne
          have e1 : codR.rd wr g (k * 8) = some ls'[k] := by
            have h1 : codR.rd wr g (k * 8) = some (ls'.toArray[k]!) := hra.rd k (by simpa using hlt)
            rw [getElem!_pos _ k (by simpa using hlt)] at h1
            simpa using h1
          have hmb := HMEM2.out _ (List.getElem_mem hlt)
          have hnext := List.take_succ_eq_append_getElem hlt
          generalize ls'[k] = r at e1 hmb hnext
          obtain ⟨y, hy, hin⟩ := hY.mem hmb
          have hpl := plR_eq hY HNB.out hy hin
          have HL := Lib.hid (show (ls'.take (k + 1)).map (fun r => mvO (plR ys r)) = (ls'.take k).map (fun r => mvO (plR ys r)) ++ [mvO (plR ys r)] by rw [hnext, List.map_append]; rfl)
          rw [← hpl] at hin
          have hRA := Lib.hid hra
          have fa : Fr noB wr (wr.alloc (codR.o r)) := (Fr.refl noB wr).alloc _
          obtain ⟨u1, u2, u3, u4, u5, u6⟩ := rwAt (Cod.rd_new' (C := codR) wr r)
          have hM7 := MkL.new hM6 fa
          have HOV := Lib.hid (show OpV V (wr.alloc (codR.o r)) (mvWd r) (mvO (plR ys r)) from mvV hin)
          have hbl : ((ls'.take k).map fun r => mvO (plR ys r)).length ≤ 100000000 := by simp; omega
          have HBL := Lib.hid hbl
          clear hnext hpl hy hmb hin hra hM6 u3 u5 u6 hbl
          go_wp2_with (go_at_call 58; refine (put_l V _ M s _ hM7 hs HBL.out (mvWd r) (mvO (plR ys r)) HOV.out).mono ?_; rintro e w8 ⟨rfl, hM8, f8⟩)
          go_roundg (ls'.length - (k + 1))
          case measure => omega
          case rel => exact ⟨k + 1, by simp, rfl, by omega, by rw [HL.out]; exact hM8, fun g' hg' _ => by
            injection hg' with hg'
            injection hg' with hg'
            subst hg'
            exact (hRA.out.fr0 fa).mk_ f8, (bY6.fr fa (by simp [noB])).mk_ f8, mpT_mk f8 (mpT_fr0 m26 fa)⟩
        · have hkn : k = ls'.length := by omega
          subst hkn
          have i3 : ¬ (ls'.length : Int) < (ls'.length : Int) := by omega
          rw [List.take_length] at hM6
          have hxl : xs.length = as_.length := hX.len.symm
          have HXL := Lib.hid hxl
          obtain ⟨L1, hL1⟩ : ∃ L1, L1 = ls'.map fun r => mvO (plR ys r) := ⟨_, rfl⟩
          rw [← hL1] at hM6
          have HL1 := Lib.hid hL1
          have hL1b : L1.length ≤ 5000 := by rw [hL1]; simp; omega
          clear hL1 HRA hk hlt hxl
          go_wp2_with fail
          go_loopg [78] as_.length (fun gk iv wr => MvC V M s L1 xs ys Y t2 bs gk iv wr)
          case atStart => exact ⟨0, rfl, by have := HXL.out; omega, by omega, by simpa using hM6, bY6, m26⟩
          case round =>
            clear hM6 bY6 m26
            obtain ⟨k, rfl, hgk, hk, hM6, bY6, m26⟩ := hrel
            have HGK := Lib.hid hgk
            clear hgk
            by_cases hlt : k < as_.length
            · have i5 : (k : Int) < (as_.length : Int) := by omega
              have i6 : (0 : Int) ≤ (k : Int) := by omega
              have hfV := MkS.fr hM6
              have hSr := hSA.fr0 hfV
              obtain ⟨g, off, rfl, hg⟩ := hSr.adC (by omega)
              have e1 : codR.rd wr g (off + k * 8) = some as_[k] := hSr.rd k hlt
              have hlt2 : k < xs.length := by rw [HXL.out]; exact hlt
              have hin : RwIn V as_[k] xs[k] := hX.at_ k hlt hlt2
              have hgo := goneW_eq hY hin
              have hnext := filter_take_succ (goneR ys) xs k hlt2
              have hlf := length_filter_take (goneR ys) xs k
              generalize as_[k] = r at e1 hin hgo
              generalize xs[k] = x at hin hgo hnext
              rw [← hgo] at hnext
              have HNX := Lib.hid hnext
              have HLF := Lib.hid hlf
              have hwf := hin.wn
              have HOV := Lib.hid (fun w' => (show OpV V w' (trW r) (trO x) from trV hin))
              clear hnext hlf hgo hin hfV hlt2
              have fa : Fr noB wr (wr.alloc (codR.o r)) := (Fr.refl noB wr).alloc _
              have bYa := bY6.fr fa (by simp [noB])
              have yc : (wr.alloc (codR.o r)).cell? ⟨Y, 0, none⟩ = some (.map (some t2)) := by simpa using bYa.cell 0
              have mx := mpT_fr0 m26 fa
              have n1 := Cod.rd_new' (C := codR) wr r
              have nn1 := (rwAt n1).node
              cases hfw : findW bs r.Node with
              | some y =>
                have hlk : Go.Proofs.YtefcalkbfaefgaaGreat.look (tab bs) r.Node = some (.agg (codR.A y)) := by rw [look_tab, hfw]; rfl
                have HG := Lib.hid (show goneW bs r = false by unfold goneW; rw [hfw]; rfl)
                clear hfw
                have fb : Fr noB (wr.alloc (codR.o r)) ((wr.alloc (codR.o r)).alloc (codR.o y)) := (Fr.refl noB _).alloc _
                obtain ⟨u1, u2, u3, u4, u5, u6⟩ := rwAt (Cod.rd_fr0 n1 fb)
                have hM7 := MkL.new (MkL.new hM6 fa) fb
                have bY7 := bYa.fr fb (by simp [noB])
                have m27 := mpT_fr0 mx fb
                have zN : wr.heap.size < ((wr.alloc (codR.o r)).alloc (codR.o y)).heap.size := by simp; omega
                clear n1 u3 u5 u6 hM6 bY6 m26
                go_upto_region 19 with fail
                generalize (wr.alloc (codR.o r)).alloc (codR.o y) = W7 at u1 u2 u4 hM7 bY7 m27 zN ⊢
                obtain ⟨N, hN⟩ : ∃ x, x = wr.heap.size := ⟨_, rfl⟩
                rw [← hN] at u1 u2 u4 zN ⊢
                clear hN fa fb yc mx nn1 bYa hlk e1
                refine wp_region_fr (by kernel_rfl) (by kernel_rfl) ?_
                iterate 3
                  refine wpQ_take (v := ?_) (by rfl) (fun wS hS => ?_) ?_
                  rotate_left
                  · obtain ⟨L1, L2, L3, L4, L5, L6⟩ := Fr.same hS; have L7 := Fr.sameR hS; go_simp; try with_reducible rfl
                  try simp only [List.getElem_toArray, List.getElem_cons_zero, List.getElem_cons_succ, Act.put, List.setIfInBounds_toArray, List.set_cons_zero, List.set_cons_succ]
                iterate 4
                  refine wpQ_off (by rfl) ?_
                  try simp only [List.getElem_toArray, List.getElem_cons_zero, List.getElem_cons_succ, Act.put, List.setIfInBounds_toArray, List.set_cons_zero, List.set_cons_succ]
                refine wpQ_take (v := ?_) (by rfl) (fun wS hS => ?_) ?_
                rotate_left
                · obtain ⟨L1, L2, L3, L4, L5, L6⟩ := Fr.same hS; have L7 := Fr.sameR hS; go_simp; try with_reducible rfl
                try simp only [List.getElem_toArray, List.getElem_cons_zero, List.getElem_cons_succ, Act.put, List.setIfInBounds_toArray, List.set_cons_zero, List.set_cons_succ]
                refine wpQ_nil ?_
                intro w1 f1
                have HNX2 := Lib.hid (HNX.out.trans (by rw [if_neg (by rw [HG.out]; decide), List.append_nil]))
                go_wp2_with fail
                go_roundg (xs.length - (k + 1))
                case measure => have := HGK.out; have := HXL.out; omega
                case rel => exact ⟨k + 1, by simp, rfl, by have := HXL.out; omega, by rw [HNX2.out]; exact MkL.new hM7 f1, bY7.fr f1 (by simp [noB]), mpT_fr0 m27 f1⟩
              | none =>
                have hlk : Go.Proofs.YtefcalkbfaefgaaGreat.look (tab bs) r.Node = none := by rw [look_tab, hfw]; rfl
                by_cases hpt : r.Parent = trS
                · have HG := Lib.hid (show goneW bs r = false by unfold goneW; rw [hpt]; simp)
                  have d1 : decide (r.Parent = trS) = true := by simp [hpt]
                  clear hfw hpt
                  have fb : Fr noB (wr.alloc (codR.o r)) ((wr.alloc (codR.o r)).alloc (codR.o zRwW)) := (Fr.refl noB _).alloc _
                  obtain ⟨u1, u2, u3, u4, u5, u6⟩ := rwAt (Cod.rd_fr0 n1 fb)
                  have hM7 := MkL.new (MkL.new hM6 fa) fb
                  have bY7 := bYa.fr fb (by simp [noB])
                  have m27 := mpT_fr0 mx fb
                  have zN : wr.heap.size < ((wr.alloc (codR.o r)).alloc (codR.o zRwW)).heap.size := by simp; omega
                  clear n1 u3 u5 u6 hM6 bY6 m26
                  go_upto_region 19 with fail
                  generalize (wr.alloc (codR.o r)).alloc (codR.o zRwW) = W7 at u1 u2 u4 hM7 bY7 m27 zN ⊢
                  obtain ⟨N, hN⟩ : ∃ x, x = wr.heap.size := ⟨_, rfl⟩
                  rw [← hN] at u1 u2 u4 zN ⊢
                  clear hN fa fb yc mx nn1 bYa hlk e1
                  have C1 := fun wS : World => trash_any wS
                  refine wp_region_fr (by kernel_rfl) (by kernel_rfl) ?_
                  iterate 5
                    refine wpQ_take (v := ?_) (by rfl) (fun wS hS => ?_) ?_
                    rotate_left
                    · obtain ⟨L1, L2, L3, L4, L5, L6⟩ := Fr.same hS; have L7 := Fr.sameR hS; go_simp; try with_reducible rfl
                    try simp only [List.getElem_toArray, List.getElem_cons_zero, List.getElem_cons_succ, Act.put, List.setIfInBounds_toArray, List.set_cons_zero, List.set_cons_succ]
                  refine wpQ_call (by rfl) (fun wS hS => ⟨_, _, ?qh412, Calls.fr hS (C1 _)⟩) ?qk412
                  case qh412 => obtain ⟨L1, L2, L3, L4, L5, L6⟩ := Fr.same hS; go_simp; try with_reducible rfl
                  try simp only [List.getElem_toArray, List.getElem_cons_zero, List.getElem_cons_succ, Act.put, List.setIfInBounds_toArray, List.set_cons_zero, List.set_cons_succ]
                  iterate 2
                    refine wpQ_take (v := ?_) (by rfl) (fun wS hS => ?_) ?_
                    rotate_left
                    · obtain ⟨L1, L2, L3, L4, L5, L6⟩ := Fr.same hS; have L7 := Fr.sameR hS; go_simp; try with_reducible rfl
                    try simp only [List.getElem_toArray, List.getElem_cons_zero, List.getElem_cons_succ, Act.put, List.setIfInBounds_toArray, List.set_cons_zero, List.set_cons_succ]
                  refine wpQ_nil ?_
                  intro w1 f1
                  have HNX2 := Lib.hid (HNX.out.trans (by rw [if_neg (by rw [HG.out]; decide), List.append_nil]))
                  go_wp2_with fail
                  go_roundg (xs.length - (k + 1))
                  case measure => have := HGK.out; have := HXL.out; omega
                  case rel => exact ⟨k + 1, by simp, rfl, by have := HXL.out; omega, by rw [HNX2.out]; exact MkL.new hM7 f1, bY7.fr f1 (by simp [noB]), mpT_fr0 m27 f1⟩
                · have HG := Lib.hid (show goneW bs r = true by unfold goneW; rw [hfw]; simp [hpt])
                  have d1 : decide (r.Parent = trS) = false := by simp [hpt]
                  clear hfw hpt
                  have fb : Fr noB (wr.alloc (codR.o r)) ((wr.alloc (codR.o r)).alloc (codR.o zRwW)) := (Fr.refl noB _).alloc _
                  obtain ⟨u1, u2, u3, u4, u5, u6⟩ := rwAt (Cod.rd_fr0 n1 fb)
                  have hM7 := MkL.new (MkL.new hM6 fa) fb
                  have bY7 := bYa.fr fb (by simp [noB])
                  have m27 := mpT_fr0 mx fb
                  have zN : wr.heap.size < ((wr.alloc (codR.o r)).alloc (codR.o zRwW)).heap.size := by simp; omega
                  clear n1 u3 u5 u6 hM6 bY6 m26
                  go_upto_region 19 with fail
                  generalize (wr.alloc (codR.o r)).alloc (codR.o zRwW) = W7 at u1 u2 u4 hM7 bY7 m27 zN ⊢
                  obtain ⟨N, hN⟩ : ∃ x, x = wr.heap.size := ⟨_, rfl⟩
                  rw [← hN] at u1 u2 u4 zN ⊢
                  clear hN fa fb yc mx nn1 bYa hlk e1
                  have C1 := fun wS : World => trash_any wS
                  refine wp_region_fr (by kernel_rfl) (by kernel_rfl) ?_
                  iterate 5
                    refine wpQ_take (v := ?_) (by rfl) (fun wS hS => ?_) ?_
                    rotate_left
                    · obtain ⟨L1, L2, L3, L4, L5, L6⟩ := Fr.same hS; have L7 := Fr.sameR hS; go_simp; try with_reducible rfl
                    try simp only [List.getElem_toArray, List.getElem_cons_zero, List.getElem_cons_succ, Act.put, List.setIfInBounds_toArray, List.set_cons_zero, List.set_cons_succ]
                  refine wpQ_call (by rfl) (fun wS hS => ⟨_, _, ?qh449, Calls.fr hS (C1 _)⟩) ?qk449
                  case qh449 => obtain ⟨L1, L2, L3, L4, L5, L6⟩ := Fr.same hS; go_simp; try with_reducible rfl
                  try simp only [List.getElem_toArray, List.getElem_cons_zero, List.getElem_cons_succ, Act.put, List.setIfInBounds_toArray, List.set_cons_zero, List.set_cons_succ]
                  iterate 2
                    refine wpQ_take (v := ?_) (by rfl) (fun wS hS => ?_) ?_
                    rotate_left
                    · obtain ⟨L1, L2, L3, L4, L5, L6⟩ := Fr.same hS; have L7 := Fr.sameR hS; go_simp; try with_reducible rfl
                    try simp only [List.getElem_toArray, List.getElem_cons_zero, List.getElem_cons_succ, Act.put, List.setIfInBounds_toArray, List.set_cons_zero, List.set_cons_succ]
                  refine wpQ_nil ?_
                  intro w1 f1
                  clear C1
                  have HNX2 := Lib.hid (HNX.out.trans (by rw [if_pos HG.out]))
                  replace u1 := Cod.rd_fr0 u1 f1
                  replace u4 := cell_fr0 u4 f1
                  replace hM7 := MkL.new hM7 f1
                  replace bY7 := bY7.fr f1 (by simp [noB])
                  replace m27 := mpT_fr0 m27 f1
                  clear u2 zN f1
                  have hkp : ∀ w' w'' : World, Fr noB w' w'' → (codS.rd w' N 0 = some r.Node ∧ w'.cell? ⟨N, 6, none⟩ = some (.string (str r.Name))) → (codS.rd w'' N 0 = some r.Node ∧ w''.cell? ⟨N, 6, none⟩ = some (.string (str r.Name))) := fun w' w'' f h => ⟨Cod.rd_fr0 h.1 f, cell_fr0 h.2 f⟩
                  have fd := (Fr.refl noB w1).drew
                  go_upto_region 20 with fail
                  refine wp_region_M 7 8 [⟨158456325028528675187087900672, 1, 0⟩, ⟨316912650057057350374175801344, 65536, 0⟩, ⟨633825300114114700748351602688, 316912650057057350374175801344, 2⟩, ⟨1267650600228229401496703205376, 0, 0⟩, ⟨2535301200456458802993406410752, 65536, 0⟩, ⟨5070602400912917605986812821504, 2535301200456458802993406410752, 16⟩, ⟨10141204801825835211973625643008, 6972078301255261708231867629568, 44⟩, ⟨20282409603651670423947251286016, 10299661126854363887160713543680, 73⟩] [(true, 0), (true, 1), (true, 2), (true, 4), (true, 5), (false, 3), (true, 6)] (fun w' => codS.rd w' N 0 = some r.Node ∧ w'.cell? ⟨N, 6, none⟩ = some (.string (str r.Name))) (by kernel_rfl) rfl (by kernel_rfl) (by kernel_rfl) (by kernel_rfl) (hkp _ _ fd ⟨u1, u4⟩) (fun hA hF => ?_)
                  iterate 5
                    refine wpAnyS_take (v := ?_) hA rfl (fun _ _ _ h => h) (Or.inl ⟨by rfl, ?_⟩) hF (fun hA => ?_)
                    rotate_left
                    · intro wS hSw; (try dsimp only at hSw); obtain ⟨s1, s2⟩ := hSw; first | (apply Eq.trans; apply ex_ldS_at; exact rfl; exact rfl; assumption; with_reducible rfl) | (apply Eq.trans; apply ex_bldOm_at; exact rfl; exact rfl; exact rfl; exact rfl; exact rfl; with_reducible rfl) | (go_simp; try with_reducible rfl)
                    try simp only [List.getElem_toArray, List.getElem_cons_zero, List.getElem_cons_succ, Act.put, List.setIfInBounds_toArray, List.set_cons_zero, List.set_cons_succ]
                  refine wpAnyS_one hA rfl (fun K' hK => ?_)
                  go_simp
                  go_at_call 46
                  refine (trash_any _).mono ?_
                  rintro e w6 ⟨rfl, f6⟩
                  replace hF := hkp _ _ f6 hF
                  refine hK.out _ _ hF (fun hA => ?_)
                  clear hK K'
                  as_aux_lemma =>
                  refine wpAnyS_take (v := ?_) hA rfl (fun _ _ _ h => h) (Or.inl ⟨by rfl, ?_⟩) hF (fun hA => ?_)
                  rotate_left
                  · intro wS hSw; (try dsimp only at hSw); obtain ⟨s1, s2⟩ := hSw; first | (apply Eq.trans; apply ex_ldS_at; exact rfl; exact rfl; assumption; with_reducible rfl) | (apply Eq.trans; apply ex_bldOm_at; exact rfl; exact rfl; exact rfl; exact rfl; exact rfl; with_reducible rfl) | (go_simp; try with_reducible rfl)
                  try simp only [List.getElem_toArray, List.getElem_cons_zero, List.getElem_cons_succ, Act.put, List.setIfInBounds_toArray, List.set_cons_zero, List.set_cons_succ]
                  refine wpAnyS_end hA rfl ?_
                  simp only [List.drop_succ_cons, List.drop_zero]
                  clear hF hkp u1 u4
                  have hM8 := MkL.new (MkL.new hM7 fd) f6
                  have HBL := Lib.hid (show (L1 ++ ((xs.take k).filter (goneR ys)).map trO).length ≤ 100000000 by
                    have := HLF.out
                    rw [List.length_append, List.length_map]
                    omega)
                  go_wp2_with (go_at_call 58; refine (put_l V _ M s _ hM8 hs HBL.out (trW r) (trO x) (HOV.out _)).mono ?_; rintro e w8 ⟨rfl, hM9, f8⟩)
                  go_roundg (xs.length - (k + 1))
                  case measure => have := HGK.out; have := HXL.out; omega
                  case rel => exact ⟨k + 1, by simp, rfl, by have := HXL.out; omega, by rw [HNX2.out, List.map_append, ← List.append_assoc]; exact hM9, ((bY7.fr fd (by simp [noB])).fr f6 (by simp [noB])).mk_ f8, mpT_mk f8 (mpT_fr0 (mpT_fr0 m27 fd) f6)⟩
            · have hkn : k = as_.length := by have := HXL.out; omega
              subst hkn
              have i5 : ¬ (as_.length : Int) < (as_.length : Int) := by omega
              go_wp2_with fail
              go_end0
              refine ⟨rfl, ls'.map (plR ys), ?_, ?_, ?_⟩
              · have h1 := HPERM.out.map (plR ys)
                rwa [HLS2.out, filter_two ys hY HNB.out (fun y hy => hy) (movedW as_) (movedR xs) (fun r x hrx => movedW_eq (hX) hrx)] at h1
              · rw [List.pairwise_map]
                refine (List.Pairwise.imp_of_mem (fun {p q} hp hq hpq => ?_) HPW.out)
                have hnode : ∀ r ∈ ls', (plR ys r).Node = r.Node := fun r hr => by
                  obtain ⟨y, hy, hin⟩ := hY.mem (HMEM2.out r hr)
                  rw [plR_eq hY HNB.out hy hin, hin.node]
                rw [hnode p hp, hnode q hq]
                rw [cfD_neg, decide_eq_false_iff_not] at hpq
                exact hpq
              · rw [List.map_map]
                have hl := HL1.out
                rw [List.take_of_length_le (by have := HXL.out; omega)] at hM6
                rw [hl] at hM6
                exact hM6
end Go.Proofs.YtefcalkbfaefgaaGreat
namespace Go.Proofs.YtefcalkbfaefgaaGreat
open Go.RowKit Go.Sort
set_option linter.unusedVariables false
set_option linter.unusedSimpArgs false

theorem edR_len (xs : List RwP) (r : RwP) : (edR xs r).length ≤ 1 := by
  unfold edR
  split
  · simp
  · split <;> simp
theorem flat_len (xs : List RwP) : ∀ l : List RwP, (l.flatMap (edR xs)).length ≤ l.length
  | [] => by simp
  | r :: l => by
    have := flat_len xs l
    have := edR_len xs r
    simp only [List.flatMap_cons, List.length_append, List.length_cons]
    omega
theorem rightR_heads {r : RwP} (h : rightR r = true) : r.Heads.length ≤ 1000 := by
  unfold rightR rightDr at h
  simp only [Bool.and_eq_true, List.all_cons, List.all_nil] at h
  have := h.1.1.2.1
  unfold rightIt at this
  simp only [Bool.and_eq_true, decide_eq_true_eq] at this
  exact this.1.1.2
def EdA (V : World) (M : Nat) (s : St) (L0 : List Opn) (xs ys : List RwP) (t1 : Nat) (as_ : List RwW) (gk : Nat) (ov iv : Value) (wr : World) : Prop :=
  ∃ k : Nat, iv = .int .i64 (k : Int) ∧ ov = .bool ((ys.take k).all (oneR xs)) ∧ gk = ys.length - k ∧ k ≤ ys.length ∧ MkL V wr M s (L0 ++ (ys.take k).flatMap (edR xs)) ∧ mpT wr t1 = some (tab as_)
def EdB (wO : World) (O : Nat) (r0 : OpW) (hs : List Hd) (gk : Nat) (iv : Value) (wr : World) : Prop :=
  ∃ (j : Nat) (A : Option Addr) (c : Nat) (ls : List St), iv = .int .i64 (j : Int) ∧ gk = hs.length - j ∧ j ≤ hs.length ∧ ls = (hs.take j).map (·.At) ∧ codO.bxd wr O = some { r0 with A := A, n := ls.length, c := c } ∧ OwnC codS wO wr A c ls ∧ Fr noB wO wr
def EdTo (V : World) (M : Nat) (s : St) (L0 : List Opn) (xs ys : List RwP) (e : Ending) (w' : World) : Prop := e = .returned (.bool (ys.all (oneR xs))) ∧ MkL V w' M s (L0 ++ ys.flatMap (edR xs))
theorem take_flat {α β : Type} (f : α → List β) (l : List α) (k : Nat) (h : k < l.length) : (l.take (k + 1)).flatMap f = (l.take k).flatMap f ++ f l[k] := by
  rw [List.take_succ_eq_append_getElem h, List.flatMap_append]
  simp
theorem take_all {α : Type} (f : α → Bool) (l : List α) (k : Nat) (h : k < l.length) : (l.take (k + 1)).all f = ((l.take k).all f && f l[k]) := by
  rw [List.take_succ_eq_append_getElem h, List.all_append]
  simp
set_option maxRecDepth 100000 in
set_option maxHeartbeats 8000000 in
theorem edits_any (V w : World) (M : Nat) (s : St) (hs : 0 ≤ s.T ∧ s.T ≤ 100000000000000) (L0 : List Opn) (h : MkL V w M s L0) (hL0 : L0.length ≤ 20000) (A B : Option Addr) (c d n m : Nat) (as_ bs : List RwW) (xs ys : List RwP) (hn : as_.length = n) (hm : bs.length = m)
    (hSA : Sl V A (codR.row as_)) (hSB : Sl V B (codR.row bs)) (hX : RwsIn V as_ xs) (hY : RwsIn V bs ys) (tX : TreeOk xs) (tY : TreeOk ys) :
    Calls Tryz.prog 26 #[.pointer (some ⟨M, 0, none⟩), .slice A n c, .slice B m d] w (EdTo V M s L0 xs ys) := by
  subst hn hm
  have hla : as_.length ≤ 5000 := by rw [hX.len]; exact tX.len
  have hlb : bs.length ≤ 5000 := by rw [hY.len]; exact tY.len
  have hYL := Lib.hid hY.len
  have hV := MkS.fr h
  have ndA : (as_.map (·.Node)).Nodup := by rw [hX.nodes]; exact tX.nd
  have HC := Lib.hid (of_any w A c as_.length as_ rfl (hSA.fr0 hV) (by omega) ndA (fun r hr => (hX.wf hr).1))
  clear ndA hV
  go_enter Tryz.func26, Tryz.ntmps26
  go_upto_region 3 with (go_at_call 40; refine HC.out.mono ?_; rintro e w1 ⟨t1, rfl, m1, hg1, f1⟩)
  have hM1 := MkL.new h f1
  clear h HC hg1 f1
  go_wp2_with fail
  go_loopg [8, 19] ys.length (fun gk ov iv wr => EdA V M s L0 xs ys t1 as_ gk ov iv wr)
  case atStart => exact ⟨0, rfl, rfl, by omega, by omega, by simpa using hM1, m1⟩
  case round =>
    clear hM1 m1
    obtain ⟨k, rfl, rfl, hgk, hk, hM1, m1⟩ := hrel
    have HGK := Lib.hid hgk
    clear hgk
    obtain ⟨one, hone⟩ : ∃ b, b = (ys.take k).all (oneR xs) := ⟨_, rfl⟩
    rw [← hone]
    have HONE := Lib.hid hone
    clear hone
    by_cases hlt2 : k < ys.length
    · have hlt : k < bs.length := by rw [hYL.out]; exact hlt2
      have i1 : (k : Int) < (bs.length : Int) := by omega
      have i0 : (0 : Int) ≤ (k : Int) := by omega
      have hfV := MkS.fr hM1
      have hSr := hSB.fr0 hfV
      obtain ⟨g, off, rfl, hg⟩ := hSr.adC (by omega)
      have e1 : codR.rd wr g (off + k * 8) = some bs[k] := hSr.rd k hlt
      have hin : RwIn V bs[k] ys[k] := hY.at_ k hlt hlt2
      have hh1 := rightR_heads (tY.ok _ (List.getElem_mem hlt2))
      have hfl := take_flat (edR xs) ys k hlt2
      have hal := take_all (oneR xs) ys k hlt2
      have hbl := flat_len xs (ys.take k)
      rw [List.length_take] at hbl
      generalize bs[k] = r at e1 hin
      generalize ys[k] = y at hin hh1 hfl hal
      have hwf := hin.wn
      -- the other row
      obtain ⟨wv, ho, hlk, hho, hwn, hwl, hwb⟩ : ∃ (wv : RwW) (ho : List Hd), (Go.Proofs.YtefcalkbfaefgaaGreat.look (tab as_) r.Node).getD (.agg (codR.A zRwW)) = .agg (codR.A wv) ∧ headsR xs y.Node = ho ∧ ho.length = wv.n ∧ Sl V wv.A (codH.row ho) ∧ ho.length ≤ 1000 := by
        rw [look_tab]
        unfold headsR
        rw [hin.node]
        rcases hX.find r.Node with ⟨h1, h2⟩ | ⟨r', x', h1, h2, h3⟩
        · exact ⟨zRwW, [], by rw [h1]; rfl, by rw [h2], rfl, Sl.nil _ _, by simp⟩
        · exact ⟨r', x'.Heads, by rw [h1]; rfl, by rw [h2], h3.len, h3.sl, rightR_heads (tX.ok _ (findR_some h2).1)⟩
      have HFL := Lib.hid hfl
      have HAL := Lib.hid hal
      have HBL := Lib.hid hbl
      have HHO := Lib.hid hho
      have HIN := Lib.hid hin
      clear hfl hal hbl hho hin
      have fa : Fr noB wr (wr.alloc (codR.o r)) := (Fr.refl noB wr).alloc _
      have fb : Fr noB (wr.alloc (codR.o r)) ((wr.alloc (codR.o r)).alloc (codR.o wv)) := (Fr.refl noB _).alloc _
      have n1 := Cod.rd_new' (C := codR) wr r
      have nn1 := (rwAt n1).node
      have mx := mpT_fr0 m1 fa
      have n1b := Cod.rd_fr0 n1 fb
      have n2 := Cod.rd_new' (C := codR) (wr.alloc (codR.o r)) wv
      have hz : (wr.alloc (codR.o r)).heap.size = wr.heap.size + 1 := by simp
      rw [hz] at n2
      have hM2 := MkL.new (MkL.new hM1 fa) fb
      have m2 := mpT_fr0 mx fb
      have fVw : Fr noB V ((wr.alloc (codR.o r)).alloc (codR.o wv)) := (hfV.step0 fa).step0 fb
      clear hz hM1 m1 n1 hSr hfV
      go_upto_region 7 with fail
      generalize (wr.alloc (codR.o r)).alloc (codR.o wv) = W2 at n1b n2 hM2 m2 fVw ⊢
      obtain ⟨N, hN⟩ : ∃ x, x = wr.heap.size := ⟨_, rfl⟩
      rw [← hN] at n1b n2 ⊢
      clear hN fa fb nn1 mx hlk e1
      have HSD := Lib.hid (sameData_any W2 wv r ho y.Heads hwn HIN.out.len (hwl.fr0 fVw) (HIN.out.sl.fr0 fVw) (by omega) (by omega))
      obtain ⟨u1, u2, u3, u4, u5, u6⟩ := rwAt n1b
      obtain ⟨v1, v2, v3, v4, v5, v6⟩ := rwAt n2
      clear u2 u3 u4 v1 v2 v3 v4 n1b n2
      by_cases hsd : sameDt ho y.Heads = true
      · have HE := Lib.hid (show edR xs y = [] by unfold edR; rw [HHO.out, if_pos hsd])
        have HO := Lib.hid (show oneR xs y = true by unfold oneR; rw [HHO.out, hsd]; rfl)
        rw [hsd] at HSD
        clear hsd
        go_wp2_with (go_at_call 29; refine HSD.out.mono ?_; rintro e w3 ⟨rfl, f3⟩)
        go_roundg (ys.length - (k + 1))
        case measure => have := HGK.out; omega
        case rel => exact ⟨k + 1, by simp, by rw [HAL.out, HO.out, Bool.and_true, ← HONE.out], rfl, by omega, by rw [HFL.out, HE.out, List.append_nil]; exact MkL.new hM2 f3, mpT_fr0 m2 f3⟩
      · have hsd' : sameDt ho y.Heads = false := by simpa using hsd
        have HNE := Lib.hid hsd
        rw [hsd'] at HSD
        by_cases hy1 : y.Heads.length = 1
        · obtain ⟨hd, hhd⟩ : ∃ hd, y.Heads = [hd] := by
            match y.Heads, hy1 with
            | [x], _ => exact ⟨x, rfl⟩
          have hrn : r.n = 1 := by rw [← HIN.out.len]; exact hy1
          have HE := Lib.hid (show edR xs y = [edO xs y hd] by unfold edR; rw [HHO.out, if_neg hsd, hhd])
          have HO := Lib.hid (show oneR xs y = true by unfold oneR; rw [hy1]; simp)
          have hsl := HIN.out.sl
          rw [hhd] at hsl
          obtain ⟨gh, oh, hAh, hgh⟩ := (hsl.fr0 fVw).adC (by simp)
          have hrd : codH.rd W2 gh (oh + 0 * 34) = some hd := by
            have h1 := hsl.fr0 fVw
            rw [hAh] at h1
            exact h1.rd 0 (by simp)
          rw [Nat.zero_mul, Nat.add_zero] at hrd
          have hdd : rdI W2 gh (oh + 2) = some hd.Data := by
            have g := getApp hd.Data [.int .i64 hd.At.T, .int .i64 hd.At.R] [] 2 rfl
            rw [List.append_nil] at g
            exact Cod.rdI_part hrd 2 g
          rw [hAh, hrn] at u5
          clear hsd hsd' hy1 hsl hAh hrd hrn
          go_upto_region 10 with (go_at_call 29; refine HSD.out.mono ?_; rintro e w3 ⟨rfl, f3⟩; have u5' := cell_fr0 u5 f3)
          have hk : ∀ w' w'' : World, Fr noB w' w'' → (codS.rd w' N 0 = some r.Node ∧ w'.cell? ⟨N, 7, none⟩ = some (.slice (some ⟨gh, oh, none⟩) 1 r.c) ∧ rdI w' gh (oh + 2) = some hd.Data) → (codS.rd w'' N 0 = some r.Node ∧ w''.cell? ⟨N, 7, none⟩ = some (.slice (some ⟨gh, oh, none⟩) 1 r.c) ∧ rdI w'' gh (oh + 2) = some hd.Data) := fun w' w'' f h => ⟨Cod.rd_fr0 h.1 f, cell_fr0 h.2.1 f, rdI_fr h.2.2 (rdI_lt h.2.2) f (by simp [noB])⟩
          have fd := (Fr.refl noB w3).drew
          refine wp_region_M 9 10 [⟨17179869184, 1024, 0⟩, ⟨34359738368, 17179869184, 1⟩, ⟨68719476736, 1024, 0⟩, ⟨137438953472, 68719476736, 4⟩, ⟨274877906944, 137438953472, 8⟩, ⟨549755813888, 274877906944, 16⟩, ⟨1099511627776, 549755813888, 32⟩, ⟨2199023255552, 1133871366144, 66⟩, ⟨4096, 0, 0⟩, ⟨0, 2199023259648, 511⟩] [(true, 0), (true, 1), (true, 2), (true, 3), (true, 4), (true, 5), (true, 6), (true, 7), (false, 8)] (fun w' => codS.rd w' N 0 = some r.Node ∧ w'.cell? ⟨N, 7, none⟩ = some (.slice (some ⟨gh, oh, none⟩) 1 r.c) ∧ rdI w' gh (oh + 2) = some hd.Data) (by kernel_rfl) rfl (by kernel_rfl) (by kernel_rfl) (by kernel_rfl) (hk _ _ (f3.step0 fd) ⟨u1, u5, hdd⟩) (fun hA hF => ?_)
          iterate 8
            refine wpAnyS_take (v := ?_) hA rfl (fun _ _ _ h => h) (Or.inl ⟨by rfl, ?_⟩) hF (fun hA => ?_)
            rotate_left
            · intro wS hSw; (try dsimp only at hSw); obtain ⟨s1, s2, s3⟩ := hSw; first | (apply Eq.trans; apply ex_ld_id; exact rfl; exact rfl; assumption; with_reducible rfl) | (apply Eq.trans; apply ex_ldS_at; exact rfl; exact rfl; assumption; with_reducible rfl) | (apply Eq.trans; apply ex_bldOe_at; exact rfl; exact rfl; exact rfl; exact rfl; with_reducible rfl) | (go_simp; try with_reducible rfl)
            try simp only [List.getElem_toArray, List.getElem_cons_zero, List.getElem_cons_succ, Act.put, List.setIfInBounds_toArray, List.set_cons_zero, List.set_cons_succ]
          refine wpAnyS_one hA rfl (fun K' hK => ?_)
          refine step_runI rfl _ _ (okO.alOp _ _ rfl _) ?_
          have fz : Fr noB w3.drew (w3.drew.alloc (codO.o zOpW)) := (Fr.refl noB _).alloc _
          replace hF := hk _ _ fz hF
          refine hK.out _ _ hF (fun hA => ?_)
          clear hK K'
          as_aux_lemma =>
          refine wpAnyS_end hA rfl ?_
          simp only [List.drop_succ_cons, List.drop_zero]
          clear hF hk fz
          have v5' := cell_fr0 (cell_fr0 v5 f3) fd
          have hM3 := MkL.new (MkL.new hM2 f3) fd
          have m3 := mpT_fr0 (mpT_fr0 m2 f3) fd
          have fVO := (fVw.step0 f3).step0 fd
          clear hM2 m2 fVw u1 u5 u5' u6 v5 v6 hdd
          generalize w3.drew = wO at hM3 m3 fVO v5' ⊢
          clear f3 fd HSD
          obtain ⟨r0, hr0⟩ : ∃ r0 : OpW, r0 = { zOpW with Kind := 2, Node := r.Node, Data := hd.Data } := ⟨_, rfl⟩
          have fO : Fr noB wO (wO.alloc (codO.o r0)) := (Fr.refl noB _).alloc _
          have bO := Cod.bxd_new (C := codO) wO r0
          have HR0 := Lib.hid hr0
          go_upto_region 11 with fail
          rw [← hr0]
          clear hr0
          have v5 := cell_fr0 v5' fO
          generalize wO.alloc (codO.o r0) = W5 at fO bO v5 ⊢
          obtain ⟨O, hO⟩ : ∃ x, x = wO.heap.size := ⟨_, rfl⟩
          rw [← hO] at bO ⊢
          have HOs := Lib.hid (show wO.heap.size ≤ O by omega)
          clear hO v5'
          have hwl2 := hwl
          obtain ⟨z1, z2, z3, z4, WA, Wn, Wc⟩ := wv
          simp only at hwn hwl2 v5
          have HWN := Lib.hid hwn
          have hWn : Wn ≤ 1000 := by omega
          clear hwl hwn
          go_wp2_with fail
          go_loopg [45] ho.length (fun gk iv wr => EdB wO O r0 ho gk iv wr)
          case atStart => exact ⟨0, none, 0, [], rfl, rfl, by omega, rfl, by
            rw [show ({ r0 with A := none, n := ([] : List St).length, c := 0 } : OpW) = r0 by rw [HR0.out]; rfl]
            exact bO, World.ownsRow_nil _ _ _ _, fO⟩
          case round =>
            clear bO v5 fO
            obtain ⟨j, A6, c6, ls, rfl, rfl, hj, hls, hb6, ho6, f6⟩ := hrel
            have HLS := Lib.hid hls
            have hlj : ls.length = j := by rw [hls]; simp; omega
            have hlsb : ls.length ≤ 1000 := by omega
            clear hls
            have fV6 := fVO.step0 f6
            by_cases hltj : j < ho.length
            · have i3 : (j : Int) < (Wn : Int) := by have := HWN.out; omega
              have i4 : (0 : Int) ≤ (j : Int) := by omega
              have hs6 := hwl2.fr0 fV6
              obtain ⟨g3, off3, rfl, hg3⟩ := hs6.adC (by omega)
              have e3 : codH.rd wr g3 (off3 + j * 34) = some ho[j] := hs6.rd j hltj
              have hnx : (ho.take (j + 1)).map (·.At) = ls ++ [ho[j].At] := by rw [List.take_succ_eq_append_getElem hltj, List.map_append, HLS.out]; rfl
              generalize ho[j] = hh at e3 hnx
              have HNX := Lib.hid hnx
              have fh : Fr noB wr (wr.alloc (codH.o hh)) := (Fr.refl noB wr).alloc _
              have na := (hdAt (Cod.rd_new' (C := codH) wr hh)).At
              have fs : Fr noB (wr.alloc (codH.o hh)) ((wr.alloc (codH.o hh)).alloc (codS.ro [hh.At])) := (Fr.refl noB _).alloc _
              have sl := Cod.sl_new (C := codS) (wr.alloc (codH.o hh)) [hh.At]
              have hz : (wr.alloc (codH.o hh)).heap.size = wr.heap.size + 1 := by simp
              rw [hz] at sl
              have hb6a := Cod.bxd_fr0 hb6 fh
              have k6 := (opAt (Cod.bxd_rd hb6a)).over
              have hb7 := Cod.bxd_fr0 hb6a fs
              have ho7 := own_new0 (own_new0 ho6 fh) fs
              have f7 := (f6.step0 fh).step0 fs
              have hnb := (Cod.bxd_blk hb7).ne_own ho7 (by decide)
              have HNB := Lib.hid hnb
              clear hz hnx hb6 hb6a ho6 fh fs f6 hs6 fV6 hlj hnb
              simp only at k6
              go_wp2_with (at_builtin; refine wpList_appC' etS wO _ rfl _ _ rfl A6 ls.length c6 ls rfl rfl ho7 (some ⟨wr.heap.size + 1, 0, none⟩) 1 1 [hh.At] rfl sl rfl (by simp; omega) f7.size ?_; intro A8 c8 w8 hc8 hmx8 ho8 hg8 hA8; obtain ⟨ls', hls'⟩ : ∃ l : List St, l = ls ++ [hh.At] := ⟨_, rfl⟩; rw [← hls'] at ho8 ⊢; have HLE := Lib.hid hls'; clear hls' hmx8 hc8; have hb8 := Cod.bxd_fr hb7 (Fr.ofGrown (M := fun b => A6.map (·.block) = some b) hg8 (fun g hg => hg)) (fun e => HNB.out O (by rw [ownBlock_sl']; exact e) rfl); have k8 := (opAt (Cod.bxd_rd hb8)).over; have z8 := (Cod.bxd_blk hb8).frozen 40)
              have f8 := Fr.own' f7 ho7 hg8
              have hb9 := Cod.bxd_set hb8 40 (.slice A8 ls'.length c8) _ (seO_Over _ _ _ _)
              have g9 := Cod.set_fr w8 O 40 (.slice A8 ls'.length c8)
              have ho9 := own_box (Cod.bxd_blk hb8) ho8 (by decide) g9
              go_roundg (ho.length - (j + 1))
              case measure => omega
              case rel => exact ⟨j + 1, A8, c8, ls', by simp, rfl, by omega, by rw [HLE.out, HNX.out], hb9, ho9, f8.step1 g9 HOs.out⟩
            · have hjn : j = ho.length := by omega
              have i3 : ¬ (j : Int) < (Wn : Int) := by have := HWN.out; omega
              have hls : ls = ho.map (·.At) := by rw [HLS.out, List.take_of_length_le (by omega)]
              have q6 := Cod.bxd_rd hb6
              have hM6 := MkL.new hM3 f6
              have m6 := mpT_fr0 m3 f6
              have HOV := Lib.hid (show OpV V wr { r0 with A := A6, n := ls.length, c := c6 } (edO xs y hd) from ⟨⟨by
                unfold edO opOf
                rw [HR0.out, HHO.out, ← hls]
                simp only [HIN.out.node, zOpW], by unfold edO; simp only; rw [HHO.out, ← hls], by
                unfold edO; simp only; rw [HHO.out, ← hls]
                exact Sl.own ho6, by unfold edO; simp only; rw [HHO.out, ← hls]; omega, by rw [HR0.out]; simp [zOpW]⟩, by
                unfold edO; simp only; rw [HHO.out, ← hls]
                exact own_base ho6 fVO.size⟩)
              have HBL2 := Lib.hid (show (L0 ++ (ys.take k).flatMap (edR xs)).length ≤ 100000000 by
                have := HBL.out
                rw [List.length_append]
                omega)
              clear hls hlj hM3 m3 ho6
              generalize ({ r0 with A := A6, n := ls.length, c := c6 } : OpW) = rF at q6 hb6 HOV
              go_wp2_with (go_at_call 58; refine (put_l V _ M s _ hM6 hs HBL2.out rF (edO xs y hd) HOV.out).mono ?_; rintro e w9 ⟨rfl, hM9, f9⟩)
              go_roundg (ys.length - (k + 1))
              case measure => have := HGK.out; omega
              case rel => exact ⟨k + 1, by simp, by rw [HAL.out, HO.out, Bool.and_true, ← HONE.out], rfl, by omega, by rw [HFL.out, HE.out, ← List.append_assoc]; exact hM9, mpT_mk f9 m6⟩
        · have HE := Lib.hid (show edR xs y = [] by
            unfold edR
            rw [HHO.out, if_neg hsd]
            match y.Heads, hy1 with
            | [], _ => rfl
            | [x], h => exact absurd rfl h
            | x :: z :: l, _ => rfl)
          have HO := Lib.hid (show oneR xs y = false by unfold oneR; rw [HHO.out, hsd']; simp [hy1])
          have hrn : ¬ (r.n : Int) = 1 := by have := HIN.out.len; omega
          have hrn2 : r.n ≤ 1000 := by have := HIN.out.len; omega
          clear hsd hsd'
          go_wp2_with (go_at_call 29; refine HSD.out.mono ?_; rintro e w3 ⟨rfl, f3⟩; have u5' := cell_fr0 u5 f3)
          go_roundg (ys.length - (k + 1))
          case measure => have := HGK.out; omega
          case rel => exact ⟨k + 1, by simp, by rw [HAL.out, HO.out, Bool.and_false], rfl, by omega, by rw [HFL.out, HE.out, List.append_nil]; exact MkL.new hM2 f3, mpT_fr0 m2 f3⟩
    · have hkn : k = ys.length := by omega
      subst hkn
      have i1 : ¬ (ys.length : Int) < (bs.length : Int) := by have := hYL.out; omega
      rw [List.take_length] at hM1
      have hone := HONE.out
      rw [List.take_length] at hone
      have HO := Lib.hid hone
      clear hone
      go_wp2_with fail
      go_ret
      exact ⟨by rw [HO.out]; rfl, hM1⟩
end Go.Proofs.YtefcalkbfaefgaaGreat
namespace Go.Proofs.YtefcalkbfaefgaaGreat
open Go.RowKit Go.Sort
set_option linter.unusedVariables false
set_option linter.unusedSimpArgs false

theorem ntree_yes (w : World) (A : Option Addr) (c n : Nat) (rs : List RwW) (xs : List RwP) (hn : rs.length = n) (hs : Sl w A (codR.row rs)) (hb : rs.length ≤ 140737488355328) (h : RwsIn w rs xs) (hbd : ∀ x ∈ xs, x.Heads.length ≤ 2932031007402) (ht : TreeOk xs) :
    Calls Tryz.prog 23 #[.slice A n c] w (Gives w (.bool true)) := (ntree_any w A c n rs xs hn hs hb h hbd).mono fun e w' ⟨b, h1, h2, h3⟩ => ⟨by rw [h1, h3.2 ht], h2⟩
theorem ntree_no (w : World) (A : Option Addr) (c n : Nat) (rs : List RwW) (xs : List RwP) (hn : rs.length = n) (hs : Sl w A (codR.row rs)) (hb : rs.length ≤ 140737488355328) (h : RwsIn w rs xs) (hbd : ∀ x ∈ xs, x.Heads.length ≤ 2932031007402) (ht : ¬ TreeOk xs) :
    Calls Tryz.prog 23 #[.slice A n c] w (Gives w (.bool false)) := (ntree_any w A c n rs xs hn hs hb h hbd).mono fun e w' ⟨b, h1, h2, h3⟩ => ⟨by
      rw [h1]
      cases b with
      | false => rfl
      | true => exact absurd (h3.1 rfl) ht, h2⟩
def DfTo (w : World) (xs ys : List RwP) (s : St) (e : Ending) (w' : World) : Prop :=
  ∃ (E : Int) (A : Option Addr) (c : Nat) (rs : List OpW) (os : List Opn), e = .returned (.tuple #[.slice A os.length c, .int .i64 E]) ∧ rs.length = os.length ∧ Sl w' A (codO.row rs) ∧ OpsIn w' rs os ∧ os.length ≤ 100000 ∧ Fr noB w w' ∧ DiffTo xs ys s E os ∧ OwnC codO w w' A c rs ∧ OpsOwn w w' rs os ∧ (E = 0 → ∃ l : List RwP, l.Perm (ys.filter (movedR xs)) ∧ os = allO xs ys s l ∧ l.Pairwise fun p q => ¬ depthN ys ys.length q.Node < depthN ys ys.length p.Node)
theorem DfTo.no {w w' : World} {xs ys : List RwP} {s : St} {E : Int} (hE : E ≠ 0) (f : Fr noB w w') (h : TreeOk xs → TreeOk ys → rightS s = true → (∀ l : List RwP, l.Perm (ys.filter (movedR xs)) → (∀ o ∈ allO xs ys s l, goodOp o = true) ∧ (allO xs ys s l).length ≤ 64) → (∀ r ∈ ys, oneR xs r = true) → False) (hm : TreeOk xs → TreeOk ys → rightS s = true → (∀ l : List RwP, l.Perm (ys.filter (movedR xs)) → ∀ o ∈ allO xs ys s l, goodOp o = true) → E = 0 ∨ E = 3) : DfTo w xs ys s (.returned (.tuple #[.slice none 0 0, .int .i64 E])) w' :=
  ⟨E, none, 0, [], [], rfl, rfl, Sl.nil _ _, ⟨rfl, fun i h => absurd h (by simp)⟩, by simp, f, ⟨fun _ => rfl, fun h0 => absurd h0 hE, hm, fun a b c d e => absurd (h a b c d e) id⟩, ⟨rfl, .inl ⟨rfl, rfl⟩⟩, ⟨rfl, fun i h => absurd h (by simp)⟩, fun h0 => absurd h0 hE⟩
set_option maxRecDepth 100000 in
set_option maxHeartbeats 4000000 in
theorem diff_any (w : World) (A B : Option Addr) (c d n m : Nat) (as_ bs : List RwW) (xs ys : List RwP) (hn : as_.length = n) (hm : bs.length = m)
    (hSA : Sl w A (codR.row as_)) (hSB : Sl w B (codR.row bs)) (hX : RwsIn w as_ xs) (hY : RwsIn w bs ys) (hb1 : as_.length ≤ 140737488355328) (hb2 : bs.length ≤ 140737488355328) (hbx : ∀ x ∈ xs, x.Heads.length ≤ 2932031007402) (hby : ∀ x ∈ ys, x.Heads.length ≤ 2932031007402) (s : St) :
    Calls Tryz.prog 9 #[.slice A n c, .slice B m d, .agg (codS.A s)] w (DfTo w xs ys s) := by
  subst hn hm
  have f0 : Fr noB w (w.alloc (.cells (codS.A s) 30)) := (Fr.refl noB w).alloc _
  have q0 := Cod.rd_new (C := codS) w 30 s
  have tok : True := trivial
  by_cases tX : TreeOk xs
  · have CA := Lib.hid (fun w' (f : Fr noB w w') => ntree_yes w' A c as_.length as_ xs rfl (hSA.fr0 f) hb1 (hX.fr f) hbx tX)
    by_cases tY : TreeOk ys
    · have CB := Lib.hid (fun w' (f : Fr noB w w') => ntree_yes w' B d bs.length bs ys rfl (hSB.fr0 f) hb2 (hY.fr f) hby tY)
      by_cases hr : rightS s = true
      · have HR := Lib.hid hr
        have hsT : 1 ≤ s.T ∧ s.T ≤ 1099511627776 := by
          unfold rightS at hr
          simp only [Bool.and_eq_true, decide_eq_true_eq] at hr
          omega
        have CR : ∀ wS : World, Calls Tryz.prog 24 #[.agg (codS.A s)] wS (Gives wS (.bool true)) := fun wS => by have := right_v wS s; rwa [hr] at this
        have HCR := Lib.hid CR
        have HST := Lib.hid hsT
        clear hr CR hsT
        go_enter Tryz.func9, Tryz.ntmps9
        go_upto_region 5 with (first
          | (go_at_call 23; have _t := tok; refine (CA.out _ f0).mono ?_; rintro e w1 ⟨rfl, f1⟩; clear tok _t)
          | (go_at_call 23; refine (CB.out w1 (f0.step0 f1)).mono ?_; rintro e w2 ⟨rfl, f2⟩; have q2 := Cod.rd_fr0 (Cod.rd_fr0 q0 f1) f2)
          | (go_at_call 24; refine (HCR.out _).mono ?_; rintro e w3 ⟨rfl, f3⟩; have q3 := Cod.rd_fr0 q2 f3))
        have g3 := ((f0.step0 f1).step0 f2).step0 f3
        clear CA CB HCR q0 q2 f0 f1 f2 f3
        have bM : codM.bxd (w3.alloc (.cells (codM.A ⟨s, none, 0, 0, false⟩) 63)) w3.heap.size = some ⟨s, none, 0, 0, false⟩ := Cod.bxd_box (C := codM) w3 ⟨s, none, 0, 0, false⟩
        have fM : Fr noB w3 (w3.alloc (.cells (codM.A ⟨s, none, 0, 0, false⟩) 63)) := (Fr.refl noB w3).alloc _
        have hML : MkL w3 (w3.alloc (.cells (codM.A ⟨s, none, 0, 0, false⟩) 63)) w3.heap.size s [] := by
          refine ⟨none, 0, [], ?_, ⟨World.ownsRow_nil _ _ _ _, World.ownsRow_nil _ _ _ _, ⟨rfl, fun i h => absurd h (by simp)⟩⟩, fM, Nat.le_refl _⟩
          have : (⟨s.T + (([] : List Opn).length : Nat), s.R⟩ : St) = s := by simp
          rw [this]
          exact bM
        have HML := Lib.hid hML
        clear hML bM
        have HMV := Lib.hid (fun w' (h : MkL w3 w' w3.heap.size s []) => moves_any w3 w' w3.heap.size s (by have := HST.out; omega) h A B c d as_.length bs.length as_ bs xs ys rfl rfl (hSA.fr0 g3) (hSB.fr0 g3) (hX.fr g3) (hY.fr g3) tX tY)
        have HED := Lib.hid (fun w' L0 (h : MkL w3 w' w3.heap.size s L0) (hl : L0.length ≤ 20000) => edits_any w3 w' w3.heap.size s (by have := HST.out; omega) L0 h hl A B c d as_.length bs.length as_ bs xs ys rfl rfl (hSA.fr0 g3) (hSB.fr0 g3) (hX.fr g3) (hY.fr g3) tX tY)
        go_upto_region 6 with fail
        obtain ⟨M, hM⟩ : ∃ M, M = w3.heap.size := ⟨_, rfl⟩
        rw [← hM] at HML HMV HED ⊢
        clear hM fM q3
        generalize w3.alloc (.cells (codM.A ⟨s, none, 0, 0, false⟩) 63) = W4 at HML ⊢
        go_upto_region 7 with (go_at_call 25; refine (HMV.out W4 HML.out).mono ?_; rintro e w5 ⟨rfl, l, hperm, hpw, hM5⟩)
        obtain ⟨L0, hL0⟩ : ∃ L0, L0 = l.map mvO ++ (xs.filter (goneR ys)).map trO := ⟨_, rfl⟩
        rw [← hL0] at hM5
        have hll : L0.length ≤ 10000 := by
          rw [hL0]
          have h1 := hperm.length_eq
          have h2 := List.length_filter_le (movedR xs) ys
          have h3 := List.length_filter_le (goneR ys) xs
          have h4 := tX.len
          have h5 := tY.len
          rw [List.length_append, List.length_map, List.length_map]
          omega
        have HL0 := Lib.hid hL0
        clear hL0
        go_upto_region 8 with (go_at_call 26; refine (HED.out w5 L0 hM5 (by omega)).mono ?_; rintro e w6 ⟨rfl, hM6⟩)
        have hos : numS s (L0 ++ ys.flatMap (edR xs)) = allO xs ys s l := by rw [HL0.out]; rfl
        have hlen : (numS s (L0 ++ ys.flatMap (edR xs))).length ≤ 15000 := by
          rw [numS_len, List.length_append]
          have := flat_len xs ys
          have := tY.len
          omega
        obtain ⟨D6, c6, rs6, hb6, hR6, hf6, _⟩ := hM6
        have hops := hR6.hos.ops
        have hsl6 := Sl.own hR6.hrs
        have hrl := hR6.hos.len
        have fz := g3.step0 hf6
        have a3 := (mkAt (Cod.bxd_rd hb6)).bad
        have a2 := (mkAt (Cod.bxd_rd hb6)).ops
        simp only at a2 a3
        have hoo : OpsOwn w w6 rs6 (numS s (L0 ++ ys.flatMap (edR xs))) := ⟨hR6.hos.len, fun i h1 h2 => ⟨(hR6.hos.at_ i h1 h2).1, own_base (hR6.hos.at_ i h1 h2).2 g3.size⟩⟩
        generalize hosE : numS s (L0 ++ ys.flatMap (edR xs)) = os at hos hlen hops hrl a3 hsl6 hoo
        have HOS := Lib.hid hos
        have HRL := Lib.hid hrl
        have hrb : rs6.length ≤ 15000 := by omega
        have HOPS := Lib.hid hops
        have HPERM := Lib.hid hperm
        have HPW := Lib.hid hpw
        have HOWN := Lib.hid (show OwnC codO w w6 D6 c6 rs6 from own_base hR6.hrs g3.size)
        have HOO := Lib.hid hoo
        clear hoo hR6 hb6 hf6 HML HMV HED hM5 hos hosE hops hrl hpw hperm hll
        by_cases hgood : os.all goodOp = true
        · rw [hgood] at a3
          have HGD := Lib.hid hgood
          clear hgood
          by_cases hone : ys.all (oneR xs) = true
          · rw [hone]
            have HON := Lib.hid hone
            clear hone
            by_cases h64 : rs6.length ≤ 64
            · have n1 : ¬ (64 : Int) < (rs6.length : Int) := by omega
              go_wp2_with fail
              refine bodyPost_ret (results_tmp2 rfl _ _ _) rfl ?_
              have hrl := HRL.out
              refine ⟨0, D6, c6, rs6, os, ?_, hrl, hsl6, HOPS.out, by omega, fz, ⟨fun h => absurd rfl h, fun _ => ⟨tX, tY, HR.out, ⟨l, HPERM.out, HOS.out⟩, fun o ho => List.all_eq_true.1 HGD.out o ho, fun r hr => List.all_eq_true.1 HON.out r hr, by omega⟩, fun _ _ _ _ => .inl rfl, fun _ _ _ _ _ => rfl⟩, HOWN.out, HOO.out, fun _ => ⟨l, HPERM.out, HOS.out, HPW.out⟩⟩
              rw [← hrl]; rfl
            · have n1 : (64 : Int) < (rs6.length : Int) := by omega
              go_wp2_with fail
              refine bodyPost_ret (results_tmp2 rfl _ _ _) rfl ?_
              exact DfTo.no (by decide) fz (fun _ _ _ h _ => by
                have h1 := (h l HPERM.out).2
                rw [← HOS.out, ← HRL.out] at h1
                exact h64 h1) (fun _ _ _ _ => .inr rfl)
          · have hone' : ys.all (oneR xs) = false := by simpa using hone
            rw [hone']
            go_wp2_with fail
            refine bodyPost_ret (results_tmp2 rfl _ _ _) rfl ?_
            exact DfTo.no (by decide) fz (fun _ _ _ _ h => hone (List.all_eq_true.2 h)) (fun _ _ _ _ => .inr rfl)
        · have hgood' : os.all goodOp = false := by simpa using hgood
          rw [hgood'] at a3
          go_wp2_with fail
          refine bodyPost_ret (results_tmp2 rfl _ _ _) rfl ?_
          exact DfTo.no (by decide) fz (fun _ _ _ h _ => hgood (List.all_eq_true.2 (by rw [HOS.out]; exact (h l HPERM.out).1))) (fun _ _ _ h => absurd (List.all_eq_true.2 (by rw [HOS.out]; exact h l HPERM.out)) hgood)
      · have hr' : rightS s = false := by simpa using hr
        have CR : ∀ wS : World, Calls Tryz.prog 24 #[.agg (codS.A s)] wS (Gives wS (.bool false)) := fun wS => by have := right_v wS s; rwa [hr'] at this
        have HCR := Lib.hid CR
        have HNR := Lib.hid hr
        clear hr CR hr'
        go_enter Tryz.func9, Tryz.ntmps9
        go_wp2_with (first
          | (go_at_call 23; have _t := tok; refine (CA.out _ f0).mono ?_; rintro e w1 ⟨rfl, f1⟩; clear tok _t)
          | (go_at_call 23; refine (CB.out w1 (f0.step0 f1)).mono ?_; rintro e w2 ⟨rfl, f2⟩; have q2 := Cod.rd_fr0 (Cod.rd_fr0 q0 f1) f2)
          | (go_at_call 24; refine (HCR.out _).mono ?_; rintro e w3 ⟨rfl, f3⟩))
        refine bodyPost_ret (results_tmp2 rfl _ _ _) rfl ?_
        exact DfTo.no (by decide) (((f0.step0 f1).step0 f2).step0 f3) (fun _ _ h _ _ => HNR.out h) (fun _ _ h _ => absurd h HNR.out)
    · have CB := Lib.hid (fun w' (f : Fr noB w w') => ntree_no w' B d bs.length bs ys rfl (hSB.fr0 f) hb2 (hY.fr f) hby tY)
      go_enter Tryz.func9, Tryz.ntmps9
      go_wp2_with (first
        | (go_at_call 23; have _t := tok; refine (CA.out _ f0).mono ?_; rintro e w1 ⟨rfl, f1⟩; clear tok _t)
        | (go_at_call 23; refine (CB.out w1 (f0.step0 f1)).mono ?_; rintro e w2 ⟨rfl, f2⟩))
      refine bodyPost_ret (results_tmp2 rfl _ _ _) rfl ?_
      exact DfTo.no (by decide) ((f0.step0 f1).step0 f2) (fun _ h _ _ _ => tY h) (fun _ h _ _ => absurd h tY)
  · have CA := Lib.hid (fun w' (f : Fr noB w w') => ntree_no w' A c as_.length as_ xs rfl (hSA.fr0 f) hb1 (hX.fr f) hbx tX)
    go_enter Tryz.func9, Tryz.ntmps9
    go_wp2_with (go_at_call 23; refine (CA.out _ f0).mono ?_; rintro e w1 ⟨rfl, f1⟩)
    refine bodyPost_ret (results_tmp2 rfl _ _ _) rfl ?_
    exact DfTo.no (by decide) (f0.step0 f1) (fun h _ _ _ _ => tX h) (fun h _ _ _ => absurd h tX)
end Go.Proofs.YtefcalkbfaefgaaGreat
