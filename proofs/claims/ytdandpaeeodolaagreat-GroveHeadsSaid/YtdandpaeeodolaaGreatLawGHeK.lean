/- For GroveHeads: rows of int64, slices of slices of ints as an argument, the build of an edit. The walk of GroveHeads. (ex_ldS_at, ex_ldR_at, ex_ldO_at, rdI) -/
import Derived.Test.YtdandpaeeodolaaGreatGlFK
import Derived.Test.YtdandpaeeodolaaGreatGlHK
import Derived.Test.YtdandpaeeodolaaGreatMapNK
import Derived.Test.YtdandpaeeodolaaGreatSmHK
namespace Go.Proofs.YtdandpaeeodolaaGreat
open Go.RowKit Go.Maps Go.Sort
set_option linter.unusedVariables false
set_option linter.unusedSimpArgs false

def cod64 : Cod Int := ⟨2, 1, fun b => [.int .i64 b], 0, fun _ => rfl, by decide, fun x u hu => by
  rw [List.mem_singleton] at hu
  subst hu; rfl, fun x y h => by
  have h2 : Value.int .i64 x = Value.int .i64 y := by injection h
  injection h2⟩
def codJ : Cod Int := ⟨3, 1, fun b => [.int .i64 b], 0, fun _ => rfl, by decide, fun x u hu => by
  rw [List.mem_singleton] at hu
  subst hu; rfl, fun x y h => by
  have h2 : Value.int .i64 x = Value.int .i64 y := by injection h
  injection h2⟩
/-- a slice of ints as a value -/
structure SvW where
  A : Option Addr
  n : Nat
  c : Nat
def codV : Cod SvW := ⟨51, 1, fun b => [.slice b.A b.n b.c], ⟨none, 0, 0⟩, fun _ => rfl, by decide, fun x u hu => by
  rw [List.mem_singleton] at hu
  subst hu; rfl, fun x y h => by
  have h2 : Value.slice x.A x.n x.c = Value.slice y.A y.n y.c := by injection h
  injection h2 with e1 e2 e3
  cases x; cases y; simp_all⟩
theorem et64 : ET Tryz.prog 50 2 1 8 := ET.mk' (z := .int .i64 0) Tryz.underlying50 (by kernel_rfl) rfl (by decide) (by decide)
theorem Sl.cell1 {α : Type} {C : Cod α} (hn : C.n = 1) {w : World} {g off : Nat} {l : List α} (h : Sl w (some ⟨g, off, none⟩) (C.row l)) (i : Nat) (hi : i < l.length) {v : Value} (hv : C.cs l[i] = [v]) : w.cell? ⟨g, off + i, none⟩ = some v := by
  have h2 := Cod.row_get l i 0 hi v (by rw [hv]; rfl)
  rw [hn, Nat.mul_one, Nat.add_zero] at h2
  have hne : C.row l ≠ [] := by
    intro e
    rw [e] at h2
    simp at h2
  obtain ⟨g', off', e, _, hc⟩ := h hne
  injection e with e
  injection e with e1 e2
  subst e1 e2
  exact hc i v h2
/-- an argument: rows of ints -/
def IsIn (w : World) (rs : List SvW) (xs : List (List Int)) : Prop := AllO (fun w (r : SvW) x => x.length = r.n ∧ Sl w r.A (codJ.row x) ∧ r.n ≤ 140737488355328) w rs xs
theorem IsIn.fr {w w' : World} {rs : List SvW} {xs : List (List Int)} (h : IsIn w rs xs) (f : Fr noB w w') : IsIn w' rs xs := ⟨h.1, fun i h1 h2 => by
  obtain ⟨a, b, c⟩ := h.2 i h1 h2
  exact ⟨a, b.fr0 f, c⟩⟩
theorem bldO_e4 (w : World) (k : Int) (a s : St) (x : ID) : (Instr.build 33 #[(0, .int .i64 k), (1, .agg (codS.A a)), (2, .agg (codS.A s)), (5, encI x)]).run Tryz.prog w = .ok (.agg (codO.A { zOpW with Kind := k, At := a, Node := s, Data := x })) w := by
  have h1 : ∀ place : Nat → Option (Nat × Nat), place 0 = some (0, 1) → place 1 = some (1, 2) → place 2 = some (3, 2) → place 5 = some (8, 32) → Instr.fill place ([] ++ [Value.int .i64 0] ++ ([Value.int .i64 0, Value.int .i64 0, Value.int .i64 0, Value.int .i64 0, Value.int .i64 0, Value.int .i64 0, Value.string (str [])] ++ bv zID.1 ++ [Value.slice none 0 0])).toArray [(0, .int .i64 k), (1, .agg (codS.A a)), (2, .agg (codS.A s)), (5, encI x)] = some (codO.cs { zOpW with Kind := k, At := a, Node := s, Data := x }).toArray := by
    intro place p0 p1 p2 p3
    refine (fill_one place [] [.int .i64 0] ([Value.int .i64 0, Value.int .i64 0, Value.int .i64 0, Value.int .i64 0, Value.int .i64 0, Value.int .i64 0, Value.string (str [])] ++ bv zID.1 ++ [Value.slice none 0 0]) [.int .i64 k] 0 (.int .i64 k) _ rfl (by simpa using p0) rfl).trans ?_
    have e0 := fill_one place [.int .i64 k] [.int .i64 0, .int .i64 0] ([.int .i64 0, .int .i64 0, .int .i64 0, .int .i64 0, Value.string (str [])] ++ bv zID.1 ++ [Value.slice none 0 0]) [.int .i64 a.T, .int .i64 a.R] 1 (.agg (codS.A a)) [(2, .agg (codS.A s)), (5, encI x)] (by rw [A_SS]; rfl) (by simpa using p1) rfl
    refine Eq.trans ?_ (e0.trans ?_)
    · simp
    have e1 := fill_one place [.int .i64 k, .int .i64 a.T, .int .i64 a.R] [.int .i64 0, .int .i64 0] ([.int .i64 0, .int .i64 0, Value.string (str [])] ++ bv zID.1 ++ [Value.slice none 0 0]) [.int .i64 s.T, .int .i64 s.R] 2 (.agg (codS.A s)) [(5, encI x)] (by rw [A_SS]; rfl) (by simpa using p2) rfl
    refine Eq.trans ?_ (e1.trans ?_)
    · simp
    have e2 := fill_one place [.int .i64 k, .int .i64 a.T, .int .i64 a.R, .int .i64 s.T, .int .i64 s.R, .int .i64 0, .int .i64 0, Value.string (str [])] (bv zID.1) [Value.slice none 0 0] (bv x.1) 5 (encI x) [] (cellsI x) (by simpa [x.2] using p3) (by simp [x.2, zID])
    refine Eq.trans ?_ (e2.trans ?_)
    · simp
    · simp [Instr.fill, codO, csO, zOpW, zSt]
  have hz : (zeroValue 33).run Tryz.prog w = .ok (.agg (codO.cs codO.z).toArray) w := okO.zero w
  simp only [Instr.build, Sem.run_bind, hz, Result.andThen_ok, run_underlying Tryz.underlying33, zO_form]
  simp only [List.mapM_toArray, List.mapM_cons, List.mapM_nil, Sem.run_bind, Tryz.sizeOf3, Tryz.sizeOf30, Tryz.sizeOf31, Tryz.sizeOf9, Tryz.sizeOf28, Result.andThen_ok, Sem.run_pure, Sem.run_map, map_pure, bind_pure_comp]
  rw [h1 _ rfl rfl rfl rfl]
  simp [Cod.A_eq]
@[simp ↓] theorem ex_bldOe4 (ρ : Operand → Value) (x0 x1 x2 x3 : Operand) (d : Option Nat) (t : TypeId) (p : String) (f : Array Edge) (g : Option (Nat × Bool)) (w : World) :
    (execOp ρ { dst := d, op := .build 33 #[(0, x0), (1, x1), (2, x2), (5, x3)], type := t, pos := p, after := f, guard := g }).run Tryz.prog w = mkB 33 w [(0, ρ x0), (1, ρ x1), (2, ρ x2), (5, ρ x3)] := (exB ρ _ _ _ rfl w).trans (by simp only [List.map_toArray, List.map_cons, List.map_nil])
@[simp] theorem mkB_Oe4 (w : World) (k : Int) (a s : St) (x : ID) : mkB 33 w [(0, .int .i64 k), (1, .agg (codS.A a)), (2, .agg (codS.A s)), (5, encI x)] = .ok (.value (.agg (codO.A { zOpW with Kind := k, At := a, Node := s, Data := x }))) w := mkB_ok (bldO_e4 w k a s x)
/-! which are gone -/
def goneB (i : Nat) (ks : List Int) (x : Int) : Bool := decide (0 < i) && ks.any fun k => decide (x = 2 + (bits BinOp.and IntKind.i64 k 1023).tmod (i : Int))
theorem goneB_snoc (i : Nat) (ks : List Int) (k x : Int) : goneB i (ks ++ [k]) x = (goneB i ks x || (decide (0 < i) && decide (x = 2 + (bits BinOp.and IntKind.i64 k 1023).tmod (i : Int)))) := by
  unfold goneB
  rw [List.any_append]
  cases decide (0 < i) <;> simp
theorem gone_key {i : Nat} (k : Int) (hi : 0 < i) (hi2 : i ≤ 20) : ∃ q : Nat, (bits BinOp.and IntKind.i64 k 1023).tmod (i : Int) = (q : Int) ∧ q < i := by
  have h1 : ∃ r : Nat, bits BinOp.and IntKind.i64 k 1023 = (r : Int) := by
    refine ⟨(BitVec.ofInt 64 k &&& BitVec.ofInt 64 (1023 : Int)).toNat, ?_⟩
    have hle : (BitVec.ofInt 64 k &&& BitVec.ofInt 64 (1023 : Int)).toNat ≤ 1023 := by
      rw [BitVec.toNat_and]
      refine Nat.le_trans Nat.and_le_right ?_
      rw [BitVec.toNat_ofInt]
      omega
    show IntKind.i64.wrap (((BitVec.ofInt 64 k &&& BitVec.ofInt 64 (1023 : Int)).toNat : Nat) : Int) = _
    rw [IntKind.wrap_i64]
    omega
  obtain ⟨r, hr⟩ := h1
  exact ⟨r % i, by rw [hr]; rfl, Nat.mod_lt _ hi⟩
/-- the map says which are gone -/
def GoneM (w : World) (M : Nat) (f : Int → Bool) : Prop := ∃ kv, mpN w M = some kv ∧ ∀ x, (look kv x).getD (.bool false) = .bool (f x)
theorem upto_succ {x : Nat} (h : 2 ≤ x) : uptoH (x + 1 - 2) = uptoH (x - 2) ++ [(x : Int)] := by
  have e : x + 1 - 2 = (x - 2) + 1 := by omega
  rw [e]
  unfold uptoH
  rw [List.range_succ, List.map_append, List.map_singleton]
  congr 3
  omega
theorem ov_succ {x : Nat} (h : 2 ≤ x) (g : Int → Bool) : ovH g (x + 1 - 2) = if g x then ovH g (x - 2) ++ [(x : Int)] else ovH g (x - 2) := by
  unfold ovH
  rw [upto_succ h, List.filter_append]
  cases hg : g x with
  | true => simp [hg]
  | false => simp [hg]
theorem look_rep {kv : List (Int × Value)} {k x : Int} {v : Value} (h : (look kv k).isSome = true) : look (kv.map fun p => if p.1 = k then (k, v) else p) x = if x = k then some v else look kv x := by
  induction kv with
  | nil => simp [look] at h
  | cons p kv ih =>
    unfold look at ih h ⊢
    rw [List.map_cons, List.find?_cons, List.find?_cons]
    by_cases hp : p.1 = k
    · rw [if_pos hp]
      by_cases hx : x = k
      · subst hx
        simp
      · have h1 : ¬ k = x := fun e => hx e.symm
        have h2 : ¬ p.1 = x := by rw [hp]; exact h1
        simp only [h1, h2, decide_false, hx, if_false]
        have key : (List.find? (fun p : Int × Value => decide (p.1 = x)) (kv.map fun p => if p.1 = k then (k, v) else p)) = List.find? (fun p => decide (p.1 = x)) kv := by
          clear ih h
          induction kv with
          | nil => rfl
          | cons q kv ih2 =>
            rw [List.map_cons, List.find?_cons, List.find?_cons]
            by_cases hq : q.1 = k
            · rw [if_pos hq]
              have h3 : ¬ q.1 = x := by rw [hq]; exact h1
              simp only [h1, h3, decide_false]
              exact ih2
            · rw [if_neg hq, ih2]
        rw [key]
    · rw [if_neg hp]
      rw [List.find?_cons] at h
      have hp' : decide (p.1 = k) = false := decide_eq_false hp
      rw [hp'] at h
      have ih := ih h
      by_cases hpx : p.1 = x
      · have hx : ¬ x = k := fun e => hp (hpx.trans e)
        simp [hpx, hx]
      · simp only [hpx, decide_false]
        exact ih
theorem look_putL (kv : List (Int × Value)) (k x : Int) (v : Value) : look (putL kv k v) x = if x = k then some v else look kv x := by
  unfold putL
  split
  · rename_i h
    exact look_rep h
  · rename_i h
    have h0 : look kv k = none := by simpa using h
    by_cases hx : x = k
    · subst hx
      unfold look at h0 ⊢
      rw [Option.map_eq_none_iff] at h0
      rw [List.find?_append, h0]
      simp
    · have h1 : ¬ k = x := fun e => hx e.symm
      rw [if_neg hx]
      unfold look
      rw [List.find?_append]
      simp [h1]
theorem GoneM.put {w' : World} {M : Nat} {f f' : Int → Bool} {kv : List (Int × Value)} {k : Int} (h : ∀ x, (look kv x).getD (.bool false) = .bool (f x)) (h' : mpN w' M = some (putL kv k (.bool true))) (hf : ∀ x, f' x = (f x || decide (x = k))) : GoneM w' M f' :=
  ⟨_, h', fun x => by
    rw [look_putL, hf]
    by_cases hx : x = k
    · simp [hx]
    · rw [if_neg hx, h x]
      simp [hx]⟩
theorem GoneM.fr {M0 : Nat → Prop} {w w' : World} {M : Nat} {f : Int → Bool} (h : GoneM w M f) (fr : Fr M0 w w') (hM : ¬ M0 M) : GoneM w' M f := by
  obtain ⟨kv, h1, h2⟩ := h
  exact ⟨kv, mpN_fr h1 fr hM, h2⟩
def GnQ (w15 : World) (M : Nat) (i : Nat) (ks : List Int) (gk : Nat) (jv : Value) (wq : World) : Prop :=
  ∃ j : Nat, jv = .int .i64 (j : Int) ∧ gk = ks.length - j ∧ j ≤ ks.length ∧ GoneM wq M (goneB i (ks.take j)) ∧ Fr (oneB M) w15 wq
theorem goneB_take {i j : Nat} {ks : List Int} (h : j < ks.length) (x : Int) : goneB i (ks.take (j + 1)) x = (goneB i (ks.take j) x || (decide (0 < i) && decide (x = 2 + (bits BinOp.and IntKind.i64 ks[j] 1023).tmod (i : Int)))) := by
  rw [List.take_succ_eq_append_getElem h]
  exact goneB_snoc i (ks.take j) ks[j] x
def OvQ (w21 : World) (D a : Nat) (E0 : OpW) (gi : Int → Bool) (gk : Nat) (xv : Value) (wr : World) : Prop :=
  ∃ (x : Nat) (Ao : Option Addr) (co : Nat) (os : List St), xv = .int .i64 (x : Int) ∧ gk = a - x ∧ 2 ≤ x ∧ x ≤ a ∧ os = (ovH gi (x - 2)).map sH ∧ codO.bxd wr D = some { E0 with A := Ao, n := os.length, c := co } ∧ OwnC codS w21 wr Ao co os ∧ Fr (oneB D) w21 wr
def LfQ (wA wB : World) (N0 : Nat) (L : List Int) (gi : Int → Bool) (gk : Nat) (jv nv : Value) (wr : World) : Prop :=
  ∃ (j : Nat) (Bn : Option Addr) (cn : Nat) (l : List Int), jv = .int .i64 (j : Int) ∧ gk = L.length - j ∧ j ≤ L.length ∧ nv = .slice Bn l.length cn ∧ l = (L.take j).filter (fun x => !gi x) ∧ OwnC cod64 wA wr Bn cn l ∧ (∀ q, Bn.map (·.block) = some q → q = N0 ∨ wB.heap.size ≤ q) ∧ Fr (oneB N0) wB wr
theorem filter_take {L : List Int} {gi : Int → Bool} {j : Nat} (h : j < L.length) : (L.take (j + 1)).filter (fun x => !gi x) = (L.take j).filter (fun x => !gi x) ++ (if gi L[j] then [] else [L[j]]) := by
  rw [List.take_succ_eq_append_getElem h, List.filter_append]
  congr 1
  cases h2 : gi L[j] <;> simp [h2]
theorem wfN_of {x : Int} (h1 : 0 ≤ x) (h2 : x < 4096) : wfN x = true := by
  unfold wfN
  simp only [Bool.and_eq_true, decide_eq_true_eq]
  omega
def RowHT (w : World) (L : List Int) (e : Ending) (w' : World) : Prop :=
  ∃ r' : RwW, e = .returned (.tuple #[.agg (codR.A r'), .bool true]) ∧ RwIn w' r' (rowH L) ∧ Fr noB w w'
theorem gvRowH_any {base : Nat} {w : World} {b : Nat} {t : TrW} {g : Nat → Int → Bool} {i : Nat} (h : GvS base w b t (opsH g i)) (hL : (opsH g i).length ≤ 100000) : Calls Tryz.prog 18 #[.pointer (some ⟨b, 0, none⟩), .agg (codS.A ⟨1, 1⟩)] w (RowHT w (leftL g i)) := by
  have h1 := gvRow_any h hL (sH 1) (by decide)
  rw [runH] at h1
  refine h1.mono ?_
  rintro e w' ⟨r', x, rfl, hx, hr, _, f⟩
  rw [find_rowH] at hx ⊢
  have hx' : x = rowH (leftL g i) := hx
  subst hx'
  exact ⟨r', rfl, hr.inn, f⟩
theorem opH_in {w : World} {E0 : OpW} {i : Nat} {g : Int → Bool} {Ao : Option Addr} {co : Nat} {os : List St} (hE : E0 = ⟨2, ⟨(i : Int) + 2, 1⟩, ⟨1, 1⟩, zOpW.Parent, zOpW.Name, id2 (i + 2) 0, zOpW.A, zOpW.n, zOpW.c⟩) (ho : os = (ovH g i).map sH) (hs : Sl w Ao (codS.row os)) (hl : os.length ≤ 30) :
    OpIn w { E0 with A := Ao, n := os.length, c := co } (opH i g) := by
  subst hE
  refine ⟨?_, by show ((ovH g i).map sH).length = _; rw [← ho], by show Sl w Ao (codS.row ((ovH g i).map sH)); rw [← ho]; exact hs, by show ((ovH g i).map sH).length ≤ _; rw [← ho]; omega, by show ([] : List UInt8).length ≤ _; simp⟩
  show (⟨2, sH ((i + 2 : Nat) : Int), sH 1, zSt, [], id2 (i + 2) 0, _⟩ : Opn) = ⟨2, ⟨(i : Int) + 2, 1⟩, ⟨1, 1⟩, zSt, [], id2 (i + 2) 0, _⟩
  rw [show (((i + 2 : Nat) : Int)) = (i : Int) + 2 by omega]
  rfl
end Go.Proofs.YtdandpaeeodolaaGreat
namespace Go.Proofs.YtdandpaeeodolaaGreat
open Go.RowKit Go.Sort Go.Maps
set_option linter.unusedVariables false
set_option linter.unusedSimpArgs false
attribute [local go_sem] Oper.semAt_some

def HeR (W : World) (b P : Nat) (g : Nat → Int → Bool) (n : Nat) (gk : Nat) (iv lv : Value) (wr : World) : Prop :=
  ∃ (i : Nat) (t : TrW) (B : Option Addr) (cB : Nat), iv = .int .i64 (i : Int) ∧ gk = n - i ∧ i ≤ n ∧ i ≤ 20 ∧ lv = .slice B (leftL g i).length cB ∧ OwnC cod64 W wr B cB (leftL g i) ∧ codS.bxd wr P = some ⟨1, 1⟩ ∧ GvS W.heap.size wr b t (opsH g i) ∧ Fr noB W wr
set_option maxRecDepth 100000 in
set_option maxHeartbeats 16000000 in
theorem lawHeads_any (W : World) (A : Option Addr) (c : Nat) (rs : List SvW) (xs : List (List Int)) (hs : Sl W A (codV.row rs)) (hb : rs.length ≤ 140737488355328) (hX : IsIn W rs xs) :
    Calls Tryz.prog 4 #[.slice A rs.length c] W (Gives W (.bool true)) := by
  have HX := Lib.hid hX
  have HS := Lib.hid hs
  have HB := Lib.hid hb
  clear hX hs hb
  go_enter Tryz.func4, Tryz.ntmps4
  go_upto_region 4 with (first
    | (go_at_call 8; refine (gvNew_any _).mono ?_; rintro e w1 ⟨b, t0, rfl, h0, hu0, f1⟩)
    | (go_at_call 9; refine (l12alive_any w1).mono ?_; rintro e w2 ⟨rfl, f2⟩))
  have h2 := Lib.hid (h0.fr0 f2)
  have F2 := Lib.hid (f1.step0 f2)
  clear h0 f1 f2 hu0
  go_upto_region 5 with fail
  have fa : Fr noB w2 (w2.alloc (codS.o ⟨1, 1⟩)) := (Fr.refl noB w2).alloc _
  have bP := Cod.bxd_new (C := codS) w2 (⟨1, 1⟩ : St)
  have hPlo := Lib.hid F2.out.size
  obtain ⟨P, hP⟩ : ∃ p, p = w2.heap.size := ⟨_, rfl⟩
  rw [← hP] at bP hPlo ⊢
  have h3 := Lib.hid (h2.out.fr0 fa)
  have F3 := Lib.hid (F2.out.step0 fa)
  have BP := Lib.hid bP
  have rP := Cod.bxd_rd bP
  clear bP fa hP h2 F2
  generalize w2.alloc (codS.o ⟨1, 1⟩) = w3 at rP h3 F3 BP ⊢
  go_upto_region 7 with (first
    | (go_at_call 17; refine (l12move_any _ (sH 1) (sH 1) zSt [97]).mono ?_; rintro e w4 ⟨rfl, f4⟩; have HG4 := Lib.hid (h3.out.fr0 f4); have HF4 := Lib.hid (F3.out.step0 f4); have BP4 := Lib.hid (Cod.bxd_fr0 BP.out f4); clear f4 rP)
    | (go_at_call 11; refine (gvIns_mid [] [] HG4.out (by simp [SrtL]) (by simp) _ mvH (mv_in _ _ _ _ _ (by decide)) (by simp [mvH, mvP]) (by decide) (by simp) (by simp)).mono ?_; rintro e w5 ⟨t5, rfl, hG5, _, _, f5⟩))
  have BP5 := Lib.hid (Cod.bxd_fr BP4.out f5 (HG4.out.offC (Cod.bxd_blk BP4.out) (by decide) (by decide)))
  have HF5 := Lib.hid (HF4.out.step f5 (fun q hq => .inl (HG4.out.base hq)))
  have HG5 := Lib.hid hG5
  clear hG5 f5 HG4 HF4 BP4 BP h3 F3
  obtain ⟨g, hg⟩ : ∃ g : Nat → Int → Bool, g = fun i => goneB i (xs.getD i []) := ⟨_, rfl⟩
  have GDEF := Lib.hid hg
  clear hg
  have fa : Fr noB w5 (w5.alloc (.cells #[] 2)) := (Fr.refl noB w5).alloc _
  have own0 : OwnC cod64 w5 (w5.alloc (.cells #[] 2)) (some ⟨w5.heap.size, 0, none⟩) 0 [] := World.ownsRow_lit (base := w5.heap.size) (e := 2) (size := 1) w5 #[] 0 (Nat.le_refl _) (by unfold maxLen; omega) (by simp)
  have c0 : HeR W b P g rs.length rs.length (.int .i64 ((0 : Nat) : Int)) (.slice (some ⟨w5.heap.size, 0, none⟩) 0 0) (w5.alloc (.cells #[] 2)) :=
    ⟨0, t5, some ⟨w5.heap.size, 0, none⟩, 0, rfl, rfl, by omega, by omega, rfl, own_base own0 HF5.out.size, Cod.bxd_fr0 BP5.out fa, HG5.out.fr0 fa, HF5.out.step0 fa⟩
  clear fa own0 HG5 HF5 BP5
  go_upto_region 8 with fail
  generalize w5.alloc (.cells #[] 2) = w6 at c0 ⊢
  generalize (some ⟨w5.heap.size, 0, none⟩ : Option Addr) = B0 at c0 ⊢
  go_wp2_with fail
  go_loopg [39, 5] rs.length (fun gk iv lv wr => HeR W b P g rs.length gk iv lv wr)
  case atStart => exact c0
  case round =>
    clear c0
    obtain ⟨i, t, B, cB, rfl, rfl, hi, hi20, rfl, hoB, hbx, hG, hF⟩ := hrel
    obtain ⟨w9, rfl⟩ : ∃ x, x = wr := ⟨_, rfl⟩
    by_cases hlt : i < rs.length
    · have i0 : (0 : Int) ≤ (i : Int) := by omega
      have i1 : (i : Int) < (rs.length : Int) := by omega
      obtain ⟨gA, offA, rfl, hgA⟩ := HS.out.adC (by omega)
      have e1 : w9.cell? ⟨gA, offA + i, none⟩ = some (.slice rs[i].A rs[i].n rs[i].c) := (HS.out.fr0 hF).cell1 rfl i hlt rfl
      by_cases h20 : i < 20
      · have i2 : ¬ (20 : Int) ≤ (i : Int) := by omega
        have hlx : i < xs.length := by rw [← HX.out.1]; exact hlt
        obtain ⟨kl, ksl, kb⟩ := (HX.out.fr hF).2 i hlt hlx
        have hgi : ∀ x, g i x = goneB i xs[i] x := fun x => by
          rw [GDEF.out]
          simp only
          rw [List.getD_eq_getElem?_getD, List.getElem?_eq_getElem hlx]
          rfl
        rw [← kl] at e1 kb
        generalize xs[i] = ks at e1 kb ksl hgi
        generalize rs[i].A = rA at e1 ksl
        generalize rs[i].c = rc at e1
        have KS := Lib.hid ksl
        have KB := Lib.hid kb
        have HGI := Lib.hid hgi
        have HLT := Lib.hid hlt
        have H20 := Lib.hid h20
        have HB := Lib.hid hoB
        have HG := Lib.hid hG
        have HF := Lib.hid hF
        have BX := Lib.hid hbx
        have rP := Cod.bxd_rd hbx
        have wu : IntKind.u8.wrap ((i : Int) + 2) = (i : Int) + 2 := by rw [IntKind.wrap_u8]; omega
        have a0 : (0 : Int) ≤ (i : Int) + 2 := by omega
        have a1 : (i : Int) + 2 < 256 := by omega
        clear hi hi20 hlt h20 hoB hbx hG hF kl ksl kb hgi hlx
        go_upto_region 14 with fail
        obtain ⟨E0, hE0⟩ : ∃ x : OpW, x = ⟨2, ⟨(i : Int) + 2, 1⟩, ⟨1, 1⟩, zOpW.Parent, zOpW.Name, id2 (i + 2) 0, zOpW.A, zOpW.n, zOpW.c⟩ := ⟨_, rfl⟩
        rw [← hE0]
        have HE0 := Lib.hid hE0
        obtain ⟨a, ha⟩ : ∃ a : Nat, a = i + 2 := ⟨_, rfl⟩
        have HA := Lib.hid ha
        rw [show (i : Int) + 2 = (a : Int) by omega]
        have f14 : Fr noB w9 (w9.alloc (codO.o E0)) := (Fr.refl noB w9).alloc _
        have bO := Cod.bxd_new (C := codO) w9 E0
        obtain ⟨D, hD⟩ : ∃ x, x = w9.heap.size := ⟨_, rfl⟩
        have hDlt : w9.heap.size < (w9.alloc (codO.o E0)).heap.size := by simp
        rw [← hD] at bO ⊢
        have HDw := Lib.hid (show w9.heap.size ≤ D by omega)
        clear hE0 ha hD wu a0 a1 rP e1
        generalize w9.alloc (codO.o E0) = w14 at f14 bO hDlt ⊢
        go_upto_region 15 with fail
        have f15 : Fr noB w14 (w14.alloc (.map #[] 0)) := (Fr.refl noB w14).alloc _
        have hm0 := mpN_new w14
        have bO15 := Cod.bxd_fr0 bO f15
        have hMD : D < w14.heap.size := Cod.bxd_lt bO
        obtain ⟨M, hM⟩ : ∃ x, x = w14.heap.size := ⟨_, rfl⟩
        rw [← hM] at hm0 hMD ⊢
        have HMw := Lib.hid (show w9.heap.size ≤ M by omega)
        have F15 := Lib.hid (f14.step0 f15)
        have c1 : GnQ (w14.alloc (.map #[] 0)) M i ks ks.length (.int .i64 ((0 : Nat) : Int)) (w14.alloc (.map #[] 0)) := ⟨0, rfl, rfl, by omega, ⟨[], hm0, fun x => by simp [look, goneB]⟩, Fr.refl _ _⟩
        clear hm0 bO f14 f15 hDlt hM
        have BO15 := Lib.hid bO15
        clear bO15
        generalize w14.alloc (.map #[] 0) = w15 at F15 c1 BO15 ⊢
        go_wp2_with fail
        go_loopg [58] ks.length (fun gk jv wr => GnQ w15 M i ks gk jv wr)
        case atStart => exact c1
        case round =>
          clear c1
          obtain ⟨j, rfl, rfl, hj, ⟨kv, hkv, hlk⟩, fj⟩ := hrel
          by_cases hjl : j < ks.length
          · have jj0 : (0 : Int) ≤ (j : Int) := by omega
            have jj1 : (j : Int) < (ks.length : Int) := by omega
            obtain ⟨gk, offk, rfl, hgk⟩ := KS.out.adC (by omega)
            have e2 : wr.cell? ⟨gk, offk + j, none⟩ = some (.int .i64 ks[j]) := (KS.out.fr0 (F15.out.step1 fj HMw.out)).cell1 rfl j hjl rfl
            have hsn := fun x => goneB_take (i := i) hjl x
            have HJL := Lib.hid hjl
            generalize ks[j] = k at e2 hsn
            have HSN := Lib.hid hsn
            have HLK := Lib.hid hlk
            have hj9 := KB.out
            have H20' := H20.out
            clear hj hjl hsn hgk hlk
            by_cases hi0 : 0 < i
            · have p0 : (0 : Int) < (i : Int) := by omega
              have pz : ¬ ((i : Int) = 0) := by omega
              obtain ⟨q, hq, hqi⟩ := gone_key k hi0 (by omega)
              have hwf : wfN (2 + (q : Int)) = true := by
                unfold wfN
                simp only [Bool.and_eq_true, decide_eq_true_eq]
                omega
              obtain ⟨u1, u2, u3, u4⟩ := mputN_all Tryz.underlying52 hkv hwf (.bool true)
              have U := Lib.hid (And.intro u2 u3)
              have hq20 : q ≤ 20 := by omega
              have hP : ∀ x, goneB i (ks.take (j + 1)) x = (goneB i (ks.take j) x || decide (x = 2 + (q : Int))) := fun x => by
                rw [HSN.out x, hq]
                simp [hi0]
              have HP := Lib.hid hP
              clear hqi u1 u2 u3 u4 HSN hP H20'
              go_wp2_with fail
              go_roundg (ks.length - (j + 1))
              case measure => have := HJL.out; omega
              case rel => exact ⟨j + 1, rfl, rfl, HJL.out, GoneM.put HLK.out U.out.1 HP.out, fj.trans U.out.2 (fun b _ hb => hb)⟩
            · have p0 : ¬ (0 : Int) < (i : Int) := by omega
              have hP : ∀ x, goneB i (ks.take (j + 1)) x = goneB i (ks.take j) x := fun x => by
                rw [HSN.out x]
                simp [hi0]
              have HP := Lib.hid hP
              clear HSN hP H20'
              go_wp2_with fail
              go_roundg (ks.length - (j + 1))
              case measure => have := HJL.out; omega
              case rel => exact ⟨j + 1, rfl, rfl, HJL.out, ⟨kv, hkv, fun x => by rw [HP.out]; exact HLK.out x⟩, fj⟩
          · have jj1 : ¬ (j : Int) < (ks.length : Int) := by omega
            have hjn : j = ks.length := by omega
            have hgm : GoneM wr M (g i) := ⟨kv, hkv, fun x => by
              rw [hlk x, hjn, List.take_length, HGI.out]⟩
            have bOA := Cod.bxd_fr BO15.out fj (by show ¬ D = M; omega)
            have FA := Lib.hid (F15.out.step1 fj HMw.out)
            clear hj hjl hjn hlk hkv fj F15 BO15 KS KB
            obtain ⟨wA, rfl⟩ : ∃ x, x = wr := ⟨_, rfl⟩
            have fn : Fr noB wA (wA.alloc (.cells #[] 2)) := (Fr.refl noB wA).alloc _
            have own1 : OwnC cod64 wA (wA.alloc (.cells #[] 2)) (some ⟨wA.heap.size, 0, none⟩) 0 [] := World.ownsRow_lit (base := wA.heap.size) (e := 2) (size := 1) wA #[] 0 (Nat.le_refl _) (by unfold maxLen; omega) (by simp)
            have hMN : M < wA.heap.size := by obtain ⟨_, h, _⟩ := hgm; exact mpN_lt h
            have hgm2 := hgm.fr fn (by simp [noB])
            have bO2 := Cod.bxd_fr0 bOA fn
            have FA2 := Lib.hid (FA.out.step0 fn)
            have HwA := Lib.hid FA.out.size
            have hND : D < wA.heap.size := Cod.bxd_lt bOA
            obtain ⟨N0, hN0⟩ : ∃ x, x = wA.heap.size := ⟨_, rfl⟩
            go_upto_region 22 with fail
            rw [← hN0] at own1 hMN hND ⊢
            clear fn hgm bOA FA
            have OWN1 := Lib.hid own1
            have HGM := Lib.hid hgm2
            have HN := Lib.hid (show M < N0 ∧ D < N0 ∧ D < M ∧ N0 = wA.heap.size from ⟨hMN, hND, hMD, hN0⟩)
            have c2 : OvQ (wA.alloc (.cells #[] 2)) D a E0 (g i) (a - 2) (.int .i64 ((2 : Nat) : Int)) (wA.alloc (.cells #[] 2)) :=
              ⟨2, none, 0, [], rfl, rfl, by omega, by have := HA.out; omega, rfl, by rw [bO2, HE0.out]; rfl, ⟨rfl, .inl ⟨rfl, rfl⟩⟩, Fr.refl _ _⟩
            clear own1 hgm2 hN0 hMN hND bO2
            generalize wA.alloc (.cells #[] 2) = w21 at OWN1 HGM FA2 c2 ⊢
            go_wp2_with fail
            go_loopg [14] (a - 2) (fun gk xv wr => OvQ w21 D a E0 (g i) gk xv wr)
            case atStart => exact c2
            case round =>
              clear c2
              obtain ⟨x, Ao, co, os, rfl, rfl, hx2, hxa, hos, hb6, ho6, f6⟩ := hrel
              have HOS := Lib.hid hos
              have hln : os.length ≤ 30 := by
                rw [hos, List.length_map]
                have := ov_len (g i) (x - 2)
                have := HA.out
                have := H20.out
                omega
              clear hos
              have hgm := HGM.out.fr f6 (by have := HN.out.2.2.1; show ¬ M = D; omega)
              by_cases hlt : x < a
              · have x1 : (x : Int) < (a : Int) := by omega
                obtain ⟨kv, hkv, hlk⟩ := hgm
                have hlx := hlk (x : Int)
                have hwx : wfN (x : Int) = true := wfN_of (by omega) (by have := HA.out; have := H20.out; omega)
                have hov := ov_succ hx2 (g i)
                have HLT := Lib.hid (show x < a ∧ 2 ≤ x from ⟨hlt, hx2⟩)
                have hx30 : x ≤ 30 := by have := HA.out; have := H20.out; omega
                clear hlk hlt hx2 hxa
                by_cases hgx : g i (x : Int) = true
                · rw [hgx] at hlx
                  rw [if_pos hgx] at hov
                  have HOV := Lib.hid hov
                  have fs : Fr noB wr (wr.alloc (codS.ro [⟨(x : Int), 1⟩])) := (Fr.refl noB wr).alloc _
                  have sl := Cod.sl_new (C := codS) wr [⟨(x : Int), 1⟩]
                  have k6 := (opAt (Cod.bxd_rd hb6)).over
                  have hb7 := Cod.bxd_fr0 hb6 fs
                  have ho7 := own_new0 ho6 fs
                  have f7 := f6.step0 fs
                  have hnb := (Cod.bxd_blk hb7).ne_own ho7 (by decide)
                  have HNB := Lib.hid hnb
                  clear hb6 ho6 fs f6 hnb hov hgx
                  simp only at k6
                  go_wp2_with (at_builtin; refine wpList_appC' etS w21 _ rfl _ _ rfl Ao os.length co os rfl rfl ho7 (some ⟨wr.heap.size, 0, none⟩) 1 1 [⟨(x : Int), 1⟩] rfl sl rfl (by simp; omega) f7.size ?_; intro A8 c8 w8 hc8 hmx8 ho8 hg8 hA8; obtain ⟨os', hos'⟩ : ∃ l : List St, l = os ++ [⟨(x : Int), 1⟩] := ⟨_, rfl⟩; rw [← hos'] at ho8 ⊢; have HLE := Lib.hid hos'; clear hos' hmx8 hc8; have hb8 := Cod.bxd_fr hb7 (Fr.ofGrown (M := fun b => Ao.map (·.block) = some b) hg8 (fun g hg => hg)) (fun e => HNB.out D (by rw [ownBlock_sl']; exact e) rfl); have k8 := (opAt (Cod.bxd_rd hb8)).over; have z8 := (Cod.bxd_blk hb8).frozen 40)
                  have f8 := f7.step (Fr.ofGrown (M := fun b => Ao.map (·.block) = some b) hg8 (fun g hg => hg)) (fun b hb => .inl (own_lt ho7 b hb).1)
                  have hb9 := Cod.bxd_set hb8 40 (.slice A8 os'.length c8) _ (seO_Over _ _ _ _)
                  have g9 := Cod.set_fr w8 D 40 (.slice A8 os'.length c8)
                  have ho9 := own_box (Cod.bxd_blk hb8) ho8 (by decide) g9
                  go_roundg (a - (x + 1))
                  case measure => have := HLT.out; omega
                  case rel => exact ⟨x + 1, A8, c8, os', by simp, rfl, by have := HLT.out; omega, HLT.out.1, by rw [HLE.out, HOV.out, List.map_append, HOS.out]; rfl, hb9, ho9, f8.trans g9 (fun b _ hb => hb)⟩
                · have hgf : g i (x : Int) = false := by simpa using hgx
                  rw [hgf] at hlx
                  rw [if_neg hgx] at hov
                  have HOV := Lib.hid hov
                  clear hov hgx hgf
                  go_wp2_with fail
                  go_roundg (a - (x + 1))
                  case measure => have := HLT.out; omega
                  case rel => exact ⟨x + 1, Ao, co, os, by simp, rfl, by have := HLT.out; omega, HLT.out.1, by rw [HOV.out]; exact HOS.out, hb6, ho6, f6⟩
              · have x1 : ¬ (x : Int) < (a : Int) := by omega
                have hxe : x - 2 = i := by have := HA.out; omega
                rw [hxe] at HOS
                have HB6 := Lib.hid hb6
                have HO6 := Lib.hid ho6
                have OWN2 := Lib.hid (own_fr OWN1.out f6 (fun q hq => by rw [ownBlock_sl'] at hq; simp at hq; have := HN.out.2.1; show ¬ q = D; omega))
                have FB := Lib.hid (FA2.out.step1 f6 HDw.out)
                have HN21 := Lib.hid (own_lt OWN1.out N0 rfl).2
                have HSZ := Lib.hid (show wA.heap.size ≤ wr.heap.size by have h1 := (own_lt OWN2.out N0 rfl).2; have h2 := HN.out.2.2.2; omega)
                have HGM2 := Lib.hid hgm
                clear hx2 hxa hlt hxe hb6 ho6 f6 hgm HGM OWN1 FA2
                obtain ⟨wB, rfl⟩ : ∃ x, x = wr := ⟨_, rfl⟩
                obtain ⟨L, hL⟩ : ∃ l, l = leftL g i := ⟨_, rfl⟩
                rw [← hL]
                have HLB := Lib.hid (show OwnC cod64 W w9 B cB L by rw [hL]; exact HB.out)
                have HLM := Lib.hid (show (∀ x ∈ L, 2 ≤ x ∧ x < (i : Int) + 2) ∧ L.length ≤ 20 from ⟨fun x hx => left_mem (g := g) (i := i) (by rw [← hL]; exact hx), by rw [hL]; have := left_len (g := g) i; have := H20.out; omega⟩)
                have HLE := Lib.hid hL
                have hl20 := HLM.out.2
                have c3 : LfQ wA wB N0 L (g i) L.length (.int .i64 ((0 : Nat) : Int)) (.slice (some ⟨N0, 0, none⟩) 0 0) wB := ⟨0, _, _, [], rfl, rfl, by omega, rfl, rfl, OWN2.out, fun q hq => by simp at hq; exact .inl hq.symm, Fr.refl _ _⟩
                clear OWN2 HB hL
                go_wp2_with fail
                go_loopg [89, 13] L.length (fun gk jv nv wr => LfQ wA wB N0 L (g i) gk jv nv wr)
                case atStart => exact c3
                case round =>
                  clear c3
                  obtain ⟨j, Bn, cn, l, rfl, rfl, hj, rfl, hl, hoN, hBn, fC⟩ := hrel
                  have HLL := Lib.hid hl
                  have hll : l.length ≤ j := by
                    rw [hl]
                    have := List.length_filter_le (fun x => !g i x) (L.take j)
                    have := List.length_take_le j L
                    omega
                  clear hl
                  by_cases hlt : j < L.length
                  · have j0 : (0 : Int) ≤ (j : Int) := by omega
                    have j1 : (j : Int) < (L.length : Int) := by omega
                    have FC := FB.out.step1 fC (by have := HN.out.2.2.2; have := HwA.out; omega)
                    have hsl := (Sl.own (own_new0 HLB.out FC) : Sl wr B (cod64.row L))
                    obtain ⟨gB, offB, rfl, hgB⟩ := hsl.adC (by omega)
                    have e3 : wr.cell? ⟨gB, offB + j, none⟩ = some (.int .i64 L[j]) := hsl.cell1 rfl j hlt rfl
                    have hft := filter_take (gi := g i) hlt
                    obtain ⟨kv, hkv, hlk⟩ := HGM2.out.fr fC (by have := HN.out.1; show ¬ M = N0; omega)
                    have hxm := HLM.out.1 _ (List.getElem_mem hlt)
                    generalize L[j] = x at e3 hft hxm
                    have hlx := hlk x
                    have hwx : wfN x = true := wfN_of (by omega) (by have := H20.out; omega)
                    have HLT := Lib.hid hlt
                    clear hlk hlt hj hgB hsl hxm
                    by_cases hgx : g i x = true
                    · rw [hgx] at hlx
                      rw [if_pos hgx, List.append_nil] at hft
                      have HFT := Lib.hid hft
                      clear hft hgx
                      go_wp2_with fail
                      go_roundg (L.length - (j + 1))
                      case measure => have := HLT.out; omega
                      case rel => exact ⟨j + 1, Bn, cn, l, by simp, rfl, HLT.out, rfl, by rw [HFT.out]; exact HLL.out, hoN, hBn, fC⟩
                    · have hgf : g i x = false := by simpa using hgx
                      rw [hgf] at hlx
                      rw [if_neg hgx] at hft
                      have HFT := Lib.hid hft
                      have fs : Fr noB wr (wr.alloc (.cells #[.int .i64 x] 2)) := (Fr.refl noB wr).alloc _
                      have sl := Sl.new wr 2 [.int .i64 x]
                      have ho7 := own_new0 hoN fs
                      have f7 := fC.step0 fs
                      have hsz : wA.heap.size ≤ (wr.alloc (.cells #[.int .i64 x] 2)).heap.size := Nat.le_trans HSZ.out f7.size
                      clear hft hgx hgf hoN fs fC
                      go_wp2_with (at_builtin; refine wpList_appC' et64 wA _ rfl _ _ rfl Bn l.length cn l rfl rfl ho7 (some ⟨wr.heap.size, 0, none⟩) 1 1 [x] rfl sl rfl (by simp; omega) hsz ?_; intro A8 c8 w8 hc8 hmx8 ho8 hg8 hA8; obtain ⟨l', hl'⟩ : ∃ q : List Int, q = l ++ [x] := ⟨_, rfl⟩; rw [← hl'] at ho8 ⊢; have HLE2 := Lib.hid hl'; clear hl' hmx8 hc8)
                      have f8 := f7.step (Fr.ofGrown (M := fun b => Bn.map (·.block) = some b) hg8 (fun g hg => hg)) (fun b hb => (hBn b hb).elim (fun h => .inr h) (fun h => .inl h))
                      go_roundg (L.length - (j + 1))
                      case measure => have := HLT.out; omega
                      case rel => exact ⟨j + 1, A8, c8, l', by simp, rfl, HLT.out, rfl, by rw [HLE2.out, HFT.out, HLL.out], ho8, fun q hq => by
                        rcases hA8 with h | h
                        · exact hBn q (by rw [← h]; exact hq)
                        · rw [hq] at h
                          injection h with h
                          have := f7.size
                          omega, f8⟩
                  · have j1 : ¬ (j : Int) < (L.length : Int) := by omega
                    have hjn : j = L.length := by omega
                    have hlf : l ++ [(a : Int)] = leftL g (i + 1) := by
                      rw [HLL.out, hjn, List.take_length, HLE.out, HA.out]
                      rfl
                    have HLF := Lib.hid hlf
                    have fs : Fr noB wr (wr.alloc (.cells #[.int .i64 (a : Int)] 2)) := (Fr.refl noB wr).alloc _
                    have sl := Sl.new wr 2 [.int .i64 (a : Int)]
                    have ho7 := own_new0 hoN fs
                    have f7 := fC.step0 fs
                    have hsz : wA.heap.size ≤ (wr.alloc (.cells #[.int .i64 (a : Int)] 2)).heap.size := Nat.le_trans HSZ.out f7.size
                    have FC := FB.out.step1 f7 (by have := HN.out.2.2.2; have := HwA.out; omega)
                    have hHN := HN.out
                    have hlb20 : l.length ≤ 20 := by omega
                    have bO7 := Cod.bxd_fr HB6.out f7 (by show ¬ D = N0; omega)
                    have oO7 := own_fr HO6.out f7 (fun q hq => by rw [ownBlock_sl'] at hq; have h1 := (own_lt HO6.out q hq).1; have h2 := HN21.out; show ¬ q = N0; omega)
                    have hDs := Cod.bxd_lt HB6.out
                    have hbd : ∀ q, Bn.map (·.block) = some q → q ≠ D := fun q hq => by
                      rcases hBn q hq with h | h
                      · omega
                      · omega
                    have hbo : ∀ q, Bn.map (·.block) = some q → ∀ p, Ao.map (·.block) = some p → p ≠ q := fun q hq p hp => by
                      have h1 := own_lt HO6.out p hp
                      have h2 := HN21.out
                      rcases hBn q hq with h | h
                      · omega
                      · omega
                    have HBO7 := Lib.hid bO7
                    have HOO7 := Lib.hid oO7
                    have HBD := Lib.hid (And.intro hbd hbo)
                    have HFC := Lib.hid FC
                    clear hlf hjn hj hlt hoN fs fC FC bO7 oO7 hDs hbd hbo hHN HO6 HB6 HGM2
                    go_upto_region 34 with (at_builtin; refine wpList_appC' et64 wA _ rfl _ _ rfl Bn l.length cn l rfl rfl ho7 (some ⟨wr.heap.size, 0, none⟩) 1 1 [(a : Int)] rfl sl rfl (by simp; omega) hsz ?_; intro A8 c8 w8 hc8 hmx8 ho8 hg8 hA8; obtain ⟨l', hl'⟩ : ∃ q : List Int, q = l ++ [(a : Int)] := ⟨_, rfl⟩; rw [← hl'] at ho8 ⊢; have HLE2 := Lib.hid hl'; clear hl' hmx8 hc8)
                    have fg := Fr.ofGrown (M := fun b => Bn.map (·.block) = some b) hg8 (fun g hg => hg)
                    have F8 := Lib.hid (HFC.out.step fg (fun q hq => .inl (Nat.le_trans HwA.out (own_lt ho7 q hq).1)))
                    have bO8 := Cod.bxd_fr HBO7.out fg (fun e => HBD.out.1 _ e rfl)
                    have oO8 := own_fr HOO7.out fg (fun q hq e => by rw [ownBlock_sl'] at hq; exact HBD.out.2 _ e q hq rfl)
                    have HG8 := Lib.hid (HG.out.fr0 F8.out)
                    have BX8 := Lib.hid (Cod.bxd_fr0 BX.out F8.out)
                    have rD8 := Cod.bxd_rd bO8
                    have HO8 := Lib.hid ho8
                    have HIN := Lib.hid (opH_in (co := co) HE0.out HOS.out (Sl.own oO8) hln)
                    have hi20 : i ≤ 20 := by have := H20.out; omega
                    clear fg hg8 hA8 bO8 oO8 ho8 ho7 HBO7 HOO7 HBD HFC sl f7 hsz
                    go_wp2_with (go_at_call 11; go_loud (refine (gvIns_mid (opsH g i) [] (by rw [List.append_nil]; exact HG8.out) (by rw [List.append_nil]; exact opsH_srt g i) (by rw [List.append_nil, opsH_len]; omega) _ (opH i (g i)) HIN.out (by show ((ovH (g i) i).map sH).length ≤ _; rw [← HOS.out]; omega) (opH_good hi20 (g i)) (opsH_lt g i) (by simp)).mono ?_; rintro e w10 ⟨t10, rfl, hG10, _, _, f10⟩; have HG10 := Lib.hid hG10; have F10 := Lib.hid f10; clear hG10 f10))
                    have hfin : l' = leftL g (i + 1) := by rw [HLE2.out, HLF.out]
                    go_roundg (rs.length - (i + 1))
                    case measure => have := HLT.out; omega
                    case rel => exact ⟨i + 1, t10, A8, c8, by simp, rfl, HLT.out, H20.out, by rw [hfin], by rw [← hfin]; exact own_base (HG8.out.own F10.out HO8.out (by decide) (by decide)) (by have := HF.out.size; have := HwA.out; omega), Cod.bxd_fr BX8.out F10.out (HG8.out.offC (Cod.bxd_blk BX8.out) (by decide) (by decide)), by rw [opsH_succ]; exact HG10.out, (HF.out.step0 F8.out).step F10.out (fun q hq => .inl (HG8.out.base hq))⟩
      · have i2 : (20 : Int) ≤ (i : Int) := by omega
        generalize rs[i].A = rA at e1
        generalize rs[i].n = rn at e1
        generalize rs[i].c = rc at e1
        obtain ⟨L, hL⟩ : ∃ l, l = leftL g i := ⟨_, rfl⟩
        have HLB := Lib.hid (show OwnC cod64 W w9 B cB L by rw [hL]; exact hoB)
        have HLM := Lib.hid (show (∀ x ∈ L, 2 ≤ x ∧ x < (i : Int) + 2) ∧ L.length ≤ 20 from ⟨fun x hx => left_mem (g := g) (i := i) (by rw [← hL]; exact hx), by rw [hL]; have := left_len (g := g) i; omega⟩)
        have RW := Lib.hid (gvRowH_any hG (by rw [opsH_len]; omega))
        rw [← hL] at RW ⊢
        have rP := Cod.bxd_rd hbx
        have HF := Lib.hid hF
        have hi20' : i ≤ 20 := hi20
        have HL20 := HLM.out.2
        clear hL hoB hG hF hbx hi hlt hi20
        go_upto_region 38 with (go_at_call 18; refine (RW.out).mono ?_; rintro e w11 ⟨r', rfl, hr', f11⟩)
        have F11 := Lib.hid f11
        have f12 : Fr noB w11 (w11.alloc (codR.o r')) := (Fr.refl noB w11).alloc _
        have d5 := (rwAt (Cod.rd_new' (C := codR) w11 r')).heads
        have hrl : L.length = r'.n := by have := hr'.len; rw [← this]; show _ = (L.map hdH).length; rw [List.length_map]
        have hrs : Sl w11 r'.A (codH.row (L.map hdH)) := hr'.sl
        rw [← hrl] at d5
        generalize r'.A = rA' at d5 hrs
        generalize r'.c = rc' at d5
        obtain ⟨Dr, hDr⟩ : ∃ x, x = w11.heap.size := ⟨_, rfl⟩
        rw [← hDr] at d5 ⊢
        have HRS := Lib.hid (hrs.fr0 f12)
        have F12 := Lib.hid ((HF.out.step0 f11).step0 f12)
        have HLB2 := Lib.hid (own_new0 (own_new0 HLB.out f11) f12)
        clear hr' hrl hrs f11 F11 hDr f12 HF RW rP
        generalize w11.alloc (codR.o r') = w12 at d5 HRS F12 HLB2 ⊢
        go_wp2_with fail
        go_loopg [129] L.length (fun gk jv wr => ∃ j : Nat, jv = .int .i64 (j : Int) ∧ gk = L.length - j ∧ j ≤ L.length ∧ Fr noB w12 wr)
        case atStart => exact ⟨0, rfl, rfl, by omega, Fr.refl _ _⟩
        case round =>
          obtain ⟨j, rfl, rfl, hj, fj⟩ := hrel
          by_cases hjl : j < L.length
          · have jj0 : (0 : Int) ≤ (j : Int) := by omega
            have jj1 : (j : Int) < (L.length : Int) := by omega
            have hsl := (Sl.own (own_new0 HLB2.out fj) : Sl wr B (cod64.row L))
            obtain ⟨gB, offB, rfl, hgB⟩ := hsl.adC (by omega)
            have e3 : wr.cell? ⟨gB, offB + j, none⟩ = some (.int .i64 L[j]) := hsl.cell1 rfl j hjl rfl
            have hsr := HRS.out.fr0 fj
            obtain ⟨gH, offH, rfl, hgH⟩ := hsr.adC (by rw [List.length_map]; omega)
            have e4 : codH.rd wr gH (offH + j * 34) = some ⟨⟨L[j], 1⟩, id2 L[j].toNat 0⟩ := by
              have := hsr.rd j (by rw [List.length_map]; exact hjl)
              rw [List.getElem_map] at this
              exact this
            have hxm := HLM.out.1 _ (List.getElem_mem hjl)
            have m5 := cell_fr0 d5 fj
            generalize L[j] = x at e3 e4 hxm
            have wu : IntKind.u8.wrap x = x := by rw [IntKind.wrap_u8]; omega
            have a0 : (0 : Int) ≤ x := by omega
            have a1 : x < 256 := by omega
            have HJL := Lib.hid hjl
            clear hj hjl hsl hgB hsr hgH hxm
            go_wp2_with fail
            go_roundg (L.length - (j + 1))
            case measure => have := HJL.out; omega
            case rel => exact ⟨j + 1, by simp, rfl, HJL.out, fj⟩
          · have jj1 : ¬ (j : Int) < (L.length : Int) := by omega
            have FF := Lib.hid (F12.out.step0 fj)
            clear hj hjl fj
            go_wp2_with fail
            go_ret
            exact ⟨by simp, FF.out⟩
    · have i1 : ¬ (i : Int) < (rs.length : Int) := by omega
      obtain ⟨L, hL⟩ : ∃ l, l = leftL g i := ⟨_, rfl⟩
      have HLB := Lib.hid (show OwnC cod64 W w9 B cB L by rw [hL]; exact hoB)
      have HLM := Lib.hid (show (∀ x ∈ L, 2 ≤ x ∧ x < (i : Int) + 2) ∧ L.length ≤ 20 from ⟨fun x hx => left_mem (g := g) (i := i) (by rw [← hL]; exact hx), by rw [hL]; have := left_len (g := g) i; omega⟩)
      have RW := Lib.hid (gvRowH_any hG (by rw [opsH_len]; omega))
      rw [← hL] at RW ⊢
      have rP := Cod.bxd_rd hbx
      have HF := Lib.hid hF
      have hi20' : i ≤ 20 := hi20
      have HL20 := HLM.out.2
      clear hL hoB hG hF hbx hi hlt hi20
      go_upto_region 38 with (go_at_call 18; refine (RW.out).mono ?_; rintro e w11 ⟨r', rfl, hr', f11⟩)
      have F11 := Lib.hid f11
      have f12 : Fr noB w11 (w11.alloc (codR.o r')) := (Fr.refl noB w11).alloc _
      have d5 := (rwAt (Cod.rd_new' (C := codR) w11 r')).heads
      have hrl : L.length = r'.n := by have := hr'.len; rw [← this]; show _ = (L.map hdH).length; rw [List.length_map]
      have hrs : Sl w11 r'.A (codH.row (L.map hdH)) := hr'.sl
      rw [← hrl] at d5
      generalize r'.A = rA' at d5 hrs
      generalize r'.c = rc' at d5
      obtain ⟨Dr, hDr⟩ : ∃ x, x = w11.heap.size := ⟨_, rfl⟩
      rw [← hDr] at d5 ⊢
      have HRS := Lib.hid (hrs.fr0 f12)
      have F12 := Lib.hid ((HF.out.step0 f11).step0 f12)
      have HLB2 := Lib.hid (own_new0 (own_new0 HLB.out f11) f12)
      clear hr' hrl hrs f11 F11 hDr f12 HF RW rP
      generalize w11.alloc (codR.o r') = w12 at d5 HRS F12 HLB2 ⊢
      go_wp2_with fail
      go_loopg [129] L.length (fun gk jv wr => ∃ j : Nat, jv = .int .i64 (j : Int) ∧ gk = L.length - j ∧ j ≤ L.length ∧ Fr noB w12 wr)
      case atStart => exact ⟨0, rfl, rfl, by omega, Fr.refl _ _⟩
      case round =>
        obtain ⟨j, rfl, rfl, hj, fj⟩ := hrel
        by_cases hjl : j < L.length
        · have jj0 : (0 : Int) ≤ (j : Int) := by omega
          have jj1 : (j : Int) < (L.length : Int) := by omega
          have hsl := (Sl.own (own_new0 HLB2.out fj) : Sl wr B (cod64.row L))
          obtain ⟨gB, offB, rfl, hgB⟩ := hsl.adC (by omega)
          have e3 : wr.cell? ⟨gB, offB + j, none⟩ = some (.int .i64 L[j]) := hsl.cell1 rfl j hjl rfl
          have hsr := HRS.out.fr0 fj
          obtain ⟨gH, offH, rfl, hgH⟩ := hsr.adC (by rw [List.length_map]; omega)
          have e4 : codH.rd wr gH (offH + j * 34) = some ⟨⟨L[j], 1⟩, id2 L[j].toNat 0⟩ := by
            have := hsr.rd j (by rw [List.length_map]; exact hjl)
            rw [List.getElem_map] at this
            exact this
          have hxm := HLM.out.1 _ (List.getElem_mem hjl)
          have m5 := cell_fr0 d5 fj
          generalize L[j] = x at e3 e4 hxm
          have wu : IntKind.u8.wrap x = x := by rw [IntKind.wrap_u8]; omega
          have a0 : (0 : Int) ≤ x := by omega
          have a1 : x < 256 := by omega
          have HJL := Lib.hid hjl
          clear hj hjl hsl hgB hsr hgH hxm
          go_wp2_with fail
          go_roundg (L.length - (j + 1))
          case measure => have := HJL.out; omega
          case rel => exact ⟨j + 1, by simp, rfl, HJL.out, fj⟩
        · have jj1 : ¬ (j : Int) < (L.length : Int) := by omega
          have FF := Lib.hid (F12.out.step0 fj)
          clear hj hjl fj
          go_wp2_with fail
          go_ret
          exact ⟨by simp, FF.out⟩
end Go.Proofs.YtdandpaeeodolaaGreat
