/- Walks: the stable sort of a row of structs: swapRange, rotate, insertionSort, symMerge, stable. (ex_ldR_at) -/
import Derived.Test.YtefcalkbfaefgaaRowCK
import Derived.Test.YtefcalkbfaefgaaStabCK
import Derived.Test.YtefcalkbfaefgaaStabQK
import Derived.Test.YtefcalkbfaefgaaQFrK
import Derived.Test.YtefcalkbfaefgaaRegMK
import Derived.Sort.WalkA
import Derived.Deep.LoopGhost
import Derived.Shelf.RegionOpenPlain
namespace Go.Proofs.Ytefcalkbfaefgaa
open Go.RowKit Go.Sort
set_option linter.unusedVariables false
set_option linter.unusedSimpArgs false
instance : Inhabited RwW := ⟨zRwW⟩
theorem Fr.sameR {w w' : World} (f : Fr noB w w') : ∀ b o, b < w.heap.size → codR.rd w' b o = codR.rd w b o := fun b o h => Cod.rd_keep (f.block b h (by simp [noB]))
set_option maxRecDepth 100000 in
set_option maxHeartbeats 2000000 in
theorem swrRow_any (p : RwW → Prop) (w0 : World) (g c N : Nat) (d : Array RwW) (a b n : Nat) (w : World) (hN : d.size = N) (S : SWF codR p w0 g d w) (h1 : a + n ≤ b) (h2 : b + n ≤ N) (hb : N ≤ 140737488355328) (fv : Value) :
    Calls Try.prog 89 #[.slice (some ⟨g, 0, none⟩) N c, .int .i64 a, .int .i64 b, .int .i64 n, fv] w fun e w' => e = .returned (.tuple #[]) ∧ ∃ d', SWF codR p w0 g d' w' ∧ SwIn a b n d d' := by
  have HS := Lib.hid S
  have HN := Lib.hid hN
  clear S hN
  go_enter Try.func89, Try.ntmps89
  go_wp2_with fail
  go_loopg [10] n (fun gk iv wr => SwpR codR p w0 g d a b n gk iv wr)
  case atStart => exact ⟨0, d, rfl, by omega, by omega, HS.out, SwIn.zero a b d⟩
  case round =>
    obtain ⟨k, dk, rfl, rfl, hk, S1, I1⟩ := hrel
    have hdk : dk.size = N := I1.size.trans HN.out
    have HS1 := Lib.hid S1
    have HI1 := Lib.hid I1
    clear S1 I1
    by_cases hlt : k < n
    · have i1 : (k : Int) < (n : Int) := by omega
      obtain ⟨iX, hIX⟩ : ∃ i : Nat, i = a + k := ⟨_, rfl⟩
      obtain ⟨jX, hJX⟩ : ∃ j : Nat, j = b + k := ⟨_, rfl⟩
      have hiX : iX < dk.size := by omega
      have hjX : jX < dk.size := by omega
      have wi : IntKind.i64.wrap ((a : Int) + (k : Int)) = (iX : Int) := by rw [IntKind.wrap_i64]; omega
      have wj : IntKind.i64.wrap ((b : Int) + (k : Int)) = (jX : Int) := by rw [IntKind.wrap_i64]; omega
      have ci : (iX : Int) < (N : Int) := by omega
      have cj : (jX : Int) < (N : Int) := by omega
      have i0 : (0 : Int) ≤ (iX : Int) := by omega
      have j0 : (0 : Int) ≤ (jX : Int) := by omega
      have HX := Lib.hid (And.intro hIX hJX)
      clear hIX hJX
      have SI := HS1.out.step ((Fr.refl noB wr).drew)
      obtain ⟨s1, s2, S2⟩ := SI.swp okR (i := iX) (j := jX) hiX hjX
      have r1 := SI.rd iX hiX
      have r2 := SI.rd jX hjX
      generalize dk[iX]! = xi at r1 s2 S2
      generalize dk[jX]! = xj at r2 s1 s2 S2
      generalize hW1 : wr.drew.setCells g (iX * codR.n) (codR.cs xj) = W1 at s1 s2 S2
      generalize hW2 : W1.setCells g (jX * codR.n) (codR.cs xi) = W2 at s2 S2
      clear hW1 hW2
      replace s1 : codR.stR wr.drew (.pointer (some ⟨g, iX * 8, none⟩)) (.agg (codR.A xj)) = .ok .skip W1 := s1
      replace s2 : codR.stR W1 (.pointer (some ⟨g, jX * 8, none⟩)) (.agg (codR.A xi)) = .ok .skip W2 := s2
      replace r1 : codR.rd wr.drew g (iX * 8) = some xi := r1
      replace r2 : codR.rd wr.drew g (jX * 8) = some xj := r2
      have HS2 := Lib.hid S2
      clear S2 SI
      have HD := Lib.hid (And.intro hdk (And.intro hiX hjX))
      clear hdk hiX hjX
      go_wp2_with fail
      have mixed : Try.prog.follows .mixedOrders = true := by kernel_rfl
      go_big_region_o
      go_wp2_with fail
      go_roundg (n - (k + 1))
      case measure => omega
      case rel =>
        obtain ⟨rfl, rfl⟩ := HX.out
        have h0 := HN.out
        exact ⟨k + 1, _, by simp, rfl, by omega, HS2.out, HI1.out.step (by omega) (by omega)⟩
    · have hkn : k = n := by omega
      subst hkn
      have i1 : ¬ (k : Int) < (k : Int) := by omega
      go_wp2_with fail
      go_end0
      exact ⟨rfl, dk, HS1.out, HI1.out⟩
set_option maxRecDepth 100000 in
set_option maxHeartbeats 2000000 in
theorem rotRow_any (p : RwW → Prop) (w0 : World) (g c N : Nat) (d : Array RwW) (a m b : Nat) (w : World) (hN : d.size = N) (S : SWF codR p w0 g d w) (h1 : a < m) (h2 : m < b) (h3 : b ≤ N) (hb : N ≤ 140737488355328) (fv : Value) :
    Calls Try.prog 83 #[.slice (some ⟨g, 0, none⟩) N c, .int .i64 a, .int .i64 m, .int .i64 b, fv] w fun e w' => e = .returned (.tuple #[]) ∧ ∃ d', SWF codR p w0 g d' w' ∧ RotIn a m b d d' := by
  obtain ⟨T, hT⟩ := RotIn.exists (d := d) (a := a) (m := m) (b := b) (by omega) (by omega) (by omega)
  have HT := Lib.hid hT
  have HS := Lib.hid S
  have HN := Lib.hid hN
  obtain ⟨ia, hia⟩ : ∃ i : Nat, i + a = m := ⟨m - a, by omega⟩
  obtain ⟨jb, hjb⟩ : ∃ j : Nat, j + m = b := ⟨b - m, by omega⟩
  have wi : IntKind.i64.wrap ((m : Int) - (a : Int)) = (ia : Int) := by rw [IntKind.wrap_i64]; omega
  have wj : IntKind.i64.wrap ((b : Int) - (m : Int)) = (jb : Int) := by rw [IntKind.wrap_i64]; omega
  have HX := Lib.hid (And.intro hia hjb)
  clear S hN hT hia hjb
  go_enter Try.func83, Try.ntmps83
  go_wp2_with fail
  clear wi wj
  go_loopg [10, 11] (ia + jb) (fun gk iv jv wr => RotR codR p w0 g T m N gk iv jv wr)
  case atStart =>
    obtain ⟨e1, e2⟩ := HX.out
    refine ⟨ia, jb, d, rfl, rfl, rfl, by omega, by omega, by omega, by omega, HN.out, HS.out, ?_⟩
    rw [show m - ia = a by omega, show m + jb = b by omega]
    exact HT.out
  case round =>
    obtain ⟨i, j, dk, rfl, rfl, rfl, hi, hj, him, hjN, hdk, S1, R1⟩ := hrel
    have HS1 := Lib.hid S1
    have HR1 := Lib.hid R1
    obtain ⟨q, hq⟩ : ∃ q : Nat, q + i = m := ⟨m - i, by omega⟩
    have wq : IntKind.i64.wrap ((m : Int) - (i : Int)) = (q : Int) := by rw [IntKind.wrap_i64]; omega
    clear S1 R1
    by_cases hij : i = j
    · subst hij
      have HQ := Lib.hid (And.intro hq (And.intro him hjN))
      have HD := Lib.hid hdk
      clear hq hdk him hjN
      go_wp2_with (go_at_call 89; refine (swrRow_any p w0 g c N dk q m i wr HD.out HS1.out (by have := HQ.out.1; omega) HQ.out.2.2 hb _).mono ?_; rintro e w9 ⟨rfl, d9, S9, I9⟩)
      go_end0
      obtain ⟨hq, him, hjN⟩ := HQ.out
      have R1 := HR1.out
      obtain rfl : q = m - i := by omega
      have hl := R1.last I9 him
      have : d9 = T := ext_all (by rw [I9.size, R1.size]) hl
      subst this
      exact ⟨rfl, d9, S9, HT.out⟩
    · by_cases hgt : j < i
      · have i1 : ¬ (i : Int) = (j : Int) := by omega
        have i2 : (j : Int) < (i : Int) := by omega
        obtain ⟨i', hi'⟩ : ∃ x : Nat, x + j = i := ⟨i - j, by omega⟩
        have wi' : IntKind.i64.wrap ((i : Int) - (j : Int)) = (i' : Int) := by rw [IntKind.wrap_i64]; omega
        have HQ := Lib.hid (And.intro hq (And.intro hi' (And.intro him hjN)))
        have HD := Lib.hid hdk
        clear hq hi' hdk him hjN
        go_wp2_with (go_at_call 89; refine (swrRow_any p w0 g c N dk q m j wr HD.out HS1.out (by have := HQ.out.1; omega) HQ.out.2.2.2 hb _).mono ?_; rintro e w9 ⟨rfl, d9, S9, I9⟩)
        go_roundg (i' + j)
        case measure => have := HQ.out.2.1; omega
        case rel =>
          obtain ⟨hq, hi', him, hjN⟩ := HQ.out
          have R1 := HR1.out
          obtain rfl : q = m - i := by omega
          refine ⟨i', j, d9, rfl, rfl, rfl, by omega, hj, by omega, hjN, by rw [I9.size]; exact HD.out, S9, ?_⟩
          rw [show m - i' = m - i + j by omega]
          exact R1.big I9 hgt him
      · have i1 : ¬ (i : Int) = (j : Int) := by omega
        have i2 : ¬ (j : Int) < (i : Int) := by omega
        obtain ⟨u, hu⟩ : ∃ x : Nat, x = m + j := ⟨_, rfl⟩
        have wu : IntKind.i64.wrap ((m : Int) + (j : Int)) = (u : Int) := by rw [IntKind.wrap_i64]; omega
        obtain ⟨v, hv⟩ : ∃ x : Nat, x + i = u := ⟨u - i, by omega⟩
        have wv : IntKind.i64.wrap ((u : Int) - (i : Int)) = (v : Int) := by rw [IntKind.wrap_i64]; omega
        obtain ⟨j', hj'⟩ : ∃ x : Nat, x + i = j := ⟨j - i, by omega⟩
        have wj' : IntKind.i64.wrap ((j : Int) - (i : Int)) = (j' : Int) := by rw [IntKind.wrap_i64]; omega
        have HQ := Lib.hid (And.intro hq (And.intro hu (And.intro hv (And.intro hj' (And.intro him hjN)))))
        have HD := Lib.hid hdk
        clear hq hu hv hj' hdk him hjN
        go_wp2_with (go_at_call 89; refine (swrRow_any p w0 g c N dk q v i wr HD.out HS1.out (by obtain ⟨z1, z2, z3, z4, z5, z6⟩ := HQ.out; omega) (by obtain ⟨z1, z2, z3, z4, z5, z6⟩ := HQ.out; omega) hb _).mono ?_; rintro e w9 ⟨rfl, d9, S9, I9⟩)
        go_roundg (i + j')
        case measure => have := HQ.out.2.2.2.1; omega
        case rel =>
          obtain ⟨hq, hu, hv, hj', him, hjN⟩ := HQ.out
          have R1 := HR1.out
          obtain rfl : q = m - i := by omega
          obtain rfl : v = m + j - i := by omega
          refine ⟨i, j', d9, rfl, rfl, rfl, hi, by omega, him, by omega, by rw [I9.size]; exact HD.out, S9, ?_⟩
          rw [show m + j' = m + j - i by omega]
          exact R1.small I9 (by omega) him
/-- what is asked of 'cmp': in every world that the sort passes through it answers cf -/
def CmpFRow (p : RwW → Prop) (w0 : World) (g : Nat) (cv : Value) (cf : RwW → RwW → Int) (N : Nat) : Prop :=
  ∀ (W : World) (d : Array RwW), d.size = N → SWF codR p w0 g d W → ∀ x y : RwW, p x → p y → Calls Try.prog 50 #[.agg (codR.A x), .agg (codR.A y), cv] W (Gives W (.int .i64 (cf x y)))
set_option maxRecDepth 100000 in
set_option maxHeartbeats 4000000 in
theorem insRow_any (p : RwW → Prop) (cf : RwW → RwW → Int) (hL : SWO (ltC cf)) (w0 : World) (g c N : Nat) (cv : Value) (hC : CmpFRow p w0 g cv cf N) (d : Array RwW) (a b : Nat) (w : World) (hN : d.size = N) (S : SWF codR p w0 g d w) (h1 : a ≤ b) (h2 : b ≤ N) (hb : N ≤ 140737488355328) :
    Calls Try.prog 73 #[.slice (some ⟨g, 0, none⟩) N c, .int .i64 a, .int .i64 b, .func (.func 50) #[] #[cv]] w fun e w' => e = .returned (.tuple #[]) ∧ ∃ d', SWF codR p w0 g d' w' ∧ PermIn a b d d' ∧ SortedIn (ltC cf) a b d' := by
  have HS := Lib.hid S
  have HN := Lib.hid hN
  have HC := Lib.hid hC
  have HL := Lib.hid (insertionSort_holds (lt := ltC cf) hL d a b h1 (by omega))
  obtain ⟨a1, ha1⟩ : ∃ x : Nat, x = a + 1 := ⟨_, rfl⟩
  have wa : IntKind.i64.wrap ((a : Int) + 1) = (a1 : Int) := by rw [IntKind.wrap_i64]; omega
  have HA := Lib.hid ha1
  clear S hN hC hL ha1
  go_enter Try.func73, Try.ntmps73
  go_wp2_with fail
  clear wa
  go_loopg [8] (b - a) (fun gk iv wr => InsR codR p w0 g (ltC cf) d a b N gk iv wr)
  case atStart =>
    have := HA.out
    subst this
    exact ⟨a + 1, d, rfl, by omega, by omega, by omega, HN.out, HS.out, rfl⟩
  case round =>
    obtain ⟨i, di, rfl, rfl, hai, hib, hdi, S1, E1⟩ := hrel
    have HS1 := Lib.hid S1
    have HE1 := Lib.hid E1
    have HD := Lib.hid hdi
    clear S1 E1 hdi
    by_cases hlt : i < b
    · have i1 : (i : Int) < (b : Int) := by omega
      go_wp2_with fail
      go_loopg [9] i (fun gk jv wr => InnR codR p w0 g (ltC cf) di a i N gk jv wr)
      case atStart => exact ⟨i, di, rfl, rfl, by omega, by omega, HD.out, HS1.out, rfl⟩
      case round =>
        rename_i w4
        obtain ⟨j, dk, rfl, rfl, haj, hji, hdk, S3, E3⟩ := hrel
        have HS3 := Lib.hid S3
        have HE3 := Lib.hid E3
        clear S3 E3
        have out : (j ≤ a ∨ ltC cf dk[j]! dk[j - 1]! = false) → insOuter (ltC cf) a b (i + 1) dk = insOuter (ltC cf) a b (a + 1) d := fun hs => by
          rw [← HE1.out, insOuter_go _ _ _ _ _ hlt, ← HE3.out, insInner_stop _ _ _ _ hs]
        have OUT := Lib.hid out
        clear out
        by_cases hja : a < j
        · have i2 : (a : Int) < (j : Int) := by omega
          obtain ⟨jX, hjp⟩ : ∃ x : Nat, x + 1 = j := ⟨j - 1, by omega⟩
          have wj : IntKind.i64.wrap ((j : Int) - 1) = (jX : Int) := by rw [IntKind.wrap_i64]; omega
          have hiX : j < dk.size := by omega
          have hjX : jX < dk.size := by omega
          have ci : (j : Int) < (N : Int) := by omega
          have cj : (jX : Int) < (N : Int) := by omega
          have i0 : (0 : Int) ≤ (j : Int) := by omega
          have j0 : (0 : Int) ≤ (jX : Int) := by omega
          have hg := HS3.out.lt
          have px := HS3.out.ok j hiX
          have py := HS3.out.ok jX hjX
          have e1 : codR.rd wr g (j * 8) = some dk[j]! := HS3.out.rd j hiX
          have e2 : codR.rd wr g (jX * 8) = some dk[jX]! := HS3.out.rd jX hjX
          have D1 : ∀ w', Fr noB wr w' → Calls Try.prog 50 #[.agg (codR.A dk[j]!), .agg (codR.A dk[jX]!), cv] w' (Gives w' (.int .i64 (cf dk[j]! dk[jX]!))) := fun w' f => HC.out w' dk hdk (HS3.out.step f) _ _ px py
          obtain ⟨z, hz⟩ : ∃ z, cf dk[j]! dk[jX]! = z := ⟨_, rfl⟩
          rw [hz] at D1
          have HZ := Lib.hid hz
          have HJ := Lib.hid (And.intro hjp (And.intro hdk (And.intro hiX hjX)))
          obtain ⟨xa, hxa⟩ : ∃ x, dk[j]! = x := ⟨_, rfl⟩
          obtain ⟨xb, hxb⟩ : ∃ x, dk[jX]! = x := ⟨_, rfl⟩
          rw [hxa] at e1 D1
          rw [hxb] at e2 D1
          clear hz hjp hdk hiX hjX px py hxa hxb
          by_cases hneg : z < 0
          · go_wp2_with fail
            refine wp_region_fr (by kernel_rfl) (by kernel_rfl) ?_
            iterate 14
              refine wpQ_take (v := ?_) (by rfl) (fun wS hS => ?_) ?_
              rotate_left
              · obtain ⟨L1, L2, L3, L4, L5, L6⟩ := Fr.same hS; have L7 := Fr.sameR hS; go_simp; try with_reducible rfl
              try simp only [List.getElem_toArray, List.getElem_cons_zero, List.getElem_cons_succ, Act.put, List.setIfInBounds_toArray, List.set_cons_zero, List.set_cons_succ]
            refine wpQ_call (by rfl) (fun wS hS => ⟨_, _, ?qh240, Calls.fr hS (D1 _ hS)⟩) ?qk240
            case qh240 => obtain ⟨L1, L2, L3, L4, L5, L6⟩ := Fr.same hS; go_simp; try with_reducible rfl
            try simp only [List.getElem_toArray, List.getElem_cons_zero, List.getElem_cons_succ, Act.put, List.setIfInBounds_toArray, List.set_cons_zero, List.set_cons_succ]
            iterate 2
              refine wpQ_take (v := ?_) (by rfl) (fun wS hS => ?_) ?_
              rotate_left
              · obtain ⟨L1, L2, L3, L4, L5, L6⟩ := Fr.same hS; have L7 := Fr.sameR hS; go_simp; try with_reducible rfl
              try simp only [List.getElem_toArray, List.getElem_cons_zero, List.getElem_cons_succ, Act.put, List.setIfInBounds_toArray, List.set_cons_zero, List.set_cons_succ]
            refine wpQ_nil ?_
            intro w1 f1
            clear D1 e1 e2
            obtain ⟨hjp, hdk, hiX, hjX⟩ := HJ.out
            have SI := (HS3.out.step f1).step ((Fr.refl noB w1).drew)
            obtain ⟨iX, hIX⟩ : ∃ x : Nat, x = j := ⟨_, rfl⟩
            rw [← hIX] at hiX
            obtain ⟨s1, s2, S2⟩ := SI.swp okR (i := iX) (j := jX) hiX hjX
            have r1 := SI.rd iX hiX
            have r2 := SI.rd jX hjX
            generalize dk[iX]! = xi at r1 s2 S2
            generalize dk[jX]! = xj at r2 s1 s2 S2
            generalize hW1 : w1.drew.setCells g (iX * codR.n) (codR.cs xj) = W1 at s1 s2 S2
            generalize hW2 : W1.setCells g (jX * codR.n) (codR.cs xi) = W2 at s2 S2
            clear hW1 hW2
            replace s1 : codR.stR w1.drew (.pointer (some ⟨g, iX * 8, none⟩)) (.agg (codR.A xj)) = .ok .skip W1 := s1
            replace s2 : codR.stR W1 (.pointer (some ⟨g, jX * 8, none⟩)) (.agg (codR.A xi)) = .ok .skip W2 := s2
            replace r1 : codR.rd w1.drew g (iX * 8) = some xi := r1
            replace r2 : codR.rd w1.drew g (jX * 8) = some xj := r2
            have HS2 := Lib.hid S2
            clear S2 SI
            subst hIX
            clear hjp hdk hiX hjX hg
            go_wp2_with fail
            have mixed : Try.prog.follows .mixedOrders = true := by kernel_rfl
            go_big_region_o
            go_wp2_with fail
            go_roundg jX
            case measure => have := HJ.out.1; omega
            case rel =>
              obtain ⟨hjp, hdk, hiX, hjX⟩ := HJ.out
              refine ⟨jX, _, rfl, rfl, by omega, by omega, by rw [swp_size]; exact hdk, HS2.out, ?_⟩
              have hlt' : ltC cf dk[iX]! dk[iX - 1]! = true := by
                rw [show iX - 1 = jX by omega]
                show decide _ = true
                rw [HZ.out]
                exact decide_eq_true hneg
              have := insInner_go (ltC cf) a iX dk hja hlt'
              rw [show iX - 1 = jX by omega] at this
              rw [← this, HE3.out]
          · go_wp2_with fail
            refine wp_region_fr (by kernel_rfl) (by kernel_rfl) ?_
            iterate 14
              refine wpQ_take (v := ?_) (by rfl) (fun wS hS => ?_) ?_
              rotate_left
              · obtain ⟨L1, L2, L3, L4, L5, L6⟩ := Fr.same hS; have L7 := Fr.sameR hS; go_simp; try with_reducible rfl
              try simp only [List.getElem_toArray, List.getElem_cons_zero, List.getElem_cons_succ, Act.put, List.setIfInBounds_toArray, List.set_cons_zero, List.set_cons_succ]
            refine wpQ_call (by rfl) (fun wS hS => ⟨_, _, ?qh295, Calls.fr hS (D1 _ hS)⟩) ?qk295
            case qh295 => obtain ⟨L1, L2, L3, L4, L5, L6⟩ := Fr.same hS; go_simp; try with_reducible rfl
            try simp only [List.getElem_toArray, List.getElem_cons_zero, List.getElem_cons_succ, Act.put, List.setIfInBounds_toArray, List.set_cons_zero, List.set_cons_succ]
            iterate 2
              refine wpQ_take (v := ?_) (by rfl) (fun wS hS => ?_) ?_
              rotate_left
              · obtain ⟨L1, L2, L3, L4, L5, L6⟩ := Fr.same hS; have L7 := Fr.sameR hS; go_simp; try with_reducible rfl
              try simp only [List.getElem_toArray, List.getElem_cons_zero, List.getElem_cons_succ, Act.put, List.setIfInBounds_toArray, List.set_cons_zero, List.set_cons_succ]
            refine wpQ_nil ?_
            intro w1 f1
            clear D1 e1 e2
            go_wp2_with fail
            go_roundg (b + 1 - (i + 1))
            case measure => omega
            case rel =>
              obtain ⟨hjp, hdk, hiX, hjX⟩ := HJ.out
              exact ⟨i + 1, dk, by simp, rfl, by omega, by omega, hdk, HS3.out.step f1, OUT.out (.inr (by
                rw [show j - 1 = jX by omega]
                show decide _ = false
                rw [HZ.out]
                exact decide_eq_false (by omega)))⟩
        · have i2 : ¬ (a : Int) < (j : Int) := by omega
          have HDK := Lib.hid hdk
          clear hdk
          go_wp2_with fail
          refine wp_region_fr (by kernel_rfl) (by kernel_rfl) ?_
          iterate 4
            refine wpQ_take (v := ?_) (by rfl) (fun wS hS => ?_) ?_
            rotate_left
            · obtain ⟨L1, L2, L3, L4, L5, L6⟩ := Fr.same hS; have L7 := Fr.sameR hS; go_simp; try with_reducible rfl
            try simp only [List.getElem_toArray, List.getElem_cons_zero, List.getElem_cons_succ, Act.put, List.setIfInBounds_toArray, List.set_cons_zero, List.set_cons_succ]
          iterate 12
            refine wpQ_off (by rfl) ?_
            try simp only [List.getElem_toArray, List.getElem_cons_zero, List.getElem_cons_succ, Act.put, List.setIfInBounds_toArray, List.set_cons_zero, List.set_cons_succ]
          refine wpQ_take (v := ?_) (by rfl) (fun wS hS => ?_) ?_
          rotate_left
          · obtain ⟨L1, L2, L3, L4, L5, L6⟩ := Fr.same hS; have L7 := Fr.sameR hS; go_simp; try with_reducible rfl
          try simp only [List.getElem_toArray, List.getElem_cons_zero, List.getElem_cons_succ, Act.put, List.setIfInBounds_toArray, List.set_cons_zero, List.set_cons_succ]
          refine wpQ_nil ?_
          intro w1 f1
          go_wp2_with fail
          go_roundg (b + 1 - (i + 1))
          case measure => omega
          case rel => exact ⟨i + 1, dk, by simp, rfl, by omega, by omega, HDK.out, HS3.out.step f1, OUT.out (.inl (by omega))⟩
    · have i1 : ¬ (i : Int) < (b : Int) := by omega
      go_wp2_with fail
      go_end0
      have := HE1.out
      rw [insOuter_stop _ _ _ _ _ hlt] at this
      subst this
      exact ⟨rfl, _, HS1.out, HL.out⟩
end Go.Proofs.Ytefcalkbfaefgaa
