/- Contract: the reference's Add. (ex_ld_arr, ex_bldA0_at: met by these rules.) -/
import Derived.Test.YtchiclnnoealdaaRefF
import Derived.Test.YtchiclnnoealdaaBoxA
namespace Go.Proofs.Ytchiclnnoealdaa
open Go.RowKit Go.Maps Go.Sort Go.Shelf
set_option linter.unusedVariables false
set_option linter.unusedSimpArgs false

abbrev OwnN (base : Nat) (w : World) (A : Option Addr) (c : Nat) (nv : List (ID × Value)) : Prop := w.ownsRow base 39 33 (.slice A nv.length c) nv.length (lnR nv)
theorem lnR_app (a b : List (ID × Value)) : lnR (a ++ b) = lnR a ++ lnR b := by simp [lnR]
theorem lnR_one1 (p : ID × Value) (h : isSl p.2 = true) : ∀ u ∈ lnR [p], u.oneCell' = true := by
  intro u hu
  simp only [lnR, List.flatMap_cons, List.flatMap_nil, List.append_nil] at hu
  exact lnC_one p (isSl_one h) u hu
theorem own_ln {w : World} {base : Nat} {n : Nat} {v : Value} {l : List (ID × Value)} (h : w.ownsRow base 39 33 v n (lnR l)) : w.ownsRow base 39 33 v l.length (lnR l) := by
  have hn : n = l.length := by have := h.1; rw [lnR_len] at this; omega
  subst hn; exact h
/-- one more node -/
theorem wpList_appN (w0 w : World) {ops : Array Oper} {rest : List Oper} {o : Oper} {a : Act} {Q : Exit → Act → World → Prop} (hgd : o.guard = none) (s x : Operand)
    (ho : o.op = .call { callee := .builtin .append, args := #[s, x], argTypes := #[28, 28] })
    (As : Option Addr) (ns cs : Nat) (lo : List (ID × Value)) (hs : a.eval s = .slice As ns cs) (hns : lo.length = ns) (hown : OwnN w0.heap.size w As cs lo)
    (A : Option Addr) (c : Nat) (y : ID × Value) (hy : isSl y.2 = true) (hx : a.eval x = .slice A 1 c) (hr : Sl w A (lnR [y])) (hb : lo.length ≤ 100000000) (f : Fr noB w0 w)
    (h : ∀ A' c' w', OwnN w0.heap.size w' A' c' (lo ++ [y]) → Fr noB w0 w' → wpList Try.prog ops Q rest (a.put o.dst (.slice A' (lo ++ [y]).length c')) w') :
    wpList Try.prog ops Q (o :: rest) a w := by
  subst hns
  refine wpList_app w etRN hgd s x ho w0.heap.size _ lo.length (lnR lo) hs hown A 1 c (lnR [y]) hx hr (by rw [lnR_len]; rfl) (lnR_one1 y hy) (by omega) f.size ?_
  intro v' w' h1 h2 h3
  rw [← lnR_app] at h1
  have h1' := own_ln h1
  obtain ⟨A', c', rfl, hc1, hc2⟩ := own_form h1'
  rw [ownBlock_sl] at h2
  refine h A' c' w' h1' (f.step (M' := fun b => As.map (·.block) = some b) (Fr.ofGrown h2 (fun g hg => hg)) (fun b hb => .inl ?_))
  cases As with
  | none => cases hb
  | some a => simp only [Option.map_some, Option.some.injEq] at hb; rw [← hb]; exact (hown.lt _ (by simp [Value.ownBlock])).1
def RaL (w2 : World) (q ps : List ID) (gk : Nat) (kv : Value) (wr : World) : Prop := ∃ k : Nat, kv = .int .i64 (k : Int) ∧ gk = ps.length - k ∧ k ≤ ps.length ∧ q.take k = ps.take k ∧ Fr noB w2 wr
def RaP (w2 : World) (G : Dg) (ps : List ID) (gk : Nat) (kv : Value) (wr : World) : Prop := ∃ k : Nat, kv = .int .i64 (k : Int) ∧ gk = ps.length - k ∧ k ≤ ps.length ∧ (∀ p ∈ ps.take k, hasG G p = true) ∧ Fr noB w2 wr
def RaC (w3 : World) (nv : List (ID × Value)) (gk : Nat) (ov kv : Value) (wr : World) : Prop := ∃ (k : Nat) (A : Option Addr) (c : Nat), kv = .int .i64 (k : Int) ∧ gk = nv.length - k ∧ k ≤ nv.length ∧ ov = .slice A (nv.take k).length c ∧ OwnN w3.heap.size wr A c (nv.take k) ∧ Fr noB w3 wr
def RAddTo (w : World) (A : Option Addr) (nv : List (ID × Value)) (m : Md) (x : ID) (v : Value) (ps : List ID) (e : Ending) (w' : World) : Prop := ∃ A' c' nv' m', e = .returned (.tuple #[.slice A' m'.length c', .int .i64 (((addG m.reverse x ps).1 : Nat) : Int)]) ∧ m'.reverse = (addG m.reverse x ps).2 ∧ Fr noB w w' ∧
  ((A' = A ∧ nv' = nv ∧ m' = m) ∨ (nv' = nv ++ [(x, v)] ∧ m' = m ++ [(x, ps)] ∧ OwnN w.heap.size w' A' c' nv'))
theorem rightL_two (x p q : ID) (hx : x ≠ zID) (h : cmpI p q = -1) : rightL x [p, q] = true := by simp [rightL, asc, hx, h]
theorem rightL_two' (x p q : ID) (h : ¬ cmpI p q < 0) : rightL x [p, q] = false := by simp [rightL, asc, h]

set_option maxRecDepth 100000 in
set_option maxHeartbeats 4000000 in
theorem refAdd_any (w : World) (A : Option Addr) (c n : Nat) (nv : List (ID × Value)) (m : Md) (hn : m.length = n) (hsl0 : Sl w A (lnR nv)) (hnd0 : NdV w nv m) (hk : okG m.reverse) (hb : m.length ≤ 1000000) (x : ID) (P : Option Addr) (cP nP : Nat) (ps : List ID) (hnP : ps.length = nP) (hP : Sl w P (idc ps)) (hbP : ps.length ≤ 1000000) :
    Calls Try.prog 11 #[.slice A n c, lnV (x, .slice P nP cP)] w (RAddTo w A nv m x (.slice P nP cP) ps) := by
  subst hn
  have h : RfA w A m := ⟨nv, hsl0, hnd0⟩
  subst hnP
  have HK := Lib.hid hk
  clear hk
  have rn := RdN.newR w (x, .slice P ps.length cP)
  have f0 : Fr noB w (w.alloc (rno (x, .slice P ps.length cP))) := (Fr.refl noB w).alloc _
  have rx := rn.id
  have rs := rn.sl
  simp only [Nat.zero_add] at rx rs
  have hrn0 := rn
  clear rn
  go_enter Try.func11, Try.ntmps11
  go_upto_region 1 with fail
  have hP1 := hP.fr0 f0
  have h1 := h.fr0 f0
  have hsl1 := hsl0.fr0 f0
  have hnd1 := hnd0.fr0 f0
  generalize w.alloc (rno (x, .slice P ps.length cP)) = w1 at rx rs f0 hP1 h1 hrn0 hsl1 hnd1 ⊢
  clear hsl0 hnd0
  generalize w.heap.size = B at rx rs hrn0 ⊢
  have hrn : ∀ w', Fr noB w1 w' → RdN w' B 0 (x, .slice P ps.length cP) := fun w' f => hrn0.fr f (by simp [noB])
  have HRN := Lib.hid hrn
  clear hrn hrn0
  have hbx : ∀ w', Fr noB w1 w' → rdI w' B 0 = some x ∧ w'.cell? ⟨B, 32, none⟩ = some (.slice P ps.length cP) := fun w' f =>
    ⟨rdI_fr rx (rdI_lt rx) f (by simp [noB]), (World.cell?_of_block (a := ⟨B, 32, none⟩) (f.block B (rdI_lt rx) (by simp [noB]))).trans rs⟩
  have HBX := Lib.hid hbx
  clear hbx h hP
  have gm : ∀ w', Fr noB w1 w' → A = A := fun _ _ => rfl
  clear gm
  go_cut [38] from 11 to 38 (fun v wx => v = .bool (!rightL x ps) ∧ Fr noB w1 wx)
  case first =>
    have F0 := HBX.out _ (Fr.refl noB w1).drew
    by_cases hxz : x = zID
    · have e1 : decide (x = zID) = true := by simpa using hxz
      have er : rightL x ps = false := by simp [rightL, hxz]
      have HER := Lib.hid er
      clear er hxz
      go_wp2_with fail
      refine wp_region_M 27 28 [⟨2048, 8, 0⟩, ⟨4096, 2048, 1⟩, ⟨8192, 0, 0⟩, ⟨16384, 12288, 6⟩, ⟨32768, 16384, 8⟩, ⟨65536, 32776, 16⟩, ⟨131072, 98304, 48⟩, ⟨262144, 163840, 80⟩, ⟨524288, 294912, 144⟩, ⟨1048576, 557056, 272⟩, ⟨2097152, 1048576, 528⟩, ⟨4194304, 2097160, 1024⟩, ⟨8388608, 6291456, 3072⟩, ⟨16777216, 10485760, 5120⟩, ⟨33554432, 18874368, 9216⟩, ⟨67108864, 35651584, 17408⟩, ⟨134217728, 67108872, 32768⟩, ⟨268435456, 201326592, 98304⟩, ⟨536870912, 335544320, 163840⟩, ⟨1073741824, 603979776, 294912⟩, ⟨2147483648, 67108872, 32768⟩, ⟨4294967296, 2214592512, 1081344⟩, ⟨8589934592, 4362076160, 2129920⟩, ⟨17179869184, 8657043456, 4227072⟩, ⟨34359738368, 18320719872, 8945664⟩, ⟨68719476736, 34426847232, 16809984⟩, ⟨137438953472, 68788682752, 33588224⟩, ⟨274877906944, 137441050624, 67109888⟩] [(true, 0), (true, 1), (true, 2), (true, 3), (true, 4), (true, 5), (true, 6), (true, 7), (true, 8), (true, 9), (true, 10), (true, 11), (true, 12), (true, 13), (true, 14), (true, 15), (true, 16), (true, 17), (true, 18), (true, 19), (true, 20), (true, 21), (true, 22), (true, 23), (true, 24), (true, 25), (true, 26)] (fun w' => rdI w' B 0 = some x ∧ w'.cell? ⟨B, 32, none⟩ = some (.slice P ps.length cP)) (by kernel_rfl) rfl (by kernel_rfl) (by kernel_rfl) (by kernel_rfl) F0 (fun hA hF => ?_)
      refine wpAnyS_take (v := ?_) hA rfl (fun _ _ _ h => h) (Or.inl ⟨by rfl, ?_⟩) hF (fun hA => ?_)
      rotate_left
      · intro wS hSw; (try dsimp only at hSw); obtain ⟨s1, s2⟩ := hSw; first | (apply Eq.trans; apply ex_ld_id; exact rfl; exact rfl; assumption; with_reducible rfl) | (apply Eq.trans; apply ex_ld_arr; exact rfl; exact rfl; assumption; with_reducible rfl) | (apply Eq.trans; apply ex_bldA0_at; exact rfl; with_reducible rfl) | (go_simp; try with_reducible rfl)
      try simp only [List.getElem_toArray, List.getElem_cons_zero, List.getElem_cons_succ, Act.put, List.setIfInBounds_toArray, List.set_cons_zero, List.set_cons_succ]
      refine wpAnyS_take (v := ?_) hA rfl (fun _ _ _ h => h) (Or.inl ⟨by rfl, ?_⟩) hF (fun hA => ?_)
      rotate_left
      · intro wS hSw; (try dsimp only at hSw); obtain ⟨s1, s2⟩ := hSw; first | (apply Eq.trans; apply ex_ld_id; exact rfl; exact rfl; assumption; with_reducible rfl) | (apply Eq.trans; apply ex_ld_arr; exact rfl; exact rfl; assumption; with_reducible rfl) | (apply Eq.trans; apply ex_bldA0_at; exact rfl; with_reducible rfl) | (go_simp; try with_reducible rfl)
      try simp only [List.getElem_toArray, List.getElem_cons_zero, List.getElem_cons_succ, Act.put, List.setIfInBounds_toArray, List.set_cons_zero, List.set_cons_succ]
      refine wpAnyS_take (v := ?_) hA rfl (fun _ _ _ h => h) (Or.inl ⟨by rfl, ?_⟩) hF (fun hA => ?_)
      rotate_left
      · intro wS hSw; (try dsimp only at hSw); obtain ⟨s1, s2⟩ := hSw; first | (apply Eq.trans; apply ex_ld_id; exact rfl; exact rfl; assumption; with_reducible rfl) | (apply Eq.trans; apply ex_ld_arr; exact rfl; exact rfl; assumption; with_reducible rfl) | (apply Eq.trans; apply ex_bldA0_at; exact rfl; with_reducible rfl) | (go_simp; try with_reducible rfl)
      try simp only [List.getElem_toArray, List.getElem_cons_zero, List.getElem_cons_succ, Act.put, List.setIfInBounds_toArray, List.set_cons_zero, List.set_cons_succ]
      refine wpAnyS_take (v := ?_) hA rfl (fun _ _ _ h => h) (Or.inl ⟨by rfl, ?_⟩) hF (fun hA => ?_)
      rotate_left
      · intro wS hSw; (try dsimp only at hSw); obtain ⟨s1, s2⟩ := hSw; first | (apply Eq.trans; apply ex_ld_id; exact rfl; exact rfl; assumption; with_reducible rfl) | (apply Eq.trans; apply ex_ld_arr; exact rfl; exact rfl; assumption; with_reducible rfl) | (apply Eq.trans; apply ex_bldA0_at; exact rfl; with_reducible rfl) | (go_simp; try with_reducible rfl)
      try simp only [List.getElem_toArray, List.getElem_cons_zero, List.getElem_cons_succ, Act.put, List.setIfInBounds_toArray, List.set_cons_zero, List.set_cons_succ]
      refine wpAnyS_take (v := ?_) hA rfl (fun _ _ _ h => h) (Or.inl ⟨by rfl, ?_⟩) hF (fun hA => ?_)
      rotate_left
      · intro wS hSw; (try dsimp only at hSw); obtain ⟨s1, s2⟩ := hSw; first | (apply Eq.trans; apply ex_ld_id; exact rfl; exact rfl; assumption; with_reducible rfl) | (apply Eq.trans; apply ex_ld_arr; exact rfl; exact rfl; assumption; with_reducible rfl) | (apply Eq.trans; apply ex_bldA0_at; exact rfl; with_reducible rfl) | (go_simp; try with_reducible rfl)
      try simp only [List.getElem_toArray, List.getElem_cons_zero, List.getElem_cons_succ, Act.put, List.setIfInBounds_toArray, List.set_cons_zero, List.set_cons_succ]
      refine wpAnyS_take (v := undef) hA rfl (fun _ _ _ h => h) (Or.inr ⟨by rfl, rfl⟩) hF (fun hA => ?_)
      try simp only [List.getElem_toArray, List.getElem_cons_zero, List.getElem_cons_succ, Act.put, List.setIfInBounds_toArray, List.set_cons_zero, List.set_cons_succ]
      refine wpAnyS_take (v := undef) hA rfl (fun _ _ _ h => h) (Or.inr ⟨by rfl, rfl⟩) hF (fun hA => ?_)
      try simp only [List.getElem_toArray, List.getElem_cons_zero, List.getElem_cons_succ, Act.put, List.setIfInBounds_toArray, List.set_cons_zero, List.set_cons_succ]
      refine wpAnyS_take (v := undef) hA rfl (fun _ _ _ h => h) (Or.inr ⟨by rfl, rfl⟩) hF (fun hA => ?_)
      try simp only [List.getElem_toArray, List.getElem_cons_zero, List.getElem_cons_succ, Act.put, List.setIfInBounds_toArray, List.set_cons_zero, List.set_cons_succ]
      refine wpAnyS_take (v := undef) hA rfl (fun _ _ _ h => h) (Or.inr ⟨by rfl, rfl⟩) hF (fun hA => ?_)
      try simp only [List.getElem_toArray, List.getElem_cons_zero, List.getElem_cons_succ, Act.put, List.setIfInBounds_toArray, List.set_cons_zero, List.set_cons_succ]
      refine wpAnyS_take (v := ?_) hA rfl (fun _ _ _ h => h) (Or.inl ⟨by rfl, ?_⟩) hF (fun hA => ?_)
      rotate_left
      · intro wS hSw; (try dsimp only at hSw); obtain ⟨s1, s2⟩ := hSw; first | (apply Eq.trans; apply ex_ld_id; exact rfl; exact rfl; assumption; with_reducible rfl) | (apply Eq.trans; apply ex_ld_arr; exact rfl; exact rfl; assumption; with_reducible rfl) | (apply Eq.trans; apply ex_bldA0_at; exact rfl; with_reducible rfl) | (go_simp; try with_reducible rfl)
      try simp only [List.getElem_toArray, List.getElem_cons_zero, List.getElem_cons_succ, Act.put, List.setIfInBounds_toArray, List.set_cons_zero, List.set_cons_succ]
      refine wpAnyS_take (v := ?_) hA rfl (fun _ _ _ h => h) (Or.inl ⟨by rfl, ?_⟩) hF (fun hA => ?_)
      rotate_left
      · intro wS hSw; (try dsimp only at hSw); obtain ⟨s1, s2⟩ := hSw; first | (apply Eq.trans; apply ex_ld_id; exact rfl; exact rfl; assumption; with_reducible rfl) | (apply Eq.trans; apply ex_ld_arr; exact rfl; exact rfl; assumption; with_reducible rfl) | (apply Eq.trans; apply ex_bldA0_at; exact rfl; with_reducible rfl) | (go_simp; try with_reducible rfl)
      try simp only [List.getElem_toArray, List.getElem_cons_zero, List.getElem_cons_succ, Act.put, List.setIfInBounds_toArray, List.set_cons_zero, List.set_cons_succ]
      refine wpAnyS_take (v := undef) hA rfl (fun _ _ _ h => h) (Or.inr ⟨by rfl, rfl⟩) hF (fun hA => ?_)
      try simp only [List.getElem_toArray, List.getElem_cons_zero, List.getElem_cons_succ, Act.put, List.setIfInBounds_toArray, List.set_cons_zero, List.set_cons_succ]
      refine wpAnyS_take (v := undef) hA rfl (fun _ _ _ h => h) (Or.inr ⟨by rfl, rfl⟩) hF (fun hA => ?_)
      try simp only [List.getElem_toArray, List.getElem_cons_zero, List.getElem_cons_succ, Act.put, List.setIfInBounds_toArray, List.set_cons_zero, List.set_cons_succ]
      refine wpAnyS_take (v := undef) hA rfl (fun _ _ _ h => h) (Or.inr ⟨by rfl, rfl⟩) hF (fun hA => ?_)
      try simp only [List.getElem_toArray, List.getElem_cons_zero, List.getElem_cons_succ, Act.put, List.setIfInBounds_toArray, List.set_cons_zero, List.set_cons_succ]
      refine wpAnyS_take (v := undef) hA rfl (fun _ _ _ h => h) (Or.inr ⟨by rfl, rfl⟩) hF (fun hA => ?_)
      try simp only [List.getElem_toArray, List.getElem_cons_zero, List.getElem_cons_succ, Act.put, List.setIfInBounds_toArray, List.set_cons_zero, List.set_cons_succ]
      refine wpAnyS_take (v := undef) hA rfl (fun _ _ _ h => h) (Or.inr ⟨by rfl, rfl⟩) hF (fun hA => ?_)
      try simp only [List.getElem_toArray, List.getElem_cons_zero, List.getElem_cons_succ, Act.put, List.setIfInBounds_toArray, List.set_cons_zero, List.set_cons_succ]
      refine wpAnyS_take (v := undef) hA rfl (fun _ _ _ h => h) (Or.inr ⟨by rfl, rfl⟩) hF (fun hA => ?_)
      try simp only [List.getElem_toArray, List.getElem_cons_zero, List.getElem_cons_succ, Act.put, List.setIfInBounds_toArray, List.set_cons_zero, List.set_cons_succ]
      refine wpAnyS_take (v := undef) hA rfl (fun _ _ _ h => h) (Or.inr ⟨by rfl, rfl⟩) hF (fun hA => ?_)
      try simp only [List.getElem_toArray, List.getElem_cons_zero, List.getElem_cons_succ, Act.put, List.setIfInBounds_toArray, List.set_cons_zero, List.set_cons_succ]
      refine wpAnyS_take (v := undef) hA rfl (fun _ _ _ h => h) (Or.inr ⟨by rfl, rfl⟩) hF (fun hA => ?_)
      try simp only [List.getElem_toArray, List.getElem_cons_zero, List.getElem_cons_succ, Act.put, List.setIfInBounds_toArray, List.set_cons_zero, List.set_cons_succ]
      refine wpAnyS_take (v := undef) hA rfl (fun _ _ _ h => h) (Or.inr ⟨by rfl, rfl⟩) hF (fun hA => ?_)
      try simp only [List.getElem_toArray, List.getElem_cons_zero, List.getElem_cons_succ, Act.put, List.setIfInBounds_toArray, List.set_cons_zero, List.set_cons_succ]
      refine wpAnyS_take (v := undef) hA rfl (fun _ _ _ h => h) (Or.inr ⟨by rfl, rfl⟩) hF (fun hA => ?_)
      try simp only [List.getElem_toArray, List.getElem_cons_zero, List.getElem_cons_succ, Act.put, List.setIfInBounds_toArray, List.set_cons_zero, List.set_cons_succ]
      refine wpAnyS_take (v := undef) hA rfl (fun _ _ _ h => h) (Or.inr ⟨by rfl, rfl⟩) hF (fun hA => ?_)
      try simp only [List.getElem_toArray, List.getElem_cons_zero, List.getElem_cons_succ, Act.put, List.setIfInBounds_toArray, List.set_cons_zero, List.set_cons_succ]
      refine wpAnyS_take (v := undef) hA rfl (fun _ _ _ h => h) (Or.inr ⟨by rfl, rfl⟩) hF (fun hA => ?_)
      try simp only [List.getElem_toArray, List.getElem_cons_zero, List.getElem_cons_succ, Act.put, List.setIfInBounds_toArray, List.set_cons_zero, List.set_cons_succ]
      refine wpAnyS_take (v := undef) hA rfl (fun _ _ _ h => h) (Or.inr ⟨by rfl, rfl⟩) hF (fun hA => ?_)
      try simp only [List.getElem_toArray, List.getElem_cons_zero, List.getElem_cons_succ, Act.put, List.setIfInBounds_toArray, List.set_cons_zero, List.set_cons_succ]
      refine wpAnyS_take (v := undef) hA rfl (fun _ _ _ h => h) (Or.inr ⟨by rfl, rfl⟩) hF (fun hA => ?_)
      try simp only [List.getElem_toArray, List.getElem_cons_zero, List.getElem_cons_succ, Act.put, List.setIfInBounds_toArray, List.set_cons_zero, List.set_cons_succ]
      refine wpAnyS_take (v := undef) hA rfl (fun _ _ _ h => h) (Or.inr ⟨by rfl, rfl⟩) hF (fun hA => ?_)
      try simp only [List.getElem_toArray, List.getElem_cons_zero, List.getElem_cons_succ, Act.put, List.setIfInBounds_toArray, List.set_cons_zero, List.set_cons_succ]
      refine wpAnyS_take (v := undef) hA rfl (fun _ _ _ h => h) (Or.inr ⟨by rfl, rfl⟩) hF (fun hA => ?_)
      try simp only [List.getElem_toArray, List.getElem_cons_zero, List.getElem_cons_succ, Act.put, List.setIfInBounds_toArray, List.set_cons_zero, List.set_cons_succ]
      refine wpAnyS_end hA rfl ?_
      simp only [List.drop_succ_cons, List.drop_zero]
      clear hF
      go_wp2_with fail
      go_meet
      case rel => exact ⟨by rw [HER.out]; rfl, (Fr.refl noB w1).drew⟩
    · have e1 : decide (x = zID) = false := by simpa using hxz
      have HXZ := Lib.hid hxz
      clear hxz
      by_cases h2 : 2 < ps.length
      · have e2 : decide ((2 : Int) < (ps.length : Int)) = true := by simp; omega
        have e3 : decide (2 < ps.length) = true := by simpa using h2
        have er : rightL x ps = false := by simp [rightL, h2]
        have HER := Lib.hid er
        clear er h2
        go_wp2_with fail
        refine wp_region_M 27 28 [⟨2048, 8, 0⟩, ⟨4096, 2048, 1⟩, ⟨8192, 0, 0⟩, ⟨16384, 12288, 6⟩, ⟨32768, 16384, 8⟩, ⟨65536, 32776, 16⟩, ⟨131072, 98304, 48⟩, ⟨262144, 163840, 80⟩, ⟨524288, 294912, 144⟩, ⟨1048576, 557056, 272⟩, ⟨2097152, 1048576, 528⟩, ⟨4194304, 2097160, 1024⟩, ⟨8388608, 6291456, 3072⟩, ⟨16777216, 10485760, 5120⟩, ⟨33554432, 18874368, 9216⟩, ⟨67108864, 35651584, 17408⟩, ⟨134217728, 67108872, 32768⟩, ⟨268435456, 201326592, 98304⟩, ⟨536870912, 335544320, 163840⟩, ⟨1073741824, 603979776, 294912⟩, ⟨2147483648, 67108872, 32768⟩, ⟨4294967296, 2214592512, 1081344⟩, ⟨8589934592, 4362076160, 2129920⟩, ⟨17179869184, 8657043456, 4227072⟩, ⟨34359738368, 18320719872, 8945664⟩, ⟨68719476736, 34426847232, 16809984⟩, ⟨137438953472, 68788682752, 33588224⟩, ⟨274877906944, 137441050624, 67109888⟩] [(true, 0), (true, 1), (true, 2), (true, 3), (true, 4), (true, 5), (true, 6), (true, 7), (true, 8), (true, 9), (true, 10), (true, 11), (true, 12), (true, 13), (true, 14), (true, 15), (true, 16), (true, 17), (true, 18), (true, 19), (true, 20), (true, 21), (true, 22), (true, 23), (true, 24), (true, 25), (true, 26)] (fun w' => rdI w' B 0 = some x ∧ w'.cell? ⟨B, 32, none⟩ = some (.slice P ps.length cP)) (by kernel_rfl) rfl (by kernel_rfl) (by kernel_rfl) (by kernel_rfl) F0 (fun hA hF => ?_)
        refine wpAnyS_take (v := ?_) hA rfl (fun _ _ _ h => h) (Or.inl ⟨by rfl, ?_⟩) hF (fun hA => ?_)
        rotate_left
        · intro wS hSw; (try dsimp only at hSw); obtain ⟨s1, s2⟩ := hSw; first | (apply Eq.trans; apply ex_ld_id; exact rfl; exact rfl; assumption; with_reducible rfl) | (apply Eq.trans; apply ex_ld_arr; exact rfl; exact rfl; assumption; with_reducible rfl) | (apply Eq.trans; apply ex_bldA0_at; exact rfl; with_reducible rfl) | (go_simp; try with_reducible rfl)
        try simp only [List.getElem_toArray, List.getElem_cons_zero, List.getElem_cons_succ, Act.put, List.setIfInBounds_toArray, List.set_cons_zero, List.set_cons_succ]
        refine wpAnyS_take (v := ?_) hA rfl (fun _ _ _ h => h) (Or.inl ⟨by rfl, ?_⟩) hF (fun hA => ?_)
        rotate_left
        · intro wS hSw; (try dsimp only at hSw); obtain ⟨s1, s2⟩ := hSw; first | (apply Eq.trans; apply ex_ld_id; exact rfl; exact rfl; assumption; with_reducible rfl) | (apply Eq.trans; apply ex_ld_arr; exact rfl; exact rfl; assumption; with_reducible rfl) | (apply Eq.trans; apply ex_bldA0_at; exact rfl; with_reducible rfl) | (go_simp; try with_reducible rfl)
        try simp only [List.getElem_toArray, List.getElem_cons_zero, List.getElem_cons_succ, Act.put, List.setIfInBounds_toArray, List.set_cons_zero, List.set_cons_succ]
        refine wpAnyS_take (v := ?_) hA rfl (fun _ _ _ h => h) (Or.inl ⟨by rfl, ?_⟩) hF (fun hA => ?_)
        rotate_left
        · intro wS hSw; (try dsimp only at hSw); obtain ⟨s1, s2⟩ := hSw; first | (apply Eq.trans; apply ex_ld_id; exact rfl; exact rfl; assumption; with_reducible rfl) | (apply Eq.trans; apply ex_ld_arr; exact rfl; exact rfl; assumption; with_reducible rfl) | (apply Eq.trans; apply ex_bldA0_at; exact rfl; with_reducible rfl) | (go_simp; try with_reducible rfl)
        try simp only [List.getElem_toArray, List.getElem_cons_zero, List.getElem_cons_succ, Act.put, List.setIfInBounds_toArray, List.set_cons_zero, List.set_cons_succ]
        refine wpAnyS_take (v := ?_) hA rfl (fun _ _ _ h => h) (Or.inl ⟨by rfl, ?_⟩) hF (fun hA => ?_)
        rotate_left
        · intro wS hSw; (try dsimp only at hSw); obtain ⟨s1, s2⟩ := hSw; first | (apply Eq.trans; apply ex_ld_id; exact rfl; exact rfl; assumption; with_reducible rfl) | (apply Eq.trans; apply ex_ld_arr; exact rfl; exact rfl; assumption; with_reducible rfl) | (apply Eq.trans; apply ex_bldA0_at; exact rfl; with_reducible rfl) | (go_simp; try with_reducible rfl)
        try simp only [List.getElem_toArray, List.getElem_cons_zero, List.getElem_cons_succ, Act.put, List.setIfInBounds_toArray, List.set_cons_zero, List.set_cons_succ]
        refine wpAnyS_take (v := ?_) hA rfl (fun _ _ _ h => h) (Or.inl ⟨by rfl, ?_⟩) hF (fun hA => ?_)
        rotate_left
        · intro wS hSw; (try dsimp only at hSw); obtain ⟨s1, s2⟩ := hSw; first | (apply Eq.trans; apply ex_ld_id; exact rfl; exact rfl; assumption; with_reducible rfl) | (apply Eq.trans; apply ex_ld_arr; exact rfl; exact rfl; assumption; with_reducible rfl) | (apply Eq.trans; apply ex_bldA0_at; exact rfl; with_reducible rfl) | (go_simp; try with_reducible rfl)
        try simp only [List.getElem_toArray, List.getElem_cons_zero, List.getElem_cons_succ, Act.put, List.setIfInBounds_toArray, List.set_cons_zero, List.set_cons_succ]
        refine wpAnyS_take (v := ?_) hA rfl (fun _ _ _ h => h) (Or.inl ⟨by rfl, ?_⟩) hF (fun hA => ?_)
        rotate_left
        · intro wS hSw; (try dsimp only at hSw); obtain ⟨s1, s2⟩ := hSw; first | (apply Eq.trans; apply ex_ld_id; exact rfl; exact rfl; assumption; with_reducible rfl) | (apply Eq.trans; apply ex_ld_arr; exact rfl; exact rfl; assumption; with_reducible rfl) | (apply Eq.trans; apply ex_bldA0_at; exact rfl; with_reducible rfl) | (go_simp; try with_reducible rfl)
        try simp only [List.getElem_toArray, List.getElem_cons_zero, List.getElem_cons_succ, Act.put, List.setIfInBounds_toArray, List.set_cons_zero, List.set_cons_succ]
        refine wpAnyS_take (v := ?_) hA rfl (fun _ _ _ h => h) (Or.inl ⟨by rfl, ?_⟩) hF (fun hA => ?_)
        rotate_left
        · intro wS hSw; (try dsimp only at hSw); obtain ⟨s1, s2⟩ := hSw; first | (apply Eq.trans; apply ex_ld_id; exact rfl; exact rfl; assumption; with_reducible rfl) | (apply Eq.trans; apply ex_ld_arr; exact rfl; exact rfl; assumption; with_reducible rfl) | (apply Eq.trans; apply ex_bldA0_at; exact rfl; with_reducible rfl) | (go_simp; try with_reducible rfl)
        try simp only [List.getElem_toArray, List.getElem_cons_zero, List.getElem_cons_succ, Act.put, List.setIfInBounds_toArray, List.set_cons_zero, List.set_cons_succ]
        refine wpAnyS_take (v := ?_) hA rfl (fun _ _ _ h => h) (Or.inl ⟨by rfl, ?_⟩) hF (fun hA => ?_)
        rotate_left
        · intro wS hSw; (try dsimp only at hSw); obtain ⟨s1, s2⟩ := hSw; first | (apply Eq.trans; apply ex_ld_id; exact rfl; exact rfl; assumption; with_reducible rfl) | (apply Eq.trans; apply ex_ld_arr; exact rfl; exact rfl; assumption; with_reducible rfl) | (apply Eq.trans; apply ex_bldA0_at; exact rfl; with_reducible rfl) | (go_simp; try with_reducible rfl)
        try simp only [List.getElem_toArray, List.getElem_cons_zero, List.getElem_cons_succ, Act.put, List.setIfInBounds_toArray, List.set_cons_zero, List.set_cons_succ]
        refine wpAnyS_take (v := ?_) hA rfl (fun _ _ _ h => h) (Or.inl ⟨by rfl, ?_⟩) hF (fun hA => ?_)
        rotate_left
        · intro wS hSw; (try dsimp only at hSw); obtain ⟨s1, s2⟩ := hSw; first | (apply Eq.trans; apply ex_ld_id; exact rfl; exact rfl; assumption; with_reducible rfl) | (apply Eq.trans; apply ex_ld_arr; exact rfl; exact rfl; assumption; with_reducible rfl) | (apply Eq.trans; apply ex_bldA0_at; exact rfl; with_reducible rfl) | (go_simp; try with_reducible rfl)
        try simp only [List.getElem_toArray, List.getElem_cons_zero, List.getElem_cons_succ, Act.put, List.setIfInBounds_toArray, List.set_cons_zero, List.set_cons_succ]
        refine wpAnyS_take (v := ?_) hA rfl (fun _ _ _ h => h) (Or.inl ⟨by rfl, ?_⟩) hF (fun hA => ?_)
        rotate_left
        · intro wS hSw; (try dsimp only at hSw); obtain ⟨s1, s2⟩ := hSw; first | (apply Eq.trans; apply ex_ld_id; exact rfl; exact rfl; assumption; with_reducible rfl) | (apply Eq.trans; apply ex_ld_arr; exact rfl; exact rfl; assumption; with_reducible rfl) | (apply Eq.trans; apply ex_bldA0_at; exact rfl; with_reducible rfl) | (go_simp; try with_reducible rfl)
        try simp only [List.getElem_toArray, List.getElem_cons_zero, List.getElem_cons_succ, Act.put, List.setIfInBounds_toArray, List.set_cons_zero, List.set_cons_succ]
        refine wpAnyS_take (v := ?_) hA rfl (fun _ _ _ h => h) (Or.inl ⟨by rfl, ?_⟩) hF (fun hA => ?_)
        rotate_left
        · intro wS hSw; (try dsimp only at hSw); obtain ⟨s1, s2⟩ := hSw; first | (apply Eq.trans; apply ex_ld_id; exact rfl; exact rfl; assumption; with_reducible rfl) | (apply Eq.trans; apply ex_ld_arr; exact rfl; exact rfl; assumption; with_reducible rfl) | (apply Eq.trans; apply ex_bldA0_at; exact rfl; with_reducible rfl) | (go_simp; try with_reducible rfl)
        try simp only [List.getElem_toArray, List.getElem_cons_zero, List.getElem_cons_succ, Act.put, List.setIfInBounds_toArray, List.set_cons_zero, List.set_cons_succ]
        refine wpAnyS_take (v := undef) hA rfl (fun _ _ _ h => h) (Or.inr ⟨by rfl, rfl⟩) hF (fun hA => ?_)
        try simp only [List.getElem_toArray, List.getElem_cons_zero, List.getElem_cons_succ, Act.put, List.setIfInBounds_toArray, List.set_cons_zero, List.set_cons_succ]
        refine wpAnyS_take (v := undef) hA rfl (fun _ _ _ h => h) (Or.inr ⟨by rfl, rfl⟩) hF (fun hA => ?_)
        try simp only [List.getElem_toArray, List.getElem_cons_zero, List.getElem_cons_succ, Act.put, List.setIfInBounds_toArray, List.set_cons_zero, List.set_cons_succ]
        refine wpAnyS_take (v := undef) hA rfl (fun _ _ _ h => h) (Or.inr ⟨by rfl, rfl⟩) hF (fun hA => ?_)
        try simp only [List.getElem_toArray, List.getElem_cons_zero, List.getElem_cons_succ, Act.put, List.setIfInBounds_toArray, List.set_cons_zero, List.set_cons_succ]
        refine wpAnyS_take (v := undef) hA rfl (fun _ _ _ h => h) (Or.inr ⟨by rfl, rfl⟩) hF (fun hA => ?_)
        try simp only [List.getElem_toArray, List.getElem_cons_zero, List.getElem_cons_succ, Act.put, List.setIfInBounds_toArray, List.set_cons_zero, List.set_cons_succ]
        refine wpAnyS_take (v := undef) hA rfl (fun _ _ _ h => h) (Or.inr ⟨by rfl, rfl⟩) hF (fun hA => ?_)
        try simp only [List.getElem_toArray, List.getElem_cons_zero, List.getElem_cons_succ, Act.put, List.setIfInBounds_toArray, List.set_cons_zero, List.set_cons_succ]
        refine wpAnyS_take (v := undef) hA rfl (fun _ _ _ h => h) (Or.inr ⟨by rfl, rfl⟩) hF (fun hA => ?_)
        try simp only [List.getElem_toArray, List.getElem_cons_zero, List.getElem_cons_succ, Act.put, List.setIfInBounds_toArray, List.set_cons_zero, List.set_cons_succ]
        refine wpAnyS_take (v := undef) hA rfl (fun _ _ _ h => h) (Or.inr ⟨by rfl, rfl⟩) hF (fun hA => ?_)
        try simp only [List.getElem_toArray, List.getElem_cons_zero, List.getElem_cons_succ, Act.put, List.setIfInBounds_toArray, List.set_cons_zero, List.set_cons_succ]
        refine wpAnyS_take (v := undef) hA rfl (fun _ _ _ h => h) (Or.inr ⟨by rfl, rfl⟩) hF (fun hA => ?_)
        try simp only [List.getElem_toArray, List.getElem_cons_zero, List.getElem_cons_succ, Act.put, List.setIfInBounds_toArray, List.set_cons_zero, List.set_cons_succ]
        refine wpAnyS_take (v := undef) hA rfl (fun _ _ _ h => h) (Or.inr ⟨by rfl, rfl⟩) hF (fun hA => ?_)
        try simp only [List.getElem_toArray, List.getElem_cons_zero, List.getElem_cons_succ, Act.put, List.setIfInBounds_toArray, List.set_cons_zero, List.set_cons_succ]
        refine wpAnyS_take (v := undef) hA rfl (fun _ _ _ h => h) (Or.inr ⟨by rfl, rfl⟩) hF (fun hA => ?_)
        try simp only [List.getElem_toArray, List.getElem_cons_zero, List.getElem_cons_succ, Act.put, List.setIfInBounds_toArray, List.set_cons_zero, List.set_cons_succ]
        refine wpAnyS_take (v := undef) hA rfl (fun _ _ _ h => h) (Or.inr ⟨by rfl, rfl⟩) hF (fun hA => ?_)
        try simp only [List.getElem_toArray, List.getElem_cons_zero, List.getElem_cons_succ, Act.put, List.setIfInBounds_toArray, List.set_cons_zero, List.set_cons_succ]
        refine wpAnyS_take (v := undef) hA rfl (fun _ _ _ h => h) (Or.inr ⟨by rfl, rfl⟩) hF (fun hA => ?_)
        try simp only [List.getElem_toArray, List.getElem_cons_zero, List.getElem_cons_succ, Act.put, List.setIfInBounds_toArray, List.set_cons_zero, List.set_cons_succ]
        refine wpAnyS_take (v := undef) hA rfl (fun _ _ _ h => h) (Or.inr ⟨by rfl, rfl⟩) hF (fun hA => ?_)
        try simp only [List.getElem_toArray, List.getElem_cons_zero, List.getElem_cons_succ, Act.put, List.setIfInBounds_toArray, List.set_cons_zero, List.set_cons_succ]
        refine wpAnyS_take (v := undef) hA rfl (fun _ _ _ h => h) (Or.inr ⟨by rfl, rfl⟩) hF (fun hA => ?_)
        try simp only [List.getElem_toArray, List.getElem_cons_zero, List.getElem_cons_succ, Act.put, List.setIfInBounds_toArray, List.set_cons_zero, List.set_cons_succ]
        refine wpAnyS_take (v := undef) hA rfl (fun _ _ _ h => h) (Or.inr ⟨by rfl, rfl⟩) hF (fun hA => ?_)
        try simp only [List.getElem_toArray, List.getElem_cons_zero, List.getElem_cons_succ, Act.put, List.setIfInBounds_toArray, List.set_cons_zero, List.set_cons_succ]
        refine wpAnyS_take (v := undef) hA rfl (fun _ _ _ h => h) (Or.inr ⟨by rfl, rfl⟩) hF (fun hA => ?_)
        try simp only [List.getElem_toArray, List.getElem_cons_zero, List.getElem_cons_succ, Act.put, List.setIfInBounds_toArray, List.set_cons_zero, List.set_cons_succ]
        refine wpAnyS_end hA rfl ?_
        simp only [List.drop_succ_cons, List.drop_zero]
        clear hF
        go_wp2_with fail
        go_meet
        case rel => exact ⟨by rw [HER.out]; rfl, (Fr.refl noB w1).drew⟩
      · have e2 : decide ((2 : Int) < (ps.length : Int)) = false := by simp; omega
        have e3 : decide (2 < ps.length) = false := by simpa using h2
        by_cases h3 : ps.length = 2
        · obtain ⟨p, q, rfl⟩ : ∃ p q, ps = [p, q] := by
            match ps, h3 with
            | [p, q], _ => exact ⟨p, q, rfl⟩
          obtain ⟨gP, oP, rfl⟩ := hP1.ad (by simp)
          have r0 := (hP1.fr0 (Fr.refl noB w1).drew).id 0 (by simp)
          have r1 := (hP1.fr0 (Fr.refl noB w1).drew).id 1 (by simp)
          simp only [List.getElem_cons_zero, List.getElem_cons_succ, Nat.zero_mul, Nat.add_zero, Nat.one_mul] at r0 r1
          have F1 : rdI w1.drew B 0 = some x ∧ w1.drew.cell? ⟨B, 32, none⟩ = some (.slice (some ⟨gP, oP, none⟩) 2 cP) ∧ rdI w1.drew gP oP = some p ∧ rdI w1.drew gP (oP + 32) = some q := ⟨F0.1, F0.2, r0, r1⟩
          have keep : ∀ w' w'' : World, Fr noB w' w'' → (rdI w' B 0 = some x ∧ w'.cell? ⟨B, 32, none⟩ = some (.slice (some ⟨gP, oP, none⟩) 2 cP) ∧ rdI w' gP oP = some p ∧ rdI w' gP (oP + 32) = some q) → (rdI w'' B 0 = some x ∧ w''.cell? ⟨B, 32, none⟩ = some (.slice (some ⟨gP, oP, none⟩) 2 cP) ∧ rdI w'' gP oP = some p ∧ rdI w'' gP (oP + 32) = some q) := fun w' w'' f h =>
            ⟨rdI_fr h.1 (rdI_lt h.1) f (by simp [noB]), (World.cell?_of_block (a := ⟨B, 32, none⟩) (f.block B (rdI_lt h.1) (by simp [noB]))).trans h.2.1, rdI_fr h.2.2.1 (rdI_lt h.2.2.1) f (by simp [noB]), rdI_fr h.2.2.2 (rdI_lt h.2.2.2) f (by simp [noB])⟩
          clear F0 r0 r1 e2 e3 h2 h3
          rcases cb_range p.1 q.1 with hc | hc | hc
          · have hc : cmpI p q = -1 := hc
            have er := rightL_two x p q HXZ.out hc
            have HER := Lib.hid er
            have HC := Lib.hid hc
            clear er hc
            go_wp2_with fail
            refine wp_region_M 27 28 [⟨2048, 8, 0⟩, ⟨4096, 2048, 1⟩, ⟨8192, 0, 0⟩, ⟨16384, 12288, 6⟩, ⟨32768, 16384, 8⟩, ⟨65536, 32776, 16⟩, ⟨131072, 98304, 48⟩, ⟨262144, 163840, 80⟩, ⟨524288, 294912, 144⟩, ⟨1048576, 557056, 272⟩, ⟨2097152, 1048576, 528⟩, ⟨4194304, 2097160, 1024⟩, ⟨8388608, 6291456, 3072⟩, ⟨16777216, 10485760, 5120⟩, ⟨33554432, 18874368, 9216⟩, ⟨67108864, 35651584, 17408⟩, ⟨134217728, 67108872, 32768⟩, ⟨268435456, 201326592, 98304⟩, ⟨536870912, 335544320, 163840⟩, ⟨1073741824, 603979776, 294912⟩, ⟨2147483648, 67108872, 32768⟩, ⟨4294967296, 2214592512, 1081344⟩, ⟨8589934592, 4362076160, 2129920⟩, ⟨17179869184, 8657043456, 4227072⟩, ⟨34359738368, 18320719872, 8945664⟩, ⟨68719476736, 34426847232, 16809984⟩, ⟨137438953472, 68788682752, 33588224⟩, ⟨274877906944, 137441050624, 67109888⟩] [(true, 0), (true, 1), (true, 2), (true, 3), (true, 4), (true, 5), (true, 6), (true, 7), (true, 8), (true, 9), (true, 10), (true, 11), (true, 12), (true, 13), (true, 14), (true, 15), (true, 16), (true, 17), (true, 18), (true, 19), (true, 20), (true, 21), (true, 22), (true, 23), (false, 24), (true, 25), (true, 26)] (fun w' => rdI w' B 0 = some x ∧ w'.cell? ⟨B, 32, none⟩ = some (.slice (some ⟨gP, oP, none⟩) 2 cP) ∧ rdI w' gP oP = some p ∧ rdI w' gP (oP + 32) = some q) (by kernel_rfl) rfl (by kernel_rfl) (by kernel_rfl) (by kernel_rfl) F1 (fun hA hF => ?_)
            refine wpAnyS_take (v := ?_) hA rfl (fun _ _ _ h => h) (Or.inl ⟨by rfl, ?_⟩) hF (fun hA => ?_)
            rotate_left
            · intro wS hSw; (try dsimp only at hSw); obtain ⟨s1, s2, s3, s4⟩ := hSw; first | (apply Eq.trans; apply ex_ld_id; exact rfl; exact rfl; assumption; with_reducible rfl) | (apply Eq.trans; apply ex_ld_arr; exact rfl; exact rfl; assumption; with_reducible rfl) | (apply Eq.trans; apply ex_bldA0_at; exact rfl; with_reducible rfl) | (go_simp; try with_reducible rfl)
            try simp only [List.getElem_toArray, List.getElem_cons_zero, List.getElem_cons_succ, Act.put, List.setIfInBounds_toArray, List.set_cons_zero, List.set_cons_succ]
            refine wpAnyS_take (v := ?_) hA rfl (fun _ _ _ h => h) (Or.inl ⟨by rfl, ?_⟩) hF (fun hA => ?_)
            rotate_left
            · intro wS hSw; (try dsimp only at hSw); obtain ⟨s1, s2, s3, s4⟩ := hSw; first | (apply Eq.trans; apply ex_ld_id; exact rfl; exact rfl; assumption; with_reducible rfl) | (apply Eq.trans; apply ex_ld_arr; exact rfl; exact rfl; assumption; with_reducible rfl) | (apply Eq.trans; apply ex_bldA0_at; exact rfl; with_reducible rfl) | (go_simp; try with_reducible rfl)
            try simp only [List.getElem_toArray, List.getElem_cons_zero, List.getElem_cons_succ, Act.put, List.setIfInBounds_toArray, List.set_cons_zero, List.set_cons_succ]
            refine wpAnyS_take (v := ?_) hA rfl (fun _ _ _ h => h) (Or.inl ⟨by rfl, ?_⟩) hF (fun hA => ?_)
            rotate_left
            · intro wS hSw; (try dsimp only at hSw); obtain ⟨s1, s2, s3, s4⟩ := hSw; first | (apply Eq.trans; apply ex_ld_id; exact rfl; exact rfl; assumption; with_reducible rfl) | (apply Eq.trans; apply ex_ld_arr; exact rfl; exact rfl; assumption; with_reducible rfl) | (apply Eq.trans; apply ex_bldA0_at; exact rfl; with_reducible rfl) | (go_simp; try with_reducible rfl)
            try simp only [List.getElem_toArray, List.getElem_cons_zero, List.getElem_cons_succ, Act.put, List.setIfInBounds_toArray, List.set_cons_zero, List.set_cons_succ]
            refine wpAnyS_take (v := ?_) hA rfl (fun _ _ _ h => h) (Or.inl ⟨by rfl, ?_⟩) hF (fun hA => ?_)
            rotate_left
            · intro wS hSw; (try dsimp only at hSw); obtain ⟨s1, s2, s3, s4⟩ := hSw; first | (apply Eq.trans; apply ex_ld_id; exact rfl; exact rfl; assumption; with_reducible rfl) | (apply Eq.trans; apply ex_ld_arr; exact rfl; exact rfl; assumption; with_reducible rfl) | (apply Eq.trans; apply ex_bldA0_at; exact rfl; with_reducible rfl) | (go_simp; try with_reducible rfl)
            try simp only [List.getElem_toArray, List.getElem_cons_zero, List.getElem_cons_succ, Act.put, List.setIfInBounds_toArray, List.set_cons_zero, List.set_cons_succ]
            refine wpAnyS_take (v := ?_) hA rfl (fun _ _ _ h => h) (Or.inl ⟨by rfl, ?_⟩) hF (fun hA => ?_)
            rotate_left
            · intro wS hSw; (try dsimp only at hSw); obtain ⟨s1, s2, s3, s4⟩ := hSw; first | (apply Eq.trans; apply ex_ld_id; exact rfl; exact rfl; assumption; with_reducible rfl) | (apply Eq.trans; apply ex_ld_arr; exact rfl; exact rfl; assumption; with_reducible rfl) | (apply Eq.trans; apply ex_bldA0_at; exact rfl; with_reducible rfl) | (go_simp; try with_reducible rfl)
            try simp only [List.getElem_toArray, List.getElem_cons_zero, List.getElem_cons_succ, Act.put, List.setIfInBounds_toArray, List.set_cons_zero, List.set_cons_succ]
            refine wpAnyS_take (v := ?_) hA rfl (fun _ _ _ h => h) (Or.inl ⟨by rfl, ?_⟩) hF (fun hA => ?_)
            rotate_left
            · intro wS hSw; (try dsimp only at hSw); obtain ⟨s1, s2, s3, s4⟩ := hSw; first | (apply Eq.trans; apply ex_ld_id; exact rfl; exact rfl; assumption; with_reducible rfl) | (apply Eq.trans; apply ex_ld_arr; exact rfl; exact rfl; assumption; with_reducible rfl) | (apply Eq.trans; apply ex_bldA0_at; exact rfl; with_reducible rfl) | (go_simp; try with_reducible rfl)
            try simp only [List.getElem_toArray, List.getElem_cons_zero, List.getElem_cons_succ, Act.put, List.setIfInBounds_toArray, List.set_cons_zero, List.set_cons_succ]
            refine wpAnyS_take (v := ?_) hA rfl (fun _ _ _ h => h) (Or.inl ⟨by rfl, ?_⟩) hF (fun hA => ?_)
            rotate_left
            · intro wS hSw; (try dsimp only at hSw); obtain ⟨s1, s2, s3, s4⟩ := hSw; first | (apply Eq.trans; apply ex_ld_id; exact rfl; exact rfl; assumption; with_reducible rfl) | (apply Eq.trans; apply ex_ld_arr; exact rfl; exact rfl; assumption; with_reducible rfl) | (apply Eq.trans; apply ex_bldA0_at; exact rfl; with_reducible rfl) | (go_simp; try with_reducible rfl)
            try simp only [List.getElem_toArray, List.getElem_cons_zero, List.getElem_cons_succ, Act.put, List.setIfInBounds_toArray, List.set_cons_zero, List.set_cons_succ]
            refine wpAnyS_take (v := ?_) hA rfl (fun _ _ _ h => h) (Or.inl ⟨by rfl, ?_⟩) hF (fun hA => ?_)
            rotate_left
            · intro wS hSw; (try dsimp only at hSw); obtain ⟨s1, s2, s3, s4⟩ := hSw; first | (apply Eq.trans; apply ex_ld_id; exact rfl; exact rfl; assumption; with_reducible rfl) | (apply Eq.trans; apply ex_ld_arr; exact rfl; exact rfl; assumption; with_reducible rfl) | (apply Eq.trans; apply ex_bldA0_at; exact rfl; with_reducible rfl) | (go_simp; try with_reducible rfl)
            try simp only [List.getElem_toArray, List.getElem_cons_zero, List.getElem_cons_succ, Act.put, List.setIfInBounds_toArray, List.set_cons_zero, List.set_cons_succ]
            refine wpAnyS_take (v := ?_) hA rfl (fun _ _ _ h => h) (Or.inl ⟨by rfl, ?_⟩) hF (fun hA => ?_)
            rotate_left
            · intro wS hSw; (try dsimp only at hSw); obtain ⟨s1, s2, s3, s4⟩ := hSw; first | (apply Eq.trans; apply ex_ld_id; exact rfl; exact rfl; assumption; with_reducible rfl) | (apply Eq.trans; apply ex_ld_arr; exact rfl; exact rfl; assumption; with_reducible rfl) | (apply Eq.trans; apply ex_bldA0_at; exact rfl; with_reducible rfl) | (go_simp; try with_reducible rfl)
            try simp only [List.getElem_toArray, List.getElem_cons_zero, List.getElem_cons_succ, Act.put, List.setIfInBounds_toArray, List.set_cons_zero, List.set_cons_succ]
            refine wpAnyS_take (v := ?_) hA rfl (fun _ _ _ h => h) (Or.inl ⟨by rfl, ?_⟩) hF (fun hA => ?_)
            rotate_left
            · intro wS hSw; (try dsimp only at hSw); obtain ⟨s1, s2, s3, s4⟩ := hSw; first | (apply Eq.trans; apply ex_ld_id; exact rfl; exact rfl; assumption; with_reducible rfl) | (apply Eq.trans; apply ex_ld_arr; exact rfl; exact rfl; assumption; with_reducible rfl) | (apply Eq.trans; apply ex_bldA0_at; exact rfl; with_reducible rfl) | (go_simp; try with_reducible rfl)
            try simp only [List.getElem_toArray, List.getElem_cons_zero, List.getElem_cons_succ, Act.put, List.setIfInBounds_toArray, List.set_cons_zero, List.set_cons_succ]
            refine wpAnyS_take (v := ?_) hA rfl (fun _ _ _ h => h) (Or.inl ⟨by rfl, ?_⟩) hF (fun hA => ?_)
            rotate_left
            · intro wS hSw; (try dsimp only at hSw); obtain ⟨s1, s2, s3, s4⟩ := hSw; first | (apply Eq.trans; apply ex_ld_id; exact rfl; exact rfl; assumption; with_reducible rfl) | (apply Eq.trans; apply ex_ld_arr; exact rfl; exact rfl; assumption; with_reducible rfl) | (apply Eq.trans; apply ex_bldA0_at; exact rfl; with_reducible rfl) | (go_simp; try with_reducible rfl)
            try simp only [List.getElem_toArray, List.getElem_cons_zero, List.getElem_cons_succ, Act.put, List.setIfInBounds_toArray, List.set_cons_zero, List.set_cons_succ]
            refine wpAnyS_take (v := ?_) hA rfl (fun _ _ _ h => h) (Or.inl ⟨by rfl, ?_⟩) hF (fun hA => ?_)
            rotate_left
            · intro wS hSw; (try dsimp only at hSw); obtain ⟨s1, s2, s3, s4⟩ := hSw; first | (apply Eq.trans; apply ex_ld_id; exact rfl; exact rfl; assumption; with_reducible rfl) | (apply Eq.trans; apply ex_ld_arr; exact rfl; exact rfl; assumption; with_reducible rfl) | (apply Eq.trans; apply ex_bldA0_at; exact rfl; with_reducible rfl) | (go_simp; try with_reducible rfl)
            try simp only [List.getElem_toArray, List.getElem_cons_zero, List.getElem_cons_succ, Act.put, List.setIfInBounds_toArray, List.set_cons_zero, List.set_cons_succ]
            refine wpAnyS_take (v := ?_) hA rfl (fun _ _ _ h => h) (Or.inl ⟨by rfl, ?_⟩) hF (fun hA => ?_)
            rotate_left
            · intro wS hSw; (try dsimp only at hSw); obtain ⟨s1, s2, s3, s4⟩ := hSw; first | (apply Eq.trans; apply ex_ld_id; exact rfl; exact rfl; assumption; with_reducible rfl) | (apply Eq.trans; apply ex_ld_arr; exact rfl; exact rfl; assumption; with_reducible rfl) | (apply Eq.trans; apply ex_bldA0_at; exact rfl; with_reducible rfl) | (go_simp; try with_reducible rfl)
            try simp only [List.getElem_toArray, List.getElem_cons_zero, List.getElem_cons_succ, Act.put, List.setIfInBounds_toArray, List.set_cons_zero, List.set_cons_succ]
            refine wpAnyS_take (v := ?_) hA rfl (fun _ _ _ h => h) (Or.inl ⟨by rfl, ?_⟩) hF (fun hA => ?_)
            rotate_left
            · intro wS hSw; (try dsimp only at hSw); obtain ⟨s1, s2, s3, s4⟩ := hSw; first | (apply Eq.trans; apply ex_ld_id; exact rfl; exact rfl; assumption; with_reducible rfl) | (apply Eq.trans; apply ex_ld_arr; exact rfl; exact rfl; assumption; with_reducible rfl) | (apply Eq.trans; apply ex_bldA0_at; exact rfl; with_reducible rfl) | (go_simp; try with_reducible rfl)
            try simp only [List.getElem_toArray, List.getElem_cons_zero, List.getElem_cons_succ, Act.put, List.setIfInBounds_toArray, List.set_cons_zero, List.set_cons_succ]
            refine wpAnyS_take (v := ?_) hA rfl (fun _ _ _ h => h) (Or.inl ⟨by rfl, ?_⟩) hF (fun hA => ?_)
            rotate_left
            · intro wS hSw; (try dsimp only at hSw); obtain ⟨s1, s2, s3, s4⟩ := hSw; first | (apply Eq.trans; apply ex_ld_id; exact rfl; exact rfl; assumption; with_reducible rfl) | (apply Eq.trans; apply ex_ld_arr; exact rfl; exact rfl; assumption; with_reducible rfl) | (apply Eq.trans; apply ex_bldA0_at; exact rfl; with_reducible rfl) | (go_simp; try with_reducible rfl)
            try simp only [List.getElem_toArray, List.getElem_cons_zero, List.getElem_cons_succ, Act.put, List.setIfInBounds_toArray, List.set_cons_zero, List.set_cons_succ]
            refine wpAnyS_take (v := ?_) hA rfl (fun _ _ _ h => h) (Or.inl ⟨by rfl, ?_⟩) hF (fun hA => ?_)
            rotate_left
            · intro wS hSw; (try dsimp only at hSw); obtain ⟨s1, s2, s3, s4⟩ := hSw; first | (apply Eq.trans; apply ex_ld_id; exact rfl; exact rfl; assumption; with_reducible rfl) | (apply Eq.trans; apply ex_ld_arr; exact rfl; exact rfl; assumption; with_reducible rfl) | (apply Eq.trans; apply ex_bldA0_at; exact rfl; with_reducible rfl) | (go_simp; try with_reducible rfl)
            try simp only [List.getElem_toArray, List.getElem_cons_zero, List.getElem_cons_succ, Act.put, List.setIfInBounds_toArray, List.set_cons_zero, List.set_cons_succ]
            refine wpAnyS_take (v := ?_) hA rfl (fun _ _ _ h => h) (Or.inl ⟨by rfl, ?_⟩) hF (fun hA => ?_)
            rotate_left
            · intro wS hSw; (try dsimp only at hSw); obtain ⟨s1, s2, s3, s4⟩ := hSw; first | (apply Eq.trans; apply ex_ld_id; exact rfl; exact rfl; assumption; with_reducible rfl) | (apply Eq.trans; apply ex_ld_arr; exact rfl; exact rfl; assumption; with_reducible rfl) | (apply Eq.trans; apply ex_bldA0_at; exact rfl; with_reducible rfl) | (go_simp; try with_reducible rfl)
            try simp only [List.getElem_toArray, List.getElem_cons_zero, List.getElem_cons_succ, Act.put, List.setIfInBounds_toArray, List.set_cons_zero, List.set_cons_succ]
            refine wpAnyS_take (v := ?_) hA rfl (fun _ _ _ h => h) (Or.inl ⟨by rfl, ?_⟩) hF (fun hA => ?_)
            rotate_left
            · intro wS hSw; (try dsimp only at hSw); obtain ⟨s1, s2, s3, s4⟩ := hSw; first | (apply Eq.trans; apply ex_ld_id; exact rfl; exact rfl; assumption; with_reducible rfl) | (apply Eq.trans; apply ex_ld_arr; exact rfl; exact rfl; assumption; with_reducible rfl) | (apply Eq.trans; apply ex_bldA0_at; exact rfl; with_reducible rfl) | (go_simp; try with_reducible rfl)
            try simp only [List.getElem_toArray, List.getElem_cons_zero, List.getElem_cons_succ, Act.put, List.setIfInBounds_toArray, List.set_cons_zero, List.set_cons_succ]
            refine wpAnyS_take (v := ?_) hA rfl (fun _ _ _ h => h) (Or.inl ⟨by rfl, ?_⟩) hF (fun hA => ?_)
            rotate_left
            · intro wS hSw; (try dsimp only at hSw); obtain ⟨s1, s2, s3, s4⟩ := hSw; first | (apply Eq.trans; apply ex_ld_id; exact rfl; exact rfl; assumption; with_reducible rfl) | (apply Eq.trans; apply ex_ld_arr; exact rfl; exact rfl; assumption; with_reducible rfl) | (apply Eq.trans; apply ex_bldA0_at; exact rfl; with_reducible rfl) | (go_simp; try with_reducible rfl)
            try simp only [List.getElem_toArray, List.getElem_cons_zero, List.getElem_cons_succ, Act.put, List.setIfInBounds_toArray, List.set_cons_zero, List.set_cons_succ]
            refine wpAnyS_take (v := ?_) hA rfl (fun _ _ _ h => h) (Or.inl ⟨by rfl, ?_⟩) hF (fun hA => ?_)
            rotate_left
            · intro wS hSw; (try dsimp only at hSw); obtain ⟨s1, s2, s3, s4⟩ := hSw; first | (apply Eq.trans; apply ex_ld_id; exact rfl; exact rfl; assumption; with_reducible rfl) | (apply Eq.trans; apply ex_ld_arr; exact rfl; exact rfl; assumption; with_reducible rfl) | (apply Eq.trans; apply ex_bldA0_at; exact rfl; with_reducible rfl) | (go_simp; try with_reducible rfl)
            try simp only [List.getElem_toArray, List.getElem_cons_zero, List.getElem_cons_succ, Act.put, List.setIfInBounds_toArray, List.set_cons_zero, List.set_cons_succ]
            refine wpAnyS_take (v := ?_) hA rfl (fun _ _ _ h => h) (Or.inl ⟨by rfl, ?_⟩) hF (fun hA => ?_)
            rotate_left
            · intro wS hSw; (try dsimp only at hSw); obtain ⟨s1, s2, s3, s4⟩ := hSw; first | (apply Eq.trans; apply ex_ld_id; exact rfl; exact rfl; assumption; with_reducible rfl) | (apply Eq.trans; apply ex_ld_arr; exact rfl; exact rfl; assumption; with_reducible rfl) | (apply Eq.trans; apply ex_bldA0_at; exact rfl; with_reducible rfl) | (go_simp; try with_reducible rfl)
            try simp only [List.getElem_toArray, List.getElem_cons_zero, List.getElem_cons_succ, Act.put, List.setIfInBounds_toArray, List.set_cons_zero, List.set_cons_succ]
            refine wpAnyS_take (v := ?_) hA rfl (fun _ _ _ h => h) (Or.inl ⟨by rfl, ?_⟩) hF (fun hA => ?_)
            rotate_left
            · intro wS hSw; (try dsimp only at hSw); obtain ⟨s1, s2, s3, s4⟩ := hSw; first | (apply Eq.trans; apply ex_ld_id; exact rfl; exact rfl; assumption; with_reducible rfl) | (apply Eq.trans; apply ex_ld_arr; exact rfl; exact rfl; assumption; with_reducible rfl) | (apply Eq.trans; apply ex_bldA0_at; exact rfl; with_reducible rfl) | (go_simp; try with_reducible rfl)
            try simp only [List.getElem_toArray, List.getElem_cons_zero, List.getElem_cons_succ, Act.put, List.setIfInBounds_toArray, List.set_cons_zero, List.set_cons_succ]
            refine wpAnyS_take (v := ?_) hA rfl (fun _ _ _ h => h) (Or.inl ⟨by rfl, ?_⟩) hF (fun hA => ?_)
            rotate_left
            · intro wS hSw; (try dsimp only at hSw); obtain ⟨s1, s2, s3, s4⟩ := hSw; first | (apply Eq.trans; apply ex_ld_id; exact rfl; exact rfl; assumption; with_reducible rfl) | (apply Eq.trans; apply ex_ld_arr; exact rfl; exact rfl; assumption; with_reducible rfl) | (apply Eq.trans; apply ex_bldA0_at; exact rfl; with_reducible rfl) | (go_simp; try with_reducible rfl)
            try simp only [List.getElem_toArray, List.getElem_cons_zero, List.getElem_cons_succ, Act.put, List.setIfInBounds_toArray, List.set_cons_zero, List.set_cons_succ]
            refine wpAnyS_take (v := ?_) hA rfl (fun _ _ _ h => h) (Or.inl ⟨by rfl, ?_⟩) hF (fun hA => ?_)
            rotate_left
            · intro wS hSw; (try dsimp only at hSw); obtain ⟨s1, s2, s3, s4⟩ := hSw; first | (apply Eq.trans; apply ex_ld_id; exact rfl; exact rfl; assumption; with_reducible rfl) | (apply Eq.trans; apply ex_ld_arr; exact rfl; exact rfl; assumption; with_reducible rfl) | (apply Eq.trans; apply ex_bldA0_at; exact rfl; with_reducible rfl) | (go_simp; try with_reducible rfl)
            try simp only [List.getElem_toArray, List.getElem_cons_zero, List.getElem_cons_succ, Act.put, List.setIfInBounds_toArray, List.set_cons_zero, List.set_cons_succ]
            refine wpAnyS_one hA rfl (fun K' hK => ?_)
            rw [if_pos (by rfl)]
            go_simp
            go_at_call 29
            refine (rcmp_any _ p q).mono ?_
            rintro e u1 ⟨rfl, hu1⟩
            replace hF := keep _ _ hu1 hF
            refine hK.out _ _ hF (fun hA => ?_)
            clear hK K'
            as_aux_lemma =>
            rw [HC.out]
            refine wpAnyS_take (v := ?_) hA rfl (fun _ _ _ h => h) (Or.inl ⟨by rfl, ?_⟩) hF (fun hA => ?_)
            rotate_left
            · intro wS hSw; (try dsimp only at hSw); obtain ⟨s1, s2, s3, s4⟩ := hSw; first | (apply Eq.trans; apply ex_ld_id; exact rfl; exact rfl; assumption; with_reducible rfl) | (apply Eq.trans; apply ex_ld_arr; exact rfl; exact rfl; assumption; with_reducible rfl) | (apply Eq.trans; apply ex_bldA0_at; exact rfl; with_reducible rfl) | (go_simp; try with_reducible rfl)
            try simp only [List.getElem_toArray, List.getElem_cons_zero, List.getElem_cons_succ, Act.put, List.setIfInBounds_toArray, List.set_cons_zero, List.set_cons_succ]
            refine wpAnyS_take (v := ?_) hA rfl (fun _ _ _ h => h) (Or.inl ⟨by rfl, ?_⟩) hF (fun hA => ?_)
            rotate_left
            · intro wS hSw; (try dsimp only at hSw); obtain ⟨s1, s2, s3, s4⟩ := hSw; first | (apply Eq.trans; apply ex_ld_id; exact rfl; exact rfl; assumption; with_reducible rfl) | (apply Eq.trans; apply ex_ld_arr; exact rfl; exact rfl; assumption; with_reducible rfl) | (apply Eq.trans; apply ex_bldA0_at; exact rfl; with_reducible rfl) | (go_simp; try with_reducible rfl)
            try simp only [List.getElem_toArray, List.getElem_cons_zero, List.getElem_cons_succ, Act.put, List.setIfInBounds_toArray, List.set_cons_zero, List.set_cons_succ]
            refine wpAnyS_end hA rfl ?_
            simp only [List.drop_succ_cons, List.drop_zero]
            clear hF
            go_wp2_with fail
            go_meet
            case rel => exact ⟨by rw [HER.out]; rfl, (Fr.refl noB w1).drew.step0 hu1⟩
          · have hc : cmpI p q = 0 := hc
            have er := rightL_two' x p q (by omega)
            have HER := Lib.hid er
            have HC := Lib.hid hc
            clear er hc
            go_wp2_with fail
            refine wp_region_M 27 28 [⟨2048, 8, 0⟩, ⟨4096, 2048, 1⟩, ⟨8192, 0, 0⟩, ⟨16384, 12288, 6⟩, ⟨32768, 16384, 8⟩, ⟨65536, 32776, 16⟩, ⟨131072, 98304, 48⟩, ⟨262144, 163840, 80⟩, ⟨524288, 294912, 144⟩, ⟨1048576, 557056, 272⟩, ⟨2097152, 1048576, 528⟩, ⟨4194304, 2097160, 1024⟩, ⟨8388608, 6291456, 3072⟩, ⟨16777216, 10485760, 5120⟩, ⟨33554432, 18874368, 9216⟩, ⟨67108864, 35651584, 17408⟩, ⟨134217728, 67108872, 32768⟩, ⟨268435456, 201326592, 98304⟩, ⟨536870912, 335544320, 163840⟩, ⟨1073741824, 603979776, 294912⟩, ⟨2147483648, 67108872, 32768⟩, ⟨4294967296, 2214592512, 1081344⟩, ⟨8589934592, 4362076160, 2129920⟩, ⟨17179869184, 8657043456, 4227072⟩, ⟨34359738368, 18320719872, 8945664⟩, ⟨68719476736, 34426847232, 16809984⟩, ⟨137438953472, 68788682752, 33588224⟩, ⟨274877906944, 137441050624, 67109888⟩] [(true, 0), (true, 1), (true, 2), (true, 3), (true, 4), (true, 5), (true, 6), (true, 7), (true, 8), (true, 9), (true, 10), (true, 11), (true, 12), (true, 13), (true, 14), (true, 15), (true, 16), (true, 17), (true, 18), (true, 19), (true, 20), (true, 21), (true, 22), (true, 23), (false, 24), (true, 25), (true, 26)] (fun w' => rdI w' B 0 = some x ∧ w'.cell? ⟨B, 32, none⟩ = some (.slice (some ⟨gP, oP, none⟩) 2 cP) ∧ rdI w' gP oP = some p ∧ rdI w' gP (oP + 32) = some q) (by kernel_rfl) rfl (by kernel_rfl) (by kernel_rfl) (by kernel_rfl) F1 (fun hA hF => ?_)
            refine wpAnyS_take (v := ?_) hA rfl (fun _ _ _ h => h) (Or.inl ⟨by rfl, ?_⟩) hF (fun hA => ?_)
            rotate_left
            · intro wS hSw; (try dsimp only at hSw); obtain ⟨s1, s2, s3, s4⟩ := hSw; first | (apply Eq.trans; apply ex_ld_id; exact rfl; exact rfl; assumption; with_reducible rfl) | (apply Eq.trans; apply ex_ld_arr; exact rfl; exact rfl; assumption; with_reducible rfl) | (apply Eq.trans; apply ex_bldA0_at; exact rfl; with_reducible rfl) | (go_simp; try with_reducible rfl)
            try simp only [List.getElem_toArray, List.getElem_cons_zero, List.getElem_cons_succ, Act.put, List.setIfInBounds_toArray, List.set_cons_zero, List.set_cons_succ]
            refine wpAnyS_take (v := ?_) hA rfl (fun _ _ _ h => h) (Or.inl ⟨by rfl, ?_⟩) hF (fun hA => ?_)
            rotate_left
            · intro wS hSw; (try dsimp only at hSw); obtain ⟨s1, s2, s3, s4⟩ := hSw; first | (apply Eq.trans; apply ex_ld_id; exact rfl; exact rfl; assumption; with_reducible rfl) | (apply Eq.trans; apply ex_ld_arr; exact rfl; exact rfl; assumption; with_reducible rfl) | (apply Eq.trans; apply ex_bldA0_at; exact rfl; with_reducible rfl) | (go_simp; try with_reducible rfl)
            try simp only [List.getElem_toArray, List.getElem_cons_zero, List.getElem_cons_succ, Act.put, List.setIfInBounds_toArray, List.set_cons_zero, List.set_cons_succ]
            refine wpAnyS_take (v := ?_) hA rfl (fun _ _ _ h => h) (Or.inl ⟨by rfl, ?_⟩) hF (fun hA => ?_)
            rotate_left
            · intro wS hSw; (try dsimp only at hSw); obtain ⟨s1, s2, s3, s4⟩ := hSw; first | (apply Eq.trans; apply ex_ld_id; exact rfl; exact rfl; assumption; with_reducible rfl) | (apply Eq.trans; apply ex_ld_arr; exact rfl; exact rfl; assumption; with_reducible rfl) | (apply Eq.trans; apply ex_bldA0_at; exact rfl; with_reducible rfl) | (go_simp; try with_reducible rfl)
            try simp only [List.getElem_toArray, List.getElem_cons_zero, List.getElem_cons_succ, Act.put, List.setIfInBounds_toArray, List.set_cons_zero, List.set_cons_succ]
            refine wpAnyS_take (v := ?_) hA rfl (fun _ _ _ h => h) (Or.inl ⟨by rfl, ?_⟩) hF (fun hA => ?_)
            rotate_left
            · intro wS hSw; (try dsimp only at hSw); obtain ⟨s1, s2, s3, s4⟩ := hSw; first | (apply Eq.trans; apply ex_ld_id; exact rfl; exact rfl; assumption; with_reducible rfl) | (apply Eq.trans; apply ex_ld_arr; exact rfl; exact rfl; assumption; with_reducible rfl) | (apply Eq.trans; apply ex_bldA0_at; exact rfl; with_reducible rfl) | (go_simp; try with_reducible rfl)
            try simp only [List.getElem_toArray, List.getElem_cons_zero, List.getElem_cons_succ, Act.put, List.setIfInBounds_toArray, List.set_cons_zero, List.set_cons_succ]
            refine wpAnyS_take (v := ?_) hA rfl (fun _ _ _ h => h) (Or.inl ⟨by rfl, ?_⟩) hF (fun hA => ?_)
            rotate_left
            · intro wS hSw; (try dsimp only at hSw); obtain ⟨s1, s2, s3, s4⟩ := hSw; first | (apply Eq.trans; apply ex_ld_id; exact rfl; exact rfl; assumption; with_reducible rfl) | (apply Eq.trans; apply ex_ld_arr; exact rfl; exact rfl; assumption; with_reducible rfl) | (apply Eq.trans; apply ex_bldA0_at; exact rfl; with_reducible rfl) | (go_simp; try with_reducible rfl)
            try simp only [List.getElem_toArray, List.getElem_cons_zero, List.getElem_cons_succ, Act.put, List.setIfInBounds_toArray, List.set_cons_zero, List.set_cons_succ]
            refine wpAnyS_take (v := ?_) hA rfl (fun _ _ _ h => h) (Or.inl ⟨by rfl, ?_⟩) hF (fun hA => ?_)
            rotate_left
            · intro wS hSw; (try dsimp only at hSw); obtain ⟨s1, s2, s3, s4⟩ := hSw; first | (apply Eq.trans; apply ex_ld_id; exact rfl; exact rfl; assumption; with_reducible rfl) | (apply Eq.trans; apply ex_ld_arr; exact rfl; exact rfl; assumption; with_reducible rfl) | (apply Eq.trans; apply ex_bldA0_at; exact rfl; with_reducible rfl) | (go_simp; try with_reducible rfl)
            try simp only [List.getElem_toArray, List.getElem_cons_zero, List.getElem_cons_succ, Act.put, List.setIfInBounds_toArray, List.set_cons_zero, List.set_cons_succ]
            refine wpAnyS_take (v := ?_) hA rfl (fun _ _ _ h => h) (Or.inl ⟨by rfl, ?_⟩) hF (fun hA => ?_)
            rotate_left
            · intro wS hSw; (try dsimp only at hSw); obtain ⟨s1, s2, s3, s4⟩ := hSw; first | (apply Eq.trans; apply ex_ld_id; exact rfl; exact rfl; assumption; with_reducible rfl) | (apply Eq.trans; apply ex_ld_arr; exact rfl; exact rfl; assumption; with_reducible rfl) | (apply Eq.trans; apply ex_bldA0_at; exact rfl; with_reducible rfl) | (go_simp; try with_reducible rfl)
            try simp only [List.getElem_toArray, List.getElem_cons_zero, List.getElem_cons_succ, Act.put, List.setIfInBounds_toArray, List.set_cons_zero, List.set_cons_succ]
            refine wpAnyS_take (v := ?_) hA rfl (fun _ _ _ h => h) (Or.inl ⟨by rfl, ?_⟩) hF (fun hA => ?_)
            rotate_left
            · intro wS hSw; (try dsimp only at hSw); obtain ⟨s1, s2, s3, s4⟩ := hSw; first | (apply Eq.trans; apply ex_ld_id; exact rfl; exact rfl; assumption; with_reducible rfl) | (apply Eq.trans; apply ex_ld_arr; exact rfl; exact rfl; assumption; with_reducible rfl) | (apply Eq.trans; apply ex_bldA0_at; exact rfl; with_reducible rfl) | (go_simp; try with_reducible rfl)
            try simp only [List.getElem_toArray, List.getElem_cons_zero, List.getElem_cons_succ, Act.put, List.setIfInBounds_toArray, List.set_cons_zero, List.set_cons_succ]
            refine wpAnyS_take (v := ?_) hA rfl (fun _ _ _ h => h) (Or.inl ⟨by rfl, ?_⟩) hF (fun hA => ?_)
            rotate_left
            · intro wS hSw; (try dsimp only at hSw); obtain ⟨s1, s2, s3, s4⟩ := hSw; first | (apply Eq.trans; apply ex_ld_id; exact rfl; exact rfl; assumption; with_reducible rfl) | (apply Eq.trans; apply ex_ld_arr; exact rfl; exact rfl; assumption; with_reducible rfl) | (apply Eq.trans; apply ex_bldA0_at; exact rfl; with_reducible rfl) | (go_simp; try with_reducible rfl)
            try simp only [List.getElem_toArray, List.getElem_cons_zero, List.getElem_cons_succ, Act.put, List.setIfInBounds_toArray, List.set_cons_zero, List.set_cons_succ]
            refine wpAnyS_take (v := ?_) hA rfl (fun _ _ _ h => h) (Or.inl ⟨by rfl, ?_⟩) hF (fun hA => ?_)
            rotate_left
            · intro wS hSw; (try dsimp only at hSw); obtain ⟨s1, s2, s3, s4⟩ := hSw; first | (apply Eq.trans; apply ex_ld_id; exact rfl; exact rfl; assumption; with_reducible rfl) | (apply Eq.trans; apply ex_ld_arr; exact rfl; exact rfl; assumption; with_reducible rfl) | (apply Eq.trans; apply ex_bldA0_at; exact rfl; with_reducible rfl) | (go_simp; try with_reducible rfl)
            try simp only [List.getElem_toArray, List.getElem_cons_zero, List.getElem_cons_succ, Act.put, List.setIfInBounds_toArray, List.set_cons_zero, List.set_cons_succ]
            refine wpAnyS_take (v := ?_) hA rfl (fun _ _ _ h => h) (Or.inl ⟨by rfl, ?_⟩) hF (fun hA => ?_)
            rotate_left
            · intro wS hSw; (try dsimp only at hSw); obtain ⟨s1, s2, s3, s4⟩ := hSw; first | (apply Eq.trans; apply ex_ld_id; exact rfl; exact rfl; assumption; with_reducible rfl) | (apply Eq.trans; apply ex_ld_arr; exact rfl; exact rfl; assumption; with_reducible rfl) | (apply Eq.trans; apply ex_bldA0_at; exact rfl; with_reducible rfl) | (go_simp; try with_reducible rfl)
            try simp only [List.getElem_toArray, List.getElem_cons_zero, List.getElem_cons_succ, Act.put, List.setIfInBounds_toArray, List.set_cons_zero, List.set_cons_succ]
            refine wpAnyS_take (v := ?_) hA rfl (fun _ _ _ h => h) (Or.inl ⟨by rfl, ?_⟩) hF (fun hA => ?_)
            rotate_left
            · intro wS hSw; (try dsimp only at hSw); obtain ⟨s1, s2, s3, s4⟩ := hSw; first | (apply Eq.trans; apply ex_ld_id; exact rfl; exact rfl; assumption; with_reducible rfl) | (apply Eq.trans; apply ex_ld_arr; exact rfl; exact rfl; assumption; with_reducible rfl) | (apply Eq.trans; apply ex_bldA0_at; exact rfl; with_reducible rfl) | (go_simp; try with_reducible rfl)
            try simp only [List.getElem_toArray, List.getElem_cons_zero, List.getElem_cons_succ, Act.put, List.setIfInBounds_toArray, List.set_cons_zero, List.set_cons_succ]
            refine wpAnyS_take (v := ?_) hA rfl (fun _ _ _ h => h) (Or.inl ⟨by rfl, ?_⟩) hF (fun hA => ?_)
            rotate_left
            · intro wS hSw; (try dsimp only at hSw); obtain ⟨s1, s2, s3, s4⟩ := hSw; first | (apply Eq.trans; apply ex_ld_id; exact rfl; exact rfl; assumption; with_reducible rfl) | (apply Eq.trans; apply ex_ld_arr; exact rfl; exact rfl; assumption; with_reducible rfl) | (apply Eq.trans; apply ex_bldA0_at; exact rfl; with_reducible rfl) | (go_simp; try with_reducible rfl)
            try simp only [List.getElem_toArray, List.getElem_cons_zero, List.getElem_cons_succ, Act.put, List.setIfInBounds_toArray, List.set_cons_zero, List.set_cons_succ]
            refine wpAnyS_take (v := ?_) hA rfl (fun _ _ _ h => h) (Or.inl ⟨by rfl, ?_⟩) hF (fun hA => ?_)
            rotate_left
            · intro wS hSw; (try dsimp only at hSw); obtain ⟨s1, s2, s3, s4⟩ := hSw; first | (apply Eq.trans; apply ex_ld_id; exact rfl; exact rfl; assumption; with_reducible rfl) | (apply Eq.trans; apply ex_ld_arr; exact rfl; exact rfl; assumption; with_reducible rfl) | (apply Eq.trans; apply ex_bldA0_at; exact rfl; with_reducible rfl) | (go_simp; try with_reducible rfl)
            try simp only [List.getElem_toArray, List.getElem_cons_zero, List.getElem_cons_succ, Act.put, List.setIfInBounds_toArray, List.set_cons_zero, List.set_cons_succ]
            refine wpAnyS_take (v := ?_) hA rfl (fun _ _ _ h => h) (Or.inl ⟨by rfl, ?_⟩) hF (fun hA => ?_)
            rotate_left
            · intro wS hSw; (try dsimp only at hSw); obtain ⟨s1, s2, s3, s4⟩ := hSw; first | (apply Eq.trans; apply ex_ld_id; exact rfl; exact rfl; assumption; with_reducible rfl) | (apply Eq.trans; apply ex_ld_arr; exact rfl; exact rfl; assumption; with_reducible rfl) | (apply Eq.trans; apply ex_bldA0_at; exact rfl; with_reducible rfl) | (go_simp; try with_reducible rfl)
            try simp only [List.getElem_toArray, List.getElem_cons_zero, List.getElem_cons_succ, Act.put, List.setIfInBounds_toArray, List.set_cons_zero, List.set_cons_succ]
            refine wpAnyS_take (v := ?_) hA rfl (fun _ _ _ h => h) (Or.inl ⟨by rfl, ?_⟩) hF (fun hA => ?_)
            rotate_left
            · intro wS hSw; (try dsimp only at hSw); obtain ⟨s1, s2, s3, s4⟩ := hSw; first | (apply Eq.trans; apply ex_ld_id; exact rfl; exact rfl; assumption; with_reducible rfl) | (apply Eq.trans; apply ex_ld_arr; exact rfl; exact rfl; assumption; with_reducible rfl) | (apply Eq.trans; apply ex_bldA0_at; exact rfl; with_reducible rfl) | (go_simp; try with_reducible rfl)
            try simp only [List.getElem_toArray, List.getElem_cons_zero, List.getElem_cons_succ, Act.put, List.setIfInBounds_toArray, List.set_cons_zero, List.set_cons_succ]
            refine wpAnyS_take (v := ?_) hA rfl (fun _ _ _ h => h) (Or.inl ⟨by rfl, ?_⟩) hF (fun hA => ?_)
            rotate_left
            · intro wS hSw; (try dsimp only at hSw); obtain ⟨s1, s2, s3, s4⟩ := hSw; first | (apply Eq.trans; apply ex_ld_id; exact rfl; exact rfl; assumption; with_reducible rfl) | (apply Eq.trans; apply ex_ld_arr; exact rfl; exact rfl; assumption; with_reducible rfl) | (apply Eq.trans; apply ex_bldA0_at; exact rfl; with_reducible rfl) | (go_simp; try with_reducible rfl)
            try simp only [List.getElem_toArray, List.getElem_cons_zero, List.getElem_cons_succ, Act.put, List.setIfInBounds_toArray, List.set_cons_zero, List.set_cons_succ]
            refine wpAnyS_take (v := ?_) hA rfl (fun _ _ _ h => h) (Or.inl ⟨by rfl, ?_⟩) hF (fun hA => ?_)
            rotate_left
            · intro wS hSw; (try dsimp only at hSw); obtain ⟨s1, s2, s3, s4⟩ := hSw; first | (apply Eq.trans; apply ex_ld_id; exact rfl; exact rfl; assumption; with_reducible rfl) | (apply Eq.trans; apply ex_ld_arr; exact rfl; exact rfl; assumption; with_reducible rfl) | (apply Eq.trans; apply ex_bldA0_at; exact rfl; with_reducible rfl) | (go_simp; try with_reducible rfl)
            try simp only [List.getElem_toArray, List.getElem_cons_zero, List.getElem_cons_succ, Act.put, List.setIfInBounds_toArray, List.set_cons_zero, List.set_cons_succ]
            refine wpAnyS_take (v := ?_) hA rfl (fun _ _ _ h => h) (Or.inl ⟨by rfl, ?_⟩) hF (fun hA => ?_)
            rotate_left
            · intro wS hSw; (try dsimp only at hSw); obtain ⟨s1, s2, s3, s4⟩ := hSw; first | (apply Eq.trans; apply ex_ld_id; exact rfl; exact rfl; assumption; with_reducible rfl) | (apply Eq.trans; apply ex_ld_arr; exact rfl; exact rfl; assumption; with_reducible rfl) | (apply Eq.trans; apply ex_bldA0_at; exact rfl; with_reducible rfl) | (go_simp; try with_reducible rfl)
            try simp only [List.getElem_toArray, List.getElem_cons_zero, List.getElem_cons_succ, Act.put, List.setIfInBounds_toArray, List.set_cons_zero, List.set_cons_succ]
            refine wpAnyS_take (v := ?_) hA rfl (fun _ _ _ h => h) (Or.inl ⟨by rfl, ?_⟩) hF (fun hA => ?_)
            rotate_left
            · intro wS hSw; (try dsimp only at hSw); obtain ⟨s1, s2, s3, s4⟩ := hSw; first | (apply Eq.trans; apply ex_ld_id; exact rfl; exact rfl; assumption; with_reducible rfl) | (apply Eq.trans; apply ex_ld_arr; exact rfl; exact rfl; assumption; with_reducible rfl) | (apply Eq.trans; apply ex_bldA0_at; exact rfl; with_reducible rfl) | (go_simp; try with_reducible rfl)
            try simp only [List.getElem_toArray, List.getElem_cons_zero, List.getElem_cons_succ, Act.put, List.setIfInBounds_toArray, List.set_cons_zero, List.set_cons_succ]
            refine wpAnyS_take (v := ?_) hA rfl (fun _ _ _ h => h) (Or.inl ⟨by rfl, ?_⟩) hF (fun hA => ?_)
            rotate_left
            · intro wS hSw; (try dsimp only at hSw); obtain ⟨s1, s2, s3, s4⟩ := hSw; first | (apply Eq.trans; apply ex_ld_id; exact rfl; exact rfl; assumption; with_reducible rfl) | (apply Eq.trans; apply ex_ld_arr; exact rfl; exact rfl; assumption; with_reducible rfl) | (apply Eq.trans; apply ex_bldA0_at; exact rfl; with_reducible rfl) | (go_simp; try with_reducible rfl)
            try simp only [List.getElem_toArray, List.getElem_cons_zero, List.getElem_cons_succ, Act.put, List.setIfInBounds_toArray, List.set_cons_zero, List.set_cons_succ]
            refine wpAnyS_take (v := ?_) hA rfl (fun _ _ _ h => h) (Or.inl ⟨by rfl, ?_⟩) hF (fun hA => ?_)
            rotate_left
            · intro wS hSw; (try dsimp only at hSw); obtain ⟨s1, s2, s3, s4⟩ := hSw; first | (apply Eq.trans; apply ex_ld_id; exact rfl; exact rfl; assumption; with_reducible rfl) | (apply Eq.trans; apply ex_ld_arr; exact rfl; exact rfl; assumption; with_reducible rfl) | (apply Eq.trans; apply ex_bldA0_at; exact rfl; with_reducible rfl) | (go_simp; try with_reducible rfl)
            try simp only [List.getElem_toArray, List.getElem_cons_zero, List.getElem_cons_succ, Act.put, List.setIfInBounds_toArray, List.set_cons_zero, List.set_cons_succ]
            refine wpAnyS_take (v := ?_) hA rfl (fun _ _ _ h => h) (Or.inl ⟨by rfl, ?_⟩) hF (fun hA => ?_)
            rotate_left
            · intro wS hSw; (try dsimp only at hSw); obtain ⟨s1, s2, s3, s4⟩ := hSw; first | (apply Eq.trans; apply ex_ld_id; exact rfl; exact rfl; assumption; with_reducible rfl) | (apply Eq.trans; apply ex_ld_arr; exact rfl; exact rfl; assumption; with_reducible rfl) | (apply Eq.trans; apply ex_bldA0_at; exact rfl; with_reducible rfl) | (go_simp; try with_reducible rfl)
            try simp only [List.getElem_toArray, List.getElem_cons_zero, List.getElem_cons_succ, Act.put, List.setIfInBounds_toArray, List.set_cons_zero, List.set_cons_succ]
            refine wpAnyS_take (v := ?_) hA rfl (fun _ _ _ h => h) (Or.inl ⟨by rfl, ?_⟩) hF (fun hA => ?_)
            rotate_left
            · intro wS hSw; (try dsimp only at hSw); obtain ⟨s1, s2, s3, s4⟩ := hSw; first | (apply Eq.trans; apply ex_ld_id; exact rfl; exact rfl; assumption; with_reducible rfl) | (apply Eq.trans; apply ex_ld_arr; exact rfl; exact rfl; assumption; with_reducible rfl) | (apply Eq.trans; apply ex_bldA0_at; exact rfl; with_reducible rfl) | (go_simp; try with_reducible rfl)
            try simp only [List.getElem_toArray, List.getElem_cons_zero, List.getElem_cons_succ, Act.put, List.setIfInBounds_toArray, List.set_cons_zero, List.set_cons_succ]
            refine wpAnyS_one hA rfl (fun K' hK => ?_)
            rw [if_pos (by rfl)]
            go_simp
            go_at_call 29
            refine (rcmp_any _ p q).mono ?_
            rintro e u1 ⟨rfl, hu1⟩
            replace hF := keep _ _ hu1 hF
            refine hK.out _ _ hF (fun hA => ?_)
            clear hK K'
            as_aux_lemma =>
            rw [HC.out]
            refine wpAnyS_take (v := ?_) hA rfl (fun _ _ _ h => h) (Or.inl ⟨by rfl, ?_⟩) hF (fun hA => ?_)
            rotate_left
            · intro wS hSw; (try dsimp only at hSw); obtain ⟨s1, s2, s3, s4⟩ := hSw; first | (apply Eq.trans; apply ex_ld_id; exact rfl; exact rfl; assumption; with_reducible rfl) | (apply Eq.trans; apply ex_ld_arr; exact rfl; exact rfl; assumption; with_reducible rfl) | (apply Eq.trans; apply ex_bldA0_at; exact rfl; with_reducible rfl) | (go_simp; try with_reducible rfl)
            try simp only [List.getElem_toArray, List.getElem_cons_zero, List.getElem_cons_succ, Act.put, List.setIfInBounds_toArray, List.set_cons_zero, List.set_cons_succ]
            refine wpAnyS_take (v := ?_) hA rfl (fun _ _ _ h => h) (Or.inl ⟨by rfl, ?_⟩) hF (fun hA => ?_)
            rotate_left
            · intro wS hSw; (try dsimp only at hSw); obtain ⟨s1, s2, s3, s4⟩ := hSw; first | (apply Eq.trans; apply ex_ld_id; exact rfl; exact rfl; assumption; with_reducible rfl) | (apply Eq.trans; apply ex_ld_arr; exact rfl; exact rfl; assumption; with_reducible rfl) | (apply Eq.trans; apply ex_bldA0_at; exact rfl; with_reducible rfl) | (go_simp; try with_reducible rfl)
            try simp only [List.getElem_toArray, List.getElem_cons_zero, List.getElem_cons_succ, Act.put, List.setIfInBounds_toArray, List.set_cons_zero, List.set_cons_succ]
            refine wpAnyS_end hA rfl ?_
            simp only [List.drop_succ_cons, List.drop_zero]
            clear hF
            go_wp2_with fail
            go_meet
            case rel => exact ⟨by rw [HER.out]; rfl, (Fr.refl noB w1).drew.step0 hu1⟩
          · have hc : cmpI p q = 1 := hc
            have er := rightL_two' x p q (by omega)
            have HER := Lib.hid er
            have HC := Lib.hid hc
            clear er hc
            go_wp2_with fail
            refine wp_region_M 27 28 [⟨2048, 8, 0⟩, ⟨4096, 2048, 1⟩, ⟨8192, 0, 0⟩, ⟨16384, 12288, 6⟩, ⟨32768, 16384, 8⟩, ⟨65536, 32776, 16⟩, ⟨131072, 98304, 48⟩, ⟨262144, 163840, 80⟩, ⟨524288, 294912, 144⟩, ⟨1048576, 557056, 272⟩, ⟨2097152, 1048576, 528⟩, ⟨4194304, 2097160, 1024⟩, ⟨8388608, 6291456, 3072⟩, ⟨16777216, 10485760, 5120⟩, ⟨33554432, 18874368, 9216⟩, ⟨67108864, 35651584, 17408⟩, ⟨134217728, 67108872, 32768⟩, ⟨268435456, 201326592, 98304⟩, ⟨536870912, 335544320, 163840⟩, ⟨1073741824, 603979776, 294912⟩, ⟨2147483648, 67108872, 32768⟩, ⟨4294967296, 2214592512, 1081344⟩, ⟨8589934592, 4362076160, 2129920⟩, ⟨17179869184, 8657043456, 4227072⟩, ⟨34359738368, 18320719872, 8945664⟩, ⟨68719476736, 34426847232, 16809984⟩, ⟨137438953472, 68788682752, 33588224⟩, ⟨274877906944, 137441050624, 67109888⟩] [(true, 0), (true, 1), (true, 2), (true, 3), (true, 4), (true, 5), (true, 6), (true, 7), (true, 8), (true, 9), (true, 10), (true, 11), (true, 12), (true, 13), (true, 14), (true, 15), (true, 16), (true, 17), (true, 18), (true, 19), (true, 20), (true, 21), (true, 22), (true, 23), (false, 24), (true, 25), (true, 26)] (fun w' => rdI w' B 0 = some x ∧ w'.cell? ⟨B, 32, none⟩ = some (.slice (some ⟨gP, oP, none⟩) 2 cP) ∧ rdI w' gP oP = some p ∧ rdI w' gP (oP + 32) = some q) (by kernel_rfl) rfl (by kernel_rfl) (by kernel_rfl) (by kernel_rfl) F1 (fun hA hF => ?_)
            refine wpAnyS_take (v := ?_) hA rfl (fun _ _ _ h => h) (Or.inl ⟨by rfl, ?_⟩) hF (fun hA => ?_)
            rotate_left
            · intro wS hSw; (try dsimp only at hSw); obtain ⟨s1, s2, s3, s4⟩ := hSw; first | (apply Eq.trans; apply ex_ld_id; exact rfl; exact rfl; assumption; with_reducible rfl) | (apply Eq.trans; apply ex_ld_arr; exact rfl; exact rfl; assumption; with_reducible rfl) | (apply Eq.trans; apply ex_bldA0_at; exact rfl; with_reducible rfl) | (go_simp; try with_reducible rfl)
            try simp only [List.getElem_toArray, List.getElem_cons_zero, List.getElem_cons_succ, Act.put, List.setIfInBounds_toArray, List.set_cons_zero, List.set_cons_succ]
            refine wpAnyS_take (v := ?_) hA rfl (fun _ _ _ h => h) (Or.inl ⟨by rfl, ?_⟩) hF (fun hA => ?_)
            rotate_left
            · intro wS hSw; (try dsimp only at hSw); obtain ⟨s1, s2, s3, s4⟩ := hSw; first | (apply Eq.trans; apply ex_ld_id; exact rfl; exact rfl; assumption; with_reducible rfl) | (apply Eq.trans; apply ex_ld_arr; exact rfl; exact rfl; assumption; with_reducible rfl) | (apply Eq.trans; apply ex_bldA0_at; exact rfl; with_reducible rfl) | (go_simp; try with_reducible rfl)
            try simp only [List.getElem_toArray, List.getElem_cons_zero, List.getElem_cons_succ, Act.put, List.setIfInBounds_toArray, List.set_cons_zero, List.set_cons_succ]
            refine wpAnyS_take (v := ?_) hA rfl (fun _ _ _ h => h) (Or.inl ⟨by rfl, ?_⟩) hF (fun hA => ?_)
            rotate_left
            · intro wS hSw; (try dsimp only at hSw); obtain ⟨s1, s2, s3, s4⟩ := hSw; first | (apply Eq.trans; apply ex_ld_id; exact rfl; exact rfl; assumption; with_reducible rfl) | (apply Eq.trans; apply ex_ld_arr; exact rfl; exact rfl; assumption; with_reducible rfl) | (apply Eq.trans; apply ex_bldA0_at; exact rfl; with_reducible rfl) | (go_simp; try with_reducible rfl)
            try simp only [List.getElem_toArray, List.getElem_cons_zero, List.getElem_cons_succ, Act.put, List.setIfInBounds_toArray, List.set_cons_zero, List.set_cons_succ]
            refine wpAnyS_take (v := ?_) hA rfl (fun _ _ _ h => h) (Or.inl ⟨by rfl, ?_⟩) hF (fun hA => ?_)
            rotate_left
            · intro wS hSw; (try dsimp only at hSw); obtain ⟨s1, s2, s3, s4⟩ := hSw; first | (apply Eq.trans; apply ex_ld_id; exact rfl; exact rfl; assumption; with_reducible rfl) | (apply Eq.trans; apply ex_ld_arr; exact rfl; exact rfl; assumption; with_reducible rfl) | (apply Eq.trans; apply ex_bldA0_at; exact rfl; with_reducible rfl) | (go_simp; try with_reducible rfl)
            try simp only [List.getElem_toArray, List.getElem_cons_zero, List.getElem_cons_succ, Act.put, List.setIfInBounds_toArray, List.set_cons_zero, List.set_cons_succ]
            refine wpAnyS_take (v := ?_) hA rfl (fun _ _ _ h => h) (Or.inl ⟨by rfl, ?_⟩) hF (fun hA => ?_)
            rotate_left
            · intro wS hSw; (try dsimp only at hSw); obtain ⟨s1, s2, s3, s4⟩ := hSw; first | (apply Eq.trans; apply ex_ld_id; exact rfl; exact rfl; assumption; with_reducible rfl) | (apply Eq.trans; apply ex_ld_arr; exact rfl; exact rfl; assumption; with_reducible rfl) | (apply Eq.trans; apply ex_bldA0_at; exact rfl; with_reducible rfl) | (go_simp; try with_reducible rfl)
            try simp only [List.getElem_toArray, List.getElem_cons_zero, List.getElem_cons_succ, Act.put, List.setIfInBounds_toArray, List.set_cons_zero, List.set_cons_succ]
            refine wpAnyS_take (v := ?_) hA rfl (fun _ _ _ h => h) (Or.inl ⟨by rfl, ?_⟩) hF (fun hA => ?_)
            rotate_left
            · intro wS hSw; (try dsimp only at hSw); obtain ⟨s1, s2, s3, s4⟩ := hSw; first | (apply Eq.trans; apply ex_ld_id; exact rfl; exact rfl; assumption; with_reducible rfl) | (apply Eq.trans; apply ex_ld_arr; exact rfl; exact rfl; assumption; with_reducible rfl) | (apply Eq.trans; apply ex_bldA0_at; exact rfl; with_reducible rfl) | (go_simp; try with_reducible rfl)
            try simp only [List.getElem_toArray, List.getElem_cons_zero, List.getElem_cons_succ, Act.put, List.setIfInBounds_toArray, List.set_cons_zero, List.set_cons_succ]
            refine wpAnyS_take (v := ?_) hA rfl (fun _ _ _ h => h) (Or.inl ⟨by rfl, ?_⟩) hF (fun hA => ?_)
            rotate_left
            · intro wS hSw; (try dsimp only at hSw); obtain ⟨s1, s2, s3, s4⟩ := hSw; first | (apply Eq.trans; apply ex_ld_id; exact rfl; exact rfl; assumption; with_reducible rfl) | (apply Eq.trans; apply ex_ld_arr; exact rfl; exact rfl; assumption; with_reducible rfl) | (apply Eq.trans; apply ex_bldA0_at; exact rfl; with_reducible rfl) | (go_simp; try with_reducible rfl)
            try simp only [List.getElem_toArray, List.getElem_cons_zero, List.getElem_cons_succ, Act.put, List.setIfInBounds_toArray, List.set_cons_zero, List.set_cons_succ]
            refine wpAnyS_take (v := ?_) hA rfl (fun _ _ _ h => h) (Or.inl ⟨by rfl, ?_⟩) hF (fun hA => ?_)
            rotate_left
            · intro wS hSw; (try dsimp only at hSw); obtain ⟨s1, s2, s3, s4⟩ := hSw; first | (apply Eq.trans; apply ex_ld_id; exact rfl; exact rfl; assumption; with_reducible rfl) | (apply Eq.trans; apply ex_ld_arr; exact rfl; exact rfl; assumption; with_reducible rfl) | (apply Eq.trans; apply ex_bldA0_at; exact rfl; with_reducible rfl) | (go_simp; try with_reducible rfl)
            try simp only [List.getElem_toArray, List.getElem_cons_zero, List.getElem_cons_succ, Act.put, List.setIfInBounds_toArray, List.set_cons_zero, List.set_cons_succ]
            refine wpAnyS_take (v := ?_) hA rfl (fun _ _ _ h => h) (Or.inl ⟨by rfl, ?_⟩) hF (fun hA => ?_)
            rotate_left
            · intro wS hSw; (try dsimp only at hSw); obtain ⟨s1, s2, s3, s4⟩ := hSw; first | (apply Eq.trans; apply ex_ld_id; exact rfl; exact rfl; assumption; with_reducible rfl) | (apply Eq.trans; apply ex_ld_arr; exact rfl; exact rfl; assumption; with_reducible rfl) | (apply Eq.trans; apply ex_bldA0_at; exact rfl; with_reducible rfl) | (go_simp; try with_reducible rfl)
            try simp only [List.getElem_toArray, List.getElem_cons_zero, List.getElem_cons_succ, Act.put, List.setIfInBounds_toArray, List.set_cons_zero, List.set_cons_succ]
            refine wpAnyS_take (v := ?_) hA rfl (fun _ _ _ h => h) (Or.inl ⟨by rfl, ?_⟩) hF (fun hA => ?_)
            rotate_left
            · intro wS hSw; (try dsimp only at hSw); obtain ⟨s1, s2, s3, s4⟩ := hSw; first | (apply Eq.trans; apply ex_ld_id; exact rfl; exact rfl; assumption; with_reducible rfl) | (apply Eq.trans; apply ex_ld_arr; exact rfl; exact rfl; assumption; with_reducible rfl) | (apply Eq.trans; apply ex_bldA0_at; exact rfl; with_reducible rfl) | (go_simp; try with_reducible rfl)
            try simp only [List.getElem_toArray, List.getElem_cons_zero, List.getElem_cons_succ, Act.put, List.setIfInBounds_toArray, List.set_cons_zero, List.set_cons_succ]
            refine wpAnyS_take (v := ?_) hA rfl (fun _ _ _ h => h) (Or.inl ⟨by rfl, ?_⟩) hF (fun hA => ?_)
            rotate_left
            · intro wS hSw; (try dsimp only at hSw); obtain ⟨s1, s2, s3, s4⟩ := hSw; first | (apply Eq.trans; apply ex_ld_id; exact rfl; exact rfl; assumption; with_reducible rfl) | (apply Eq.trans; apply ex_ld_arr; exact rfl; exact rfl; assumption; with_reducible rfl) | (apply Eq.trans; apply ex_bldA0_at; exact rfl; with_reducible rfl) | (go_simp; try with_reducible rfl)
            try simp only [List.getElem_toArray, List.getElem_cons_zero, List.getElem_cons_succ, Act.put, List.setIfInBounds_toArray, List.set_cons_zero, List.set_cons_succ]
            refine wpAnyS_take (v := ?_) hA rfl (fun _ _ _ h => h) (Or.inl ⟨by rfl, ?_⟩) hF (fun hA => ?_)
            rotate_left
            · intro wS hSw; (try dsimp only at hSw); obtain ⟨s1, s2, s3, s4⟩ := hSw; first | (apply Eq.trans; apply ex_ld_id; exact rfl; exact rfl; assumption; with_reducible rfl) | (apply Eq.trans; apply ex_ld_arr; exact rfl; exact rfl; assumption; with_reducible rfl) | (apply Eq.trans; apply ex_bldA0_at; exact rfl; with_reducible rfl) | (go_simp; try with_reducible rfl)
            try simp only [List.getElem_toArray, List.getElem_cons_zero, List.getElem_cons_succ, Act.put, List.setIfInBounds_toArray, List.set_cons_zero, List.set_cons_succ]
            refine wpAnyS_take (v := ?_) hA rfl (fun _ _ _ h => h) (Or.inl ⟨by rfl, ?_⟩) hF (fun hA => ?_)
            rotate_left
            · intro wS hSw; (try dsimp only at hSw); obtain ⟨s1, s2, s3, s4⟩ := hSw; first | (apply Eq.trans; apply ex_ld_id; exact rfl; exact rfl; assumption; with_reducible rfl) | (apply Eq.trans; apply ex_ld_arr; exact rfl; exact rfl; assumption; with_reducible rfl) | (apply Eq.trans; apply ex_bldA0_at; exact rfl; with_reducible rfl) | (go_simp; try with_reducible rfl)
            try simp only [List.getElem_toArray, List.getElem_cons_zero, List.getElem_cons_succ, Act.put, List.setIfInBounds_toArray, List.set_cons_zero, List.set_cons_succ]
            refine wpAnyS_take (v := ?_) hA rfl (fun _ _ _ h => h) (Or.inl ⟨by rfl, ?_⟩) hF (fun hA => ?_)
            rotate_left
            · intro wS hSw; (try dsimp only at hSw); obtain ⟨s1, s2, s3, s4⟩ := hSw; first | (apply Eq.trans; apply ex_ld_id; exact rfl; exact rfl; assumption; with_reducible rfl) | (apply Eq.trans; apply ex_ld_arr; exact rfl; exact rfl; assumption; with_reducible rfl) | (apply Eq.trans; apply ex_bldA0_at; exact rfl; with_reducible rfl) | (go_simp; try with_reducible rfl)
            try simp only [List.getElem_toArray, List.getElem_cons_zero, List.getElem_cons_succ, Act.put, List.setIfInBounds_toArray, List.set_cons_zero, List.set_cons_succ]
            refine wpAnyS_take (v := ?_) hA rfl (fun _ _ _ h => h) (Or.inl ⟨by rfl, ?_⟩) hF (fun hA => ?_)
            rotate_left
            · intro wS hSw; (try dsimp only at hSw); obtain ⟨s1, s2, s3, s4⟩ := hSw; first | (apply Eq.trans; apply ex_ld_id; exact rfl; exact rfl; assumption; with_reducible rfl) | (apply Eq.trans; apply ex_ld_arr; exact rfl; exact rfl; assumption; with_reducible rfl) | (apply Eq.trans; apply ex_bldA0_at; exact rfl; with_reducible rfl) | (go_simp; try with_reducible rfl)
            try simp only [List.getElem_toArray, List.getElem_cons_zero, List.getElem_cons_succ, Act.put, List.setIfInBounds_toArray, List.set_cons_zero, List.set_cons_succ]
            refine wpAnyS_take (v := ?_) hA rfl (fun _ _ _ h => h) (Or.inl ⟨by rfl, ?_⟩) hF (fun hA => ?_)
            rotate_left
            · intro wS hSw; (try dsimp only at hSw); obtain ⟨s1, s2, s3, s4⟩ := hSw; first | (apply Eq.trans; apply ex_ld_id; exact rfl; exact rfl; assumption; with_reducible rfl) | (apply Eq.trans; apply ex_ld_arr; exact rfl; exact rfl; assumption; with_reducible rfl) | (apply Eq.trans; apply ex_bldA0_at; exact rfl; with_reducible rfl) | (go_simp; try with_reducible rfl)
            try simp only [List.getElem_toArray, List.getElem_cons_zero, List.getElem_cons_succ, Act.put, List.setIfInBounds_toArray, List.set_cons_zero, List.set_cons_succ]
            refine wpAnyS_take (v := ?_) hA rfl (fun _ _ _ h => h) (Or.inl ⟨by rfl, ?_⟩) hF (fun hA => ?_)
            rotate_left
            · intro wS hSw; (try dsimp only at hSw); obtain ⟨s1, s2, s3, s4⟩ := hSw; first | (apply Eq.trans; apply ex_ld_id; exact rfl; exact rfl; assumption; with_reducible rfl) | (apply Eq.trans; apply ex_ld_arr; exact rfl; exact rfl; assumption; with_reducible rfl) | (apply Eq.trans; apply ex_bldA0_at; exact rfl; with_reducible rfl) | (go_simp; try with_reducible rfl)
            try simp only [List.getElem_toArray, List.getElem_cons_zero, List.getElem_cons_succ, Act.put, List.setIfInBounds_toArray, List.set_cons_zero, List.set_cons_succ]
            refine wpAnyS_take (v := ?_) hA rfl (fun _ _ _ h => h) (Or.inl ⟨by rfl, ?_⟩) hF (fun hA => ?_)
            rotate_left
            · intro wS hSw; (try dsimp only at hSw); obtain ⟨s1, s2, s3, s4⟩ := hSw; first | (apply Eq.trans; apply ex_ld_id; exact rfl; exact rfl; assumption; with_reducible rfl) | (apply Eq.trans; apply ex_ld_arr; exact rfl; exact rfl; assumption; with_reducible rfl) | (apply Eq.trans; apply ex_bldA0_at; exact rfl; with_reducible rfl) | (go_simp; try with_reducible rfl)
            try simp only [List.getElem_toArray, List.getElem_cons_zero, List.getElem_cons_succ, Act.put, List.setIfInBounds_toArray, List.set_cons_zero, List.set_cons_succ]
            refine wpAnyS_take (v := ?_) hA rfl (fun _ _ _ h => h) (Or.inl ⟨by rfl, ?_⟩) hF (fun hA => ?_)
            rotate_left
            · intro wS hSw; (try dsimp only at hSw); obtain ⟨s1, s2, s3, s4⟩ := hSw; first | (apply Eq.trans; apply ex_ld_id; exact rfl; exact rfl; assumption; with_reducible rfl) | (apply Eq.trans; apply ex_ld_arr; exact rfl; exact rfl; assumption; with_reducible rfl) | (apply Eq.trans; apply ex_bldA0_at; exact rfl; with_reducible rfl) | (go_simp; try with_reducible rfl)
            try simp only [List.getElem_toArray, List.getElem_cons_zero, List.getElem_cons_succ, Act.put, List.setIfInBounds_toArray, List.set_cons_zero, List.set_cons_succ]
            refine wpAnyS_take (v := ?_) hA rfl (fun _ _ _ h => h) (Or.inl ⟨by rfl, ?_⟩) hF (fun hA => ?_)
            rotate_left
            · intro wS hSw; (try dsimp only at hSw); obtain ⟨s1, s2, s3, s4⟩ := hSw; first | (apply Eq.trans; apply ex_ld_id; exact rfl; exact rfl; assumption; with_reducible rfl) | (apply Eq.trans; apply ex_ld_arr; exact rfl; exact rfl; assumption; with_reducible rfl) | (apply Eq.trans; apply ex_bldA0_at; exact rfl; with_reducible rfl) | (go_simp; try with_reducible rfl)
            try simp only [List.getElem_toArray, List.getElem_cons_zero, List.getElem_cons_succ, Act.put, List.setIfInBounds_toArray, List.set_cons_zero, List.set_cons_succ]
            refine wpAnyS_take (v := ?_) hA rfl (fun _ _ _ h => h) (Or.inl ⟨by rfl, ?_⟩) hF (fun hA => ?_)
            rotate_left
            · intro wS hSw; (try dsimp only at hSw); obtain ⟨s1, s2, s3, s4⟩ := hSw; first | (apply Eq.trans; apply ex_ld_id; exact rfl; exact rfl; assumption; with_reducible rfl) | (apply Eq.trans; apply ex_ld_arr; exact rfl; exact rfl; assumption; with_reducible rfl) | (apply Eq.trans; apply ex_bldA0_at; exact rfl; with_reducible rfl) | (go_simp; try with_reducible rfl)
            try simp only [List.getElem_toArray, List.getElem_cons_zero, List.getElem_cons_succ, Act.put, List.setIfInBounds_toArray, List.set_cons_zero, List.set_cons_succ]
            refine wpAnyS_take (v := ?_) hA rfl (fun _ _ _ h => h) (Or.inl ⟨by rfl, ?_⟩) hF (fun hA => ?_)
            rotate_left
            · intro wS hSw; (try dsimp only at hSw); obtain ⟨s1, s2, s3, s4⟩ := hSw; first | (apply Eq.trans; apply ex_ld_id; exact rfl; exact rfl; assumption; with_reducible rfl) | (apply Eq.trans; apply ex_ld_arr; exact rfl; exact rfl; assumption; with_reducible rfl) | (apply Eq.trans; apply ex_bldA0_at; exact rfl; with_reducible rfl) | (go_simp; try with_reducible rfl)
            try simp only [List.getElem_toArray, List.getElem_cons_zero, List.getElem_cons_succ, Act.put, List.setIfInBounds_toArray, List.set_cons_zero, List.set_cons_succ]
            refine wpAnyS_take (v := ?_) hA rfl (fun _ _ _ h => h) (Or.inl ⟨by rfl, ?_⟩) hF (fun hA => ?_)
            rotate_left
            · intro wS hSw; (try dsimp only at hSw); obtain ⟨s1, s2, s3, s4⟩ := hSw; first | (apply Eq.trans; apply ex_ld_id; exact rfl; exact rfl; assumption; with_reducible rfl) | (apply Eq.trans; apply ex_ld_arr; exact rfl; exact rfl; assumption; with_reducible rfl) | (apply Eq.trans; apply ex_bldA0_at; exact rfl; with_reducible rfl) | (go_simp; try with_reducible rfl)
            try simp only [List.getElem_toArray, List.getElem_cons_zero, List.getElem_cons_succ, Act.put, List.setIfInBounds_toArray, List.set_cons_zero, List.set_cons_succ]
            refine wpAnyS_take (v := ?_) hA rfl (fun _ _ _ h => h) (Or.inl ⟨by rfl, ?_⟩) hF (fun hA => ?_)
            rotate_left
            · intro wS hSw; (try dsimp only at hSw); obtain ⟨s1, s2, s3, s4⟩ := hSw; first | (apply Eq.trans; apply ex_ld_id; exact rfl; exact rfl; assumption; with_reducible rfl) | (apply Eq.trans; apply ex_ld_arr; exact rfl; exact rfl; assumption; with_reducible rfl) | (apply Eq.trans; apply ex_bldA0_at; exact rfl; with_reducible rfl) | (go_simp; try with_reducible rfl)
            try simp only [List.getElem_toArray, List.getElem_cons_zero, List.getElem_cons_succ, Act.put, List.setIfInBounds_toArray, List.set_cons_zero, List.set_cons_succ]
            refine wpAnyS_one hA rfl (fun K' hK => ?_)
            rw [if_pos (by rfl)]
            go_simp
            go_at_call 29
            refine (rcmp_any _ p q).mono ?_
            rintro e u1 ⟨rfl, hu1⟩
            replace hF := keep _ _ hu1 hF
            refine hK.out _ _ hF (fun hA => ?_)
            clear hK K'
            as_aux_lemma =>
            rw [HC.out]
            refine wpAnyS_take (v := ?_) hA rfl (fun _ _ _ h => h) (Or.inl ⟨by rfl, ?_⟩) hF (fun hA => ?_)
            rotate_left
            · intro wS hSw; (try dsimp only at hSw); obtain ⟨s1, s2, s3, s4⟩ := hSw; first | (apply Eq.trans; apply ex_ld_id; exact rfl; exact rfl; assumption; with_reducible rfl) | (apply Eq.trans; apply ex_ld_arr; exact rfl; exact rfl; assumption; with_reducible rfl) | (apply Eq.trans; apply ex_bldA0_at; exact rfl; with_reducible rfl) | (go_simp; try with_reducible rfl)
            try simp only [List.getElem_toArray, List.getElem_cons_zero, List.getElem_cons_succ, Act.put, List.setIfInBounds_toArray, List.set_cons_zero, List.set_cons_succ]
            refine wpAnyS_take (v := ?_) hA rfl (fun _ _ _ h => h) (Or.inl ⟨by rfl, ?_⟩) hF (fun hA => ?_)
            rotate_left
            · intro wS hSw; (try dsimp only at hSw); obtain ⟨s1, s2, s3, s4⟩ := hSw; first | (apply Eq.trans; apply ex_ld_id; exact rfl; exact rfl; assumption; with_reducible rfl) | (apply Eq.trans; apply ex_ld_arr; exact rfl; exact rfl; assumption; with_reducible rfl) | (apply Eq.trans; apply ex_bldA0_at; exact rfl; with_reducible rfl) | (go_simp; try with_reducible rfl)
            try simp only [List.getElem_toArray, List.getElem_cons_zero, List.getElem_cons_succ, Act.put, List.setIfInBounds_toArray, List.set_cons_zero, List.set_cons_succ]
            refine wpAnyS_end hA rfl ?_
            simp only [List.drop_succ_cons, List.drop_zero]
            clear hF
            go_wp2_with fail
            go_meet
            case rel => exact ⟨by rw [HER.out]; rfl, (Fr.refl noB w1).drew.step0 hu1⟩
        · have e4 : ((ps.length : Int) == 2) = false := by rw [beq_eq_false_iff_ne]; omega
          have er : rightL x ps = true := by
            match ps, h2, h3 with
            | [], _, _ => simp [rightL, asc, HXZ.out]
            | [p], _, _ => simp [rightL, asc, HXZ.out]
            | [p, q], _, h => simp at h
            | p :: q :: r :: l, h, _ => simp at h
          have HER := Lib.hid er
          clear er h2 h3
          go_wp2_with fail
          refine wp_region_M 27 28 [⟨2048, 8, 0⟩, ⟨4096, 2048, 1⟩, ⟨8192, 0, 0⟩, ⟨16384, 12288, 6⟩, ⟨32768, 16384, 8⟩, ⟨65536, 32776, 16⟩, ⟨131072, 98304, 48⟩, ⟨262144, 163840, 80⟩, ⟨524288, 294912, 144⟩, ⟨1048576, 557056, 272⟩, ⟨2097152, 1048576, 528⟩, ⟨4194304, 2097160, 1024⟩, ⟨8388608, 6291456, 3072⟩, ⟨16777216, 10485760, 5120⟩, ⟨33554432, 18874368, 9216⟩, ⟨67108864, 35651584, 17408⟩, ⟨134217728, 67108872, 32768⟩, ⟨268435456, 201326592, 98304⟩, ⟨536870912, 335544320, 163840⟩, ⟨1073741824, 603979776, 294912⟩, ⟨2147483648, 67108872, 32768⟩, ⟨4294967296, 2214592512, 1081344⟩, ⟨8589934592, 4362076160, 2129920⟩, ⟨17179869184, 8657043456, 4227072⟩, ⟨34359738368, 18320719872, 8945664⟩, ⟨68719476736, 34426847232, 16809984⟩, ⟨137438953472, 68788682752, 33588224⟩, ⟨274877906944, 137441050624, 67109888⟩] [(true, 0), (true, 1), (true, 2), (true, 3), (true, 4), (true, 5), (true, 6), (true, 7), (true, 8), (true, 9), (true, 10), (true, 11), (true, 12), (true, 13), (true, 14), (true, 15), (true, 16), (true, 17), (true, 18), (true, 19), (true, 20), (true, 21), (true, 22), (true, 23), (true, 24), (true, 25), (true, 26)] (fun w' => rdI w' B 0 = some x ∧ w'.cell? ⟨B, 32, none⟩ = some (.slice P ps.length cP)) (by kernel_rfl) rfl (by kernel_rfl) (by kernel_rfl) (by kernel_rfl) F0 (fun hA hF => ?_)
          refine wpAnyS_take (v := ?_) hA rfl (fun _ _ _ h => h) (Or.inl ⟨by rfl, ?_⟩) hF (fun hA => ?_)
          rotate_left
          · intro wS hSw; (try dsimp only at hSw); obtain ⟨s1, s2⟩ := hSw; first | (apply Eq.trans; apply ex_ld_id; exact rfl; exact rfl; assumption; with_reducible rfl) | (apply Eq.trans; apply ex_ld_arr; exact rfl; exact rfl; assumption; with_reducible rfl) | (apply Eq.trans; apply ex_bldA0_at; exact rfl; with_reducible rfl) | (go_simp; try with_reducible rfl)
          try simp only [List.getElem_toArray, List.getElem_cons_zero, List.getElem_cons_succ, Act.put, List.setIfInBounds_toArray, List.set_cons_zero, List.set_cons_succ]
          refine wpAnyS_take (v := ?_) hA rfl (fun _ _ _ h => h) (Or.inl ⟨by rfl, ?_⟩) hF (fun hA => ?_)
          rotate_left
          · intro wS hSw; (try dsimp only at hSw); obtain ⟨s1, s2⟩ := hSw; first | (apply Eq.trans; apply ex_ld_id; exact rfl; exact rfl; assumption; with_reducible rfl) | (apply Eq.trans; apply ex_ld_arr; exact rfl; exact rfl; assumption; with_reducible rfl) | (apply Eq.trans; apply ex_bldA0_at; exact rfl; with_reducible rfl) | (go_simp; try with_reducible rfl)
          try simp only [List.getElem_toArray, List.getElem_cons_zero, List.getElem_cons_succ, Act.put, List.setIfInBounds_toArray, List.set_cons_zero, List.set_cons_succ]
          refine wpAnyS_take (v := ?_) hA rfl (fun _ _ _ h => h) (Or.inl ⟨by rfl, ?_⟩) hF (fun hA => ?_)
          rotate_left
          · intro wS hSw; (try dsimp only at hSw); obtain ⟨s1, s2⟩ := hSw; first | (apply Eq.trans; apply ex_ld_id; exact rfl; exact rfl; assumption; with_reducible rfl) | (apply Eq.trans; apply ex_ld_arr; exact rfl; exact rfl; assumption; with_reducible rfl) | (apply Eq.trans; apply ex_bldA0_at; exact rfl; with_reducible rfl) | (go_simp; try with_reducible rfl)
          try simp only [List.getElem_toArray, List.getElem_cons_zero, List.getElem_cons_succ, Act.put, List.setIfInBounds_toArray, List.set_cons_zero, List.set_cons_succ]
          refine wpAnyS_take (v := ?_) hA rfl (fun _ _ _ h => h) (Or.inl ⟨by rfl, ?_⟩) hF (fun hA => ?_)
          rotate_left
          · intro wS hSw; (try dsimp only at hSw); obtain ⟨s1, s2⟩ := hSw; first | (apply Eq.trans; apply ex_ld_id; exact rfl; exact rfl; assumption; with_reducible rfl) | (apply Eq.trans; apply ex_ld_arr; exact rfl; exact rfl; assumption; with_reducible rfl) | (apply Eq.trans; apply ex_bldA0_at; exact rfl; with_reducible rfl) | (go_simp; try with_reducible rfl)
          try simp only [List.getElem_toArray, List.getElem_cons_zero, List.getElem_cons_succ, Act.put, List.setIfInBounds_toArray, List.set_cons_zero, List.set_cons_succ]
          refine wpAnyS_take (v := ?_) hA rfl (fun _ _ _ h => h) (Or.inl ⟨by rfl, ?_⟩) hF (fun hA => ?_)
          rotate_left
          · intro wS hSw; (try dsimp only at hSw); obtain ⟨s1, s2⟩ := hSw; first | (apply Eq.trans; apply ex_ld_id; exact rfl; exact rfl; assumption; with_reducible rfl) | (apply Eq.trans; apply ex_ld_arr; exact rfl; exact rfl; assumption; with_reducible rfl) | (apply Eq.trans; apply ex_bldA0_at; exact rfl; with_reducible rfl) | (go_simp; try with_reducible rfl)
          try simp only [List.getElem_toArray, List.getElem_cons_zero, List.getElem_cons_succ, Act.put, List.setIfInBounds_toArray, List.set_cons_zero, List.set_cons_succ]
          refine wpAnyS_take (v := ?_) hA rfl (fun _ _ _ h => h) (Or.inl ⟨by rfl, ?_⟩) hF (fun hA => ?_)
          rotate_left
          · intro wS hSw; (try dsimp only at hSw); obtain ⟨s1, s2⟩ := hSw; first | (apply Eq.trans; apply ex_ld_id; exact rfl; exact rfl; assumption; with_reducible rfl) | (apply Eq.trans; apply ex_ld_arr; exact rfl; exact rfl; assumption; with_reducible rfl) | (apply Eq.trans; apply ex_bldA0_at; exact rfl; with_reducible rfl) | (go_simp; try with_reducible rfl)
          try simp only [List.getElem_toArray, List.getElem_cons_zero, List.getElem_cons_succ, Act.put, List.setIfInBounds_toArray, List.set_cons_zero, List.set_cons_succ]
          refine wpAnyS_take (v := ?_) hA rfl (fun _ _ _ h => h) (Or.inl ⟨by rfl, ?_⟩) hF (fun hA => ?_)
          rotate_left
          · intro wS hSw; (try dsimp only at hSw); obtain ⟨s1, s2⟩ := hSw; first | (apply Eq.trans; apply ex_ld_id; exact rfl; exact rfl; assumption; with_reducible rfl) | (apply Eq.trans; apply ex_ld_arr; exact rfl; exact rfl; assumption; with_reducible rfl) | (apply Eq.trans; apply ex_bldA0_at; exact rfl; with_reducible rfl) | (go_simp; try with_reducible rfl)
          try simp only [List.getElem_toArray, List.getElem_cons_zero, List.getElem_cons_succ, Act.put, List.setIfInBounds_toArray, List.set_cons_zero, List.set_cons_succ]
          refine wpAnyS_take (v := ?_) hA rfl (fun _ _ _ h => h) (Or.inl ⟨by rfl, ?_⟩) hF (fun hA => ?_)
          rotate_left
          · intro wS hSw; (try dsimp only at hSw); obtain ⟨s1, s2⟩ := hSw; first | (apply Eq.trans; apply ex_ld_id; exact rfl; exact rfl; assumption; with_reducible rfl) | (apply Eq.trans; apply ex_ld_arr; exact rfl; exact rfl; assumption; with_reducible rfl) | (apply Eq.trans; apply ex_bldA0_at; exact rfl; with_reducible rfl) | (go_simp; try with_reducible rfl)
          try simp only [List.getElem_toArray, List.getElem_cons_zero, List.getElem_cons_succ, Act.put, List.setIfInBounds_toArray, List.set_cons_zero, List.set_cons_succ]
          refine wpAnyS_take (v := ?_) hA rfl (fun _ _ _ h => h) (Or.inl ⟨by rfl, ?_⟩) hF (fun hA => ?_)
          rotate_left
          · intro wS hSw; (try dsimp only at hSw); obtain ⟨s1, s2⟩ := hSw; first | (apply Eq.trans; apply ex_ld_id; exact rfl; exact rfl; assumption; with_reducible rfl) | (apply Eq.trans; apply ex_ld_arr; exact rfl; exact rfl; assumption; with_reducible rfl) | (apply Eq.trans; apply ex_bldA0_at; exact rfl; with_reducible rfl) | (go_simp; try with_reducible rfl)
          try simp only [List.getElem_toArray, List.getElem_cons_zero, List.getElem_cons_succ, Act.put, List.setIfInBounds_toArray, List.set_cons_zero, List.set_cons_succ]
          refine wpAnyS_take (v := ?_) hA rfl (fun _ _ _ h => h) (Or.inl ⟨by rfl, ?_⟩) hF (fun hA => ?_)
          rotate_left
          · intro wS hSw; (try dsimp only at hSw); obtain ⟨s1, s2⟩ := hSw; first | (apply Eq.trans; apply ex_ld_id; exact rfl; exact rfl; assumption; with_reducible rfl) | (apply Eq.trans; apply ex_ld_arr; exact rfl; exact rfl; assumption; with_reducible rfl) | (apply Eq.trans; apply ex_bldA0_at; exact rfl; with_reducible rfl) | (go_simp; try with_reducible rfl)
          try simp only [List.getElem_toArray, List.getElem_cons_zero, List.getElem_cons_succ, Act.put, List.setIfInBounds_toArray, List.set_cons_zero, List.set_cons_succ]
          refine wpAnyS_take (v := ?_) hA rfl (fun _ _ _ h => h) (Or.inl ⟨by rfl, ?_⟩) hF (fun hA => ?_)
          rotate_left
          · intro wS hSw; (try dsimp only at hSw); obtain ⟨s1, s2⟩ := hSw; first | (apply Eq.trans; apply ex_ld_id; exact rfl; exact rfl; assumption; with_reducible rfl) | (apply Eq.trans; apply ex_ld_arr; exact rfl; exact rfl; assumption; with_reducible rfl) | (apply Eq.trans; apply ex_bldA0_at; exact rfl; with_reducible rfl) | (go_simp; try with_reducible rfl)
          try simp only [List.getElem_toArray, List.getElem_cons_zero, List.getElem_cons_succ, Act.put, List.setIfInBounds_toArray, List.set_cons_zero, List.set_cons_succ]
          refine wpAnyS_take (v := ?_) hA rfl (fun _ _ _ h => h) (Or.inl ⟨by rfl, ?_⟩) hF (fun hA => ?_)
          rotate_left
          · intro wS hSw; (try dsimp only at hSw); obtain ⟨s1, s2⟩ := hSw; first | (apply Eq.trans; apply ex_ld_id; exact rfl; exact rfl; assumption; with_reducible rfl) | (apply Eq.trans; apply ex_ld_arr; exact rfl; exact rfl; assumption; with_reducible rfl) | (apply Eq.trans; apply ex_bldA0_at; exact rfl; with_reducible rfl) | (go_simp; try with_reducible rfl)
          try simp only [List.getElem_toArray, List.getElem_cons_zero, List.getElem_cons_succ, Act.put, List.setIfInBounds_toArray, List.set_cons_zero, List.set_cons_succ]
          refine wpAnyS_take (v := ?_) hA rfl (fun _ _ _ h => h) (Or.inl ⟨by rfl, ?_⟩) hF (fun hA => ?_)
          rotate_left
          · intro wS hSw; (try dsimp only at hSw); obtain ⟨s1, s2⟩ := hSw; first | (apply Eq.trans; apply ex_ld_id; exact rfl; exact rfl; assumption; with_reducible rfl) | (apply Eq.trans; apply ex_ld_arr; exact rfl; exact rfl; assumption; with_reducible rfl) | (apply Eq.trans; apply ex_bldA0_at; exact rfl; with_reducible rfl) | (go_simp; try with_reducible rfl)
          try simp only [List.getElem_toArray, List.getElem_cons_zero, List.getElem_cons_succ, Act.put, List.setIfInBounds_toArray, List.set_cons_zero, List.set_cons_succ]
          refine wpAnyS_take (v := ?_) hA rfl (fun _ _ _ h => h) (Or.inl ⟨by rfl, ?_⟩) hF (fun hA => ?_)
          rotate_left
          · intro wS hSw; (try dsimp only at hSw); obtain ⟨s1, s2⟩ := hSw; first | (apply Eq.trans; apply ex_ld_id; exact rfl; exact rfl; assumption; with_reducible rfl) | (apply Eq.trans; apply ex_ld_arr; exact rfl; exact rfl; assumption; with_reducible rfl) | (apply Eq.trans; apply ex_bldA0_at; exact rfl; with_reducible rfl) | (go_simp; try with_reducible rfl)
          try simp only [List.getElem_toArray, List.getElem_cons_zero, List.getElem_cons_succ, Act.put, List.setIfInBounds_toArray, List.set_cons_zero, List.set_cons_succ]
          refine wpAnyS_take (v := ?_) hA rfl (fun _ _ _ h => h) (Or.inl ⟨by rfl, ?_⟩) hF (fun hA => ?_)
          rotate_left
          · intro wS hSw; (try dsimp only at hSw); obtain ⟨s1, s2⟩ := hSw; first | (apply Eq.trans; apply ex_ld_id; exact rfl; exact rfl; assumption; with_reducible rfl) | (apply Eq.trans; apply ex_ld_arr; exact rfl; exact rfl; assumption; with_reducible rfl) | (apply Eq.trans; apply ex_bldA0_at; exact rfl; with_reducible rfl) | (go_simp; try with_reducible rfl)
          try simp only [List.getElem_toArray, List.getElem_cons_zero, List.getElem_cons_succ, Act.put, List.setIfInBounds_toArray, List.set_cons_zero, List.set_cons_succ]
          refine wpAnyS_take (v := ?_) hA rfl (fun _ _ _ h => h) (Or.inl ⟨by rfl, ?_⟩) hF (fun hA => ?_)
          rotate_left
          · intro wS hSw; (try dsimp only at hSw); obtain ⟨s1, s2⟩ := hSw; first | (apply Eq.trans; apply ex_ld_id; exact rfl; exact rfl; assumption; with_reducible rfl) | (apply Eq.trans; apply ex_ld_arr; exact rfl; exact rfl; assumption; with_reducible rfl) | (apply Eq.trans; apply ex_bldA0_at; exact rfl; with_reducible rfl) | (go_simp; try with_reducible rfl)
          try simp only [List.getElem_toArray, List.getElem_cons_zero, List.getElem_cons_succ, Act.put, List.setIfInBounds_toArray, List.set_cons_zero, List.set_cons_succ]
          refine wpAnyS_take (v := undef) hA rfl (fun _ _ _ h => h) (Or.inr ⟨by rfl, rfl⟩) hF (fun hA => ?_)
          try simp only [List.getElem_toArray, List.getElem_cons_zero, List.getElem_cons_succ, Act.put, List.setIfInBounds_toArray, List.set_cons_zero, List.set_cons_succ]
          refine wpAnyS_take (v := undef) hA rfl (fun _ _ _ h => h) (Or.inr ⟨by rfl, rfl⟩) hF (fun hA => ?_)
          try simp only [List.getElem_toArray, List.getElem_cons_zero, List.getElem_cons_succ, Act.put, List.setIfInBounds_toArray, List.set_cons_zero, List.set_cons_succ]
          refine wpAnyS_take (v := undef) hA rfl (fun _ _ _ h => h) (Or.inr ⟨by rfl, rfl⟩) hF (fun hA => ?_)
          try simp only [List.getElem_toArray, List.getElem_cons_zero, List.getElem_cons_succ, Act.put, List.setIfInBounds_toArray, List.set_cons_zero, List.set_cons_succ]
          refine wpAnyS_take (v := undef) hA rfl (fun _ _ _ h => h) (Or.inr ⟨by rfl, rfl⟩) hF (fun hA => ?_)
          try simp only [List.getElem_toArray, List.getElem_cons_zero, List.getElem_cons_succ, Act.put, List.setIfInBounds_toArray, List.set_cons_zero, List.set_cons_succ]
          refine wpAnyS_take (v := undef) hA rfl (fun _ _ _ h => h) (Or.inr ⟨by rfl, rfl⟩) hF (fun hA => ?_)
          try simp only [List.getElem_toArray, List.getElem_cons_zero, List.getElem_cons_succ, Act.put, List.setIfInBounds_toArray, List.set_cons_zero, List.set_cons_succ]
          refine wpAnyS_take (v := undef) hA rfl (fun _ _ _ h => h) (Or.inr ⟨by rfl, rfl⟩) hF (fun hA => ?_)
          try simp only [List.getElem_toArray, List.getElem_cons_zero, List.getElem_cons_succ, Act.put, List.setIfInBounds_toArray, List.set_cons_zero, List.set_cons_succ]
          refine wpAnyS_take (v := undef) hA rfl (fun _ _ _ h => h) (Or.inr ⟨by rfl, rfl⟩) hF (fun hA => ?_)
          try simp only [List.getElem_toArray, List.getElem_cons_zero, List.getElem_cons_succ, Act.put, List.setIfInBounds_toArray, List.set_cons_zero, List.set_cons_succ]
          refine wpAnyS_take (v := undef) hA rfl (fun _ _ _ h => h) (Or.inr ⟨by rfl, rfl⟩) hF (fun hA => ?_)
          try simp only [List.getElem_toArray, List.getElem_cons_zero, List.getElem_cons_succ, Act.put, List.setIfInBounds_toArray, List.set_cons_zero, List.set_cons_succ]
          refine wpAnyS_take (v := undef) hA rfl (fun _ _ _ h => h) (Or.inr ⟨by rfl, rfl⟩) hF (fun hA => ?_)
          try simp only [List.getElem_toArray, List.getElem_cons_zero, List.getElem_cons_succ, Act.put, List.setIfInBounds_toArray, List.set_cons_zero, List.set_cons_succ]
          refine wpAnyS_take (v := undef) hA rfl (fun _ _ _ h => h) (Or.inr ⟨by rfl, rfl⟩) hF (fun hA => ?_)
          try simp only [List.getElem_toArray, List.getElem_cons_zero, List.getElem_cons_succ, Act.put, List.setIfInBounds_toArray, List.set_cons_zero, List.set_cons_succ]
          refine wpAnyS_take (v := ?_) hA rfl (fun _ _ _ h => h) (Or.inl ⟨by rfl, ?_⟩) hF (fun hA => ?_)
          rotate_left
          · intro wS hSw; (try dsimp only at hSw); obtain ⟨s1, s2⟩ := hSw; first | (apply Eq.trans; apply ex_ld_id; exact rfl; exact rfl; assumption; with_reducible rfl) | (apply Eq.trans; apply ex_ld_arr; exact rfl; exact rfl; assumption; with_reducible rfl) | (apply Eq.trans; apply ex_bldA0_at; exact rfl; with_reducible rfl) | (go_simp; try with_reducible rfl)
          try simp only [List.getElem_toArray, List.getElem_cons_zero, List.getElem_cons_succ, Act.put, List.setIfInBounds_toArray, List.set_cons_zero, List.set_cons_succ]
          refine wpAnyS_end hA rfl ?_
          simp only [List.drop_succ_cons, List.drop_zero]
          clear hF
          go_wp2_with fail
          go_meet
          case rel => exact ⟨by rw [HER.out]; rfl, (Fr.refl noB w1).drew⟩
  case rest =>
    obtain ⟨rfl, hfc⟩ := hcut
    cases hr : rightL x ps with
    | false =>
      have e1 : addG m.reverse x ps = (1, m.reverse) := by simp [addG, hr]
      have HE := Lib.hid e1
      clear e1 hr
      go_wp2_with fail
      go_ret2
      exact ⟨A, c, nv, m, by rw [HE.out]; rfl, by rw [HE.out], f0.step0 hfc, .inl ⟨rfl, rfl, rfl⟩⟩
    | true =>
      have HR := Lib.hid hr
      clear hr
      obtain ⟨b1, b2⟩ := HBX.out _ hfc
      go_wp2_with fail
      go_at_call 15
      refine (find_any _ A c _ m rfl (h1.fr0 hfc) hb x).mono ?_
      rintro e w2 ⟨rfl, f2⟩
      have hf2 := hfc.step0 f2
      have h2 := h1.fr0 hf2
      have hP2 := hP1.fr0 hf2
      have hfw := f0.step0 hf2
      clear b1 b2
      by_cases hx : findN m x < m.length
      · have e1 : findI m x = (findN m x : Int) := by unfold findI; rw [if_pos hx]
        have e2 := findN_at hx
        rw [e1]
        generalize findN m x = a at hx e2 ⊢
        have a0 : (0 : Int) ≤ (a : Int) := by omega
        have a1 : (a : Int) < (m.length : Int) := by omega
        have hpar := par_at HK.out a hx
        rw [e2] at hpar
        have hadd : addG m.reverse x ps = if (m[a]).2 = ps then (0, m.reverse) else (5, m.reverse) := by simp [addG, HR.out, hpar]
        have HADD := Lib.hid hadd
        obtain ⟨g, off, rfl⟩ := h2.ad (by omega)
        obtain ⟨B2, c2, hr0, hs0⟩ := h2.at a hx
        have hql := ps_len HK.out a hx
        generalize (m[a]).2 = q at hr0 hs0 HADD hql
        have hnd : ∀ w', Fr noB w2 w' → w'.cell? ⟨g, off + a * 33 + 32, none⟩ = some (.slice B2 q.length c2) ∧ w'.cell? ⟨B, 32, none⟩ = some (.slice P ps.length cP) := fun w' f =>
          ⟨(hr0.fr f (by simp [noB])).sl, (HBX.out _ (hf2.step0 f)).2⟩
        have HND := Lib.hid hnd
        clear hadd hpar e1 e2 hr0 hnd
        have F0 := HND.out _ (Fr.refl noB w2).drew
        by_cases hl : q.length = ps.length
        · have e5 : ((q.length : Int) != (ps.length : Int)) = false := by rw [hl]; simp
          have HL := Lib.hid hl
          clear hl
          go_wp2_with fail
          refine wp_region_M 9 10 [⟨70368744177664, 1, 0⟩, ⟨140737488355328, 64, 0⟩, ⟨281474976710656, 211106232532992, 3⟩, ⟨562949953421312, 281474976710656, 4⟩, ⟨1125899906842624, 562949953421312, 8⟩, ⟨2251799813685248, 1125899906842624, 16⟩, ⟨4503599627370496, 8, 0⟩, ⟨9007199254740992, 4503599627370496, 64⟩, ⟨18014398509481984, 9007199254740992, 128⟩, ⟨36028797018963968, 20266198323167232, 288⟩] [(true, 0), (true, 1), (true, 2), (true, 3), (true, 4), (true, 5), (true, 6), (true, 7), (true, 8)] (fun w' => w'.cell? ⟨g, off + a * 33 + 32, none⟩ = some (.slice B2 q.length c2) ∧ w'.cell? ⟨B, 32, none⟩ = some (.slice P ps.length cP)) (by kernel_rfl) rfl (by kernel_rfl) (by kernel_rfl) (by kernel_rfl) F0 (fun hA hF => ?_)
          refine wpAnyS_take (v := ?_) hA rfl (fun _ _ _ h => h) (Or.inl ⟨by rfl, ?_⟩) hF (fun hA => ?_)
          rotate_left
          · intro wS hSw; (try dsimp only at hSw); obtain ⟨s1, s2⟩ := hSw; first | (apply Eq.trans; apply ex_ld_id; exact rfl; exact rfl; assumption; with_reducible rfl) | (apply Eq.trans; apply ex_ld_arr; exact rfl; exact rfl; assumption; with_reducible rfl) | (apply Eq.trans; apply ex_bldA0_at; exact rfl; with_reducible rfl) | (go_simp; try with_reducible rfl)
          try simp only [List.getElem_toArray, List.getElem_cons_zero, List.getElem_cons_succ, Act.put, List.setIfInBounds_toArray, List.set_cons_zero, List.set_cons_succ]
          refine wpAnyS_take (v := ?_) hA rfl (fun _ _ _ h => h) (Or.inl ⟨by rfl, ?_⟩) hF (fun hA => ?_)
          rotate_left
          · intro wS hSw; (try dsimp only at hSw); obtain ⟨s1, s2⟩ := hSw; first | (apply Eq.trans; apply ex_ld_id; exact rfl; exact rfl; assumption; with_reducible rfl) | (apply Eq.trans; apply ex_ld_arr; exact rfl; exact rfl; assumption; with_reducible rfl) | (apply Eq.trans; apply ex_bldA0_at; exact rfl; with_reducible rfl) | (go_simp; try with_reducible rfl)
          try simp only [List.getElem_toArray, List.getElem_cons_zero, List.getElem_cons_succ, Act.put, List.setIfInBounds_toArray, List.set_cons_zero, List.set_cons_succ]
          refine wpAnyS_take (v := ?_) hA rfl (fun _ _ _ h => h) (Or.inl ⟨by rfl, ?_⟩) hF (fun hA => ?_)
          rotate_left
          · intro wS hSw; (try dsimp only at hSw); obtain ⟨s1, s2⟩ := hSw; first | (apply Eq.trans; apply ex_ld_id; exact rfl; exact rfl; assumption; with_reducible rfl) | (apply Eq.trans; apply ex_ld_arr; exact rfl; exact rfl; assumption; with_reducible rfl) | (apply Eq.trans; apply ex_bldA0_at; exact rfl; with_reducible rfl) | (go_simp; try with_reducible rfl)
          try simp only [List.getElem_toArray, List.getElem_cons_zero, List.getElem_cons_succ, Act.put, List.setIfInBounds_toArray, List.set_cons_zero, List.set_cons_succ]
          refine wpAnyS_take (v := ?_) hA rfl (fun _ _ _ h => h) (Or.inl ⟨by rfl, ?_⟩) hF (fun hA => ?_)
          rotate_left
          · intro wS hSw; (try dsimp only at hSw); obtain ⟨s1, s2⟩ := hSw; first | (apply Eq.trans; apply ex_ld_id; exact rfl; exact rfl; assumption; with_reducible rfl) | (apply Eq.trans; apply ex_ld_arr; exact rfl; exact rfl; assumption; with_reducible rfl) | (apply Eq.trans; apply ex_bldA0_at; exact rfl; with_reducible rfl) | (go_simp; try with_reducible rfl)
          try simp only [List.getElem_toArray, List.getElem_cons_zero, List.getElem_cons_succ, Act.put, List.setIfInBounds_toArray, List.set_cons_zero, List.set_cons_succ]
          refine wpAnyS_take (v := ?_) hA rfl (fun _ _ _ h => h) (Or.inl ⟨by rfl, ?_⟩) hF (fun hA => ?_)
          rotate_left
          · intro wS hSw; (try dsimp only at hSw); obtain ⟨s1, s2⟩ := hSw; first | (apply Eq.trans; apply ex_ld_id; exact rfl; exact rfl; assumption; with_reducible rfl) | (apply Eq.trans; apply ex_ld_arr; exact rfl; exact rfl; assumption; with_reducible rfl) | (apply Eq.trans; apply ex_bldA0_at; exact rfl; with_reducible rfl) | (go_simp; try with_reducible rfl)
          try simp only [List.getElem_toArray, List.getElem_cons_zero, List.getElem_cons_succ, Act.put, List.setIfInBounds_toArray, List.set_cons_zero, List.set_cons_succ]
          refine wpAnyS_take (v := ?_) hA rfl (fun _ _ _ h => h) (Or.inl ⟨by rfl, ?_⟩) hF (fun hA => ?_)
          rotate_left
          · intro wS hSw; (try dsimp only at hSw); obtain ⟨s1, s2⟩ := hSw; first | (apply Eq.trans; apply ex_ld_id; exact rfl; exact rfl; assumption; with_reducible rfl) | (apply Eq.trans; apply ex_ld_arr; exact rfl; exact rfl; assumption; with_reducible rfl) | (apply Eq.trans; apply ex_bldA0_at; exact rfl; with_reducible rfl) | (go_simp; try with_reducible rfl)
          try simp only [List.getElem_toArray, List.getElem_cons_zero, List.getElem_cons_succ, Act.put, List.setIfInBounds_toArray, List.set_cons_zero, List.set_cons_succ]
          refine wpAnyS_take (v := ?_) hA rfl (fun _ _ _ h => h) (Or.inl ⟨by rfl, ?_⟩) hF (fun hA => ?_)
          rotate_left
          · intro wS hSw; (try dsimp only at hSw); obtain ⟨s1, s2⟩ := hSw; first | (apply Eq.trans; apply ex_ld_id; exact rfl; exact rfl; assumption; with_reducible rfl) | (apply Eq.trans; apply ex_ld_arr; exact rfl; exact rfl; assumption; with_reducible rfl) | (apply Eq.trans; apply ex_bldA0_at; exact rfl; with_reducible rfl) | (go_simp; try with_reducible rfl)
          try simp only [List.getElem_toArray, List.getElem_cons_zero, List.getElem_cons_succ, Act.put, List.setIfInBounds_toArray, List.set_cons_zero, List.set_cons_succ]
          refine wpAnyS_take (v := ?_) hA rfl (fun _ _ _ h => h) (Or.inl ⟨by rfl, ?_⟩) hF (fun hA => ?_)
          rotate_left
          · intro wS hSw; (try dsimp only at hSw); obtain ⟨s1, s2⟩ := hSw; first | (apply Eq.trans; apply ex_ld_id; exact rfl; exact rfl; assumption; with_reducible rfl) | (apply Eq.trans; apply ex_ld_arr; exact rfl; exact rfl; assumption; with_reducible rfl) | (apply Eq.trans; apply ex_bldA0_at; exact rfl; with_reducible rfl) | (go_simp; try with_reducible rfl)
          try simp only [List.getElem_toArray, List.getElem_cons_zero, List.getElem_cons_succ, Act.put, List.setIfInBounds_toArray, List.set_cons_zero, List.set_cons_succ]
          refine wpAnyS_take (v := ?_) hA rfl (fun _ _ _ h => h) (Or.inl ⟨by rfl, ?_⟩) hF (fun hA => ?_)
          rotate_left
          · intro wS hSw; (try dsimp only at hSw); obtain ⟨s1, s2⟩ := hSw; first | (apply Eq.trans; apply ex_ld_id; exact rfl; exact rfl; assumption; with_reducible rfl) | (apply Eq.trans; apply ex_ld_arr; exact rfl; exact rfl; assumption; with_reducible rfl) | (apply Eq.trans; apply ex_bldA0_at; exact rfl; with_reducible rfl) | (go_simp; try with_reducible rfl)
          try simp only [List.getElem_toArray, List.getElem_cons_zero, List.getElem_cons_succ, Act.put, List.setIfInBounds_toArray, List.set_cons_zero, List.set_cons_succ]
          refine wpAnyS_end hA rfl ?_
          simp only [List.drop_succ_cons, List.drop_zero]
          clear hF
          go_wp2_with fail
          go_loopg [7] ps.length (fun gk kv wr => RaL w2 q ps gk kv wr)
          case atStart => exact ⟨0, rfl, rfl, by omega, by simp, (Fr.refl noB w2).drew⟩
          case round =>
            obtain ⟨k, rfl, rfl, hkl, ht, hf3⟩ := hrel
            have HT := Lib.hid ht
            clear ht F0
            obtain ⟨b3, b4⟩ := HND.out _ hf3
            by_cases hlk : k < ps.length
            · have k0 : (0 : Int) ≤ (k : Int) := by omega
              have k1 : (k : Int) < (ps.length : Int) := by omega
              have hlq : k < q.length := by have := HL.out; omega
              have k2 : (k : Int) < (q.length : Int) := by omega
              obtain ⟨gq, oq, rfl⟩ := hs0.ad (by omega)
              obtain ⟨gp, op, rfl⟩ := hP2.ad (by omega)
              have rq := (hs0.fr0 hf3.drew).id k hlq
              have rp := (hP2.fr0 hf3.drew).id k hlk
              have t1 : q.take (k + 1) = q.take k ++ [q[k]] := List.take_succ_eq_append_getElem hlq
              have t2 : ps.take (k + 1) = ps.take k ++ [ps[k]] := List.take_succ_eq_append_getElem hlk
              have hne : q[k] ≠ ps[k] → q ≠ ps := fun h e => h (by subst e; rfl)
              generalize q[k] = u at rq t1 hne
              generalize ps[k] = v at rp t2 hne
              have T1 := Lib.hid t1
              have T2 := Lib.hid t2
              have HNE := Lib.hid hne
              clear t1 t2 hne
              have F1 : wr.drew.cell? ⟨g, off + a * 33 + 32, none⟩ = some (.slice (some ⟨gq, oq, none⟩) q.length c2) ∧ wr.drew.cell? ⟨B, 32, none⟩ = some (.slice (some ⟨gp, op, none⟩) ps.length cP) ∧ rdI wr.drew gq (oq + k * 32) = some u ∧ rdI wr.drew gp (op + k * 32) = some v := ⟨(HND.out _ hf3.drew).1, (HND.out _ hf3.drew).2, rq, rp⟩
              clear rq rp
              go_wp2_with fail
              refine wp_region_M 13 14 [⟨18446744073709551616, 1, 0⟩, ⟨36893488147419103232, 64, 0⟩, ⟨73786976294838206464, 55340232221128654848, 3⟩, ⟨147573952589676412928, 73786976294838206464, 4⟩, ⟨295147905179352825856, 147573952589676412928, 8⟩, ⟨590295810358705651712, 128, 0⟩, ⟨1180591620717411303424, 885443715538058477568, 48⟩, ⟨2361183241434822606848, 1180591620717411303424, 64⟩, ⟨4722366482869645213696, 8, 0⟩, ⟨9444732965739290427392, 4722366482869645213696, 256⟩, ⟨18889465931478580854784, 128, 0⟩, ⟨37778931862957161709568, 28334198897217871282176, 1536⟩, ⟨75557863725914323419136, 37778931862957161709568, 2048⟩, ⟨151115727451828646838272, 77919046967349146025984, 4224⟩] [(true, 0), (true, 1), (true, 2), (true, 3), (true, 4), (true, 5), (true, 6), (true, 7), (true, 8), (true, 9), (true, 10), (true, 11), (true, 12)] (fun w' => w'.cell? ⟨g, off + a * 33 + 32, none⟩ = some (.slice (some ⟨gq, oq, none⟩) q.length c2) ∧ w'.cell? ⟨B, 32, none⟩ = some (.slice (some ⟨gp, op, none⟩) ps.length cP) ∧ rdI w' gq (oq + k * 32) = some u ∧ rdI w' gp (op + k * 32) = some v) (by kernel_rfl) rfl (by kernel_rfl) (by kernel_rfl) (by kernel_rfl) F1 (fun hA hF => ?_)
              refine wpAnyS_take (v := ?_) hA rfl (fun _ _ _ h => h) (Or.inl ⟨by rfl, ?_⟩) hF (fun hA => ?_)
              rotate_left
              · intro wS hSw; (try dsimp only at hSw); obtain ⟨s1, s2, s3, s4⟩ := hSw; first | (apply Eq.trans; apply ex_ld_id; exact rfl; exact rfl; assumption; with_reducible rfl) | (apply Eq.trans; apply ex_ld_arr; exact rfl; exact rfl; assumption; with_reducible rfl) | (apply Eq.trans; apply ex_bldA0_at; exact rfl; with_reducible rfl) | (go_simp; try with_reducible rfl)
              try simp only [List.getElem_toArray, List.getElem_cons_zero, List.getElem_cons_succ, Act.put, List.setIfInBounds_toArray, List.set_cons_zero, List.set_cons_succ]
              refine wpAnyS_take (v := ?_) hA rfl (fun _ _ _ h => h) (Or.inl ⟨by rfl, ?_⟩) hF (fun hA => ?_)
              rotate_left
              · intro wS hSw; (try dsimp only at hSw); obtain ⟨s1, s2, s3, s4⟩ := hSw; first | (apply Eq.trans; apply ex_ld_id; exact rfl; exact rfl; assumption; with_reducible rfl) | (apply Eq.trans; apply ex_ld_arr; exact rfl; exact rfl; assumption; with_reducible rfl) | (apply Eq.trans; apply ex_bldA0_at; exact rfl; with_reducible rfl) | (go_simp; try with_reducible rfl)
              try simp only [List.getElem_toArray, List.getElem_cons_zero, List.getElem_cons_succ, Act.put, List.setIfInBounds_toArray, List.set_cons_zero, List.set_cons_succ]
              refine wpAnyS_take (v := ?_) hA rfl (fun _ _ _ h => h) (Or.inl ⟨by rfl, ?_⟩) hF (fun hA => ?_)
              rotate_left
              · intro wS hSw; (try dsimp only at hSw); obtain ⟨s1, s2, s3, s4⟩ := hSw; first | (apply Eq.trans; apply ex_ld_id; exact rfl; exact rfl; assumption; with_reducible rfl) | (apply Eq.trans; apply ex_ld_arr; exact rfl; exact rfl; assumption; with_reducible rfl) | (apply Eq.trans; apply ex_bldA0_at; exact rfl; with_reducible rfl) | (go_simp; try with_reducible rfl)
              try simp only [List.getElem_toArray, List.getElem_cons_zero, List.getElem_cons_succ, Act.put, List.setIfInBounds_toArray, List.set_cons_zero, List.set_cons_succ]
              refine wpAnyS_take (v := ?_) hA rfl (fun _ _ _ h => h) (Or.inl ⟨by rfl, ?_⟩) hF (fun hA => ?_)
              rotate_left
              · intro wS hSw; (try dsimp only at hSw); obtain ⟨s1, s2, s3, s4⟩ := hSw; first | (apply Eq.trans; apply ex_ld_id; exact rfl; exact rfl; assumption; with_reducible rfl) | (apply Eq.trans; apply ex_ld_arr; exact rfl; exact rfl; assumption; with_reducible rfl) | (apply Eq.trans; apply ex_bldA0_at; exact rfl; with_reducible rfl) | (go_simp; try with_reducible rfl)
              try simp only [List.getElem_toArray, List.getElem_cons_zero, List.getElem_cons_succ, Act.put, List.setIfInBounds_toArray, List.set_cons_zero, List.set_cons_succ]
              refine wpAnyS_take (v := ?_) hA rfl (fun _ _ _ h => h) (Or.inl ⟨by rfl, ?_⟩) hF (fun hA => ?_)
              rotate_left
              · intro wS hSw; (try dsimp only at hSw); obtain ⟨s1, s2, s3, s4⟩ := hSw; first | (apply Eq.trans; apply ex_ld_id; exact rfl; exact rfl; assumption; with_reducible rfl) | (apply Eq.trans; apply ex_ld_arr; exact rfl; exact rfl; assumption; with_reducible rfl) | (apply Eq.trans; apply ex_bldA0_at; exact rfl; with_reducible rfl) | (go_simp; try with_reducible rfl)
              try simp only [List.getElem_toArray, List.getElem_cons_zero, List.getElem_cons_succ, Act.put, List.setIfInBounds_toArray, List.set_cons_zero, List.set_cons_succ]
              refine wpAnyS_take (v := ?_) hA rfl (fun _ _ _ h => h) (Or.inl ⟨by rfl, ?_⟩) hF (fun hA => ?_)
              rotate_left
              · intro wS hSw; (try dsimp only at hSw); obtain ⟨s1, s2, s3, s4⟩ := hSw; first | (apply Eq.trans; apply ex_ld_id; exact rfl; exact rfl; assumption; with_reducible rfl) | (apply Eq.trans; apply ex_ld_arr; exact rfl; exact rfl; assumption; with_reducible rfl) | (apply Eq.trans; apply ex_bldA0_at; exact rfl; with_reducible rfl) | (go_simp; try with_reducible rfl)
              try simp only [List.getElem_toArray, List.getElem_cons_zero, List.getElem_cons_succ, Act.put, List.setIfInBounds_toArray, List.set_cons_zero, List.set_cons_succ]
              refine wpAnyS_take (v := ?_) hA rfl (fun _ _ _ h => h) (Or.inl ⟨by rfl, ?_⟩) hF (fun hA => ?_)
              rotate_left
              · intro wS hSw; (try dsimp only at hSw); obtain ⟨s1, s2, s3, s4⟩ := hSw; first | (apply Eq.trans; apply ex_ld_id; exact rfl; exact rfl; assumption; with_reducible rfl) | (apply Eq.trans; apply ex_ld_arr; exact rfl; exact rfl; assumption; with_reducible rfl) | (apply Eq.trans; apply ex_bldA0_at; exact rfl; with_reducible rfl) | (go_simp; try with_reducible rfl)
              try simp only [List.getElem_toArray, List.getElem_cons_zero, List.getElem_cons_succ, Act.put, List.setIfInBounds_toArray, List.set_cons_zero, List.set_cons_succ]
              refine wpAnyS_take (v := ?_) hA rfl (fun _ _ _ h => h) (Or.inl ⟨by rfl, ?_⟩) hF (fun hA => ?_)
              rotate_left
              · intro wS hSw; (try dsimp only at hSw); obtain ⟨s1, s2, s3, s4⟩ := hSw; first | (apply Eq.trans; apply ex_ld_id; exact rfl; exact rfl; assumption; with_reducible rfl) | (apply Eq.trans; apply ex_ld_arr; exact rfl; exact rfl; assumption; with_reducible rfl) | (apply Eq.trans; apply ex_bldA0_at; exact rfl; with_reducible rfl) | (go_simp; try with_reducible rfl)
              try simp only [List.getElem_toArray, List.getElem_cons_zero, List.getElem_cons_succ, Act.put, List.setIfInBounds_toArray, List.set_cons_zero, List.set_cons_succ]
              refine wpAnyS_take (v := ?_) hA rfl (fun _ _ _ h => h) (Or.inl ⟨by rfl, ?_⟩) hF (fun hA => ?_)
              rotate_left
              · intro wS hSw; (try dsimp only at hSw); obtain ⟨s1, s2, s3, s4⟩ := hSw; first | (apply Eq.trans; apply ex_ld_id; exact rfl; exact rfl; assumption; with_reducible rfl) | (apply Eq.trans; apply ex_ld_arr; exact rfl; exact rfl; assumption; with_reducible rfl) | (apply Eq.trans; apply ex_bldA0_at; exact rfl; with_reducible rfl) | (go_simp; try with_reducible rfl)
              try simp only [List.getElem_toArray, List.getElem_cons_zero, List.getElem_cons_succ, Act.put, List.setIfInBounds_toArray, List.set_cons_zero, List.set_cons_succ]
              refine wpAnyS_take (v := ?_) hA rfl (fun _ _ _ h => h) (Or.inl ⟨by rfl, ?_⟩) hF (fun hA => ?_)
              rotate_left
              · intro wS hSw; (try dsimp only at hSw); obtain ⟨s1, s2, s3, s4⟩ := hSw; first | (apply Eq.trans; apply ex_ld_id; exact rfl; exact rfl; assumption; with_reducible rfl) | (apply Eq.trans; apply ex_ld_arr; exact rfl; exact rfl; assumption; with_reducible rfl) | (apply Eq.trans; apply ex_bldA0_at; exact rfl; with_reducible rfl) | (go_simp; try with_reducible rfl)
              try simp only [List.getElem_toArray, List.getElem_cons_zero, List.getElem_cons_succ, Act.put, List.setIfInBounds_toArray, List.set_cons_zero, List.set_cons_succ]
              refine wpAnyS_take (v := ?_) hA rfl (fun _ _ _ h => h) (Or.inl ⟨by rfl, ?_⟩) hF (fun hA => ?_)
              rotate_left
              · intro wS hSw; (try dsimp only at hSw); obtain ⟨s1, s2, s3, s4⟩ := hSw; first | (apply Eq.trans; apply ex_ld_id; exact rfl; exact rfl; assumption; with_reducible rfl) | (apply Eq.trans; apply ex_ld_arr; exact rfl; exact rfl; assumption; with_reducible rfl) | (apply Eq.trans; apply ex_bldA0_at; exact rfl; with_reducible rfl) | (go_simp; try with_reducible rfl)
              try simp only [List.getElem_toArray, List.getElem_cons_zero, List.getElem_cons_succ, Act.put, List.setIfInBounds_toArray, List.set_cons_zero, List.set_cons_succ]
              refine wpAnyS_take (v := ?_) hA rfl (fun _ _ _ h => h) (Or.inl ⟨by rfl, ?_⟩) hF (fun hA => ?_)
              rotate_left
              · intro wS hSw; (try dsimp only at hSw); obtain ⟨s1, s2, s3, s4⟩ := hSw; first | (apply Eq.trans; apply ex_ld_id; exact rfl; exact rfl; assumption; with_reducible rfl) | (apply Eq.trans; apply ex_ld_arr; exact rfl; exact rfl; assumption; with_reducible rfl) | (apply Eq.trans; apply ex_bldA0_at; exact rfl; with_reducible rfl) | (go_simp; try with_reducible rfl)
              try simp only [List.getElem_toArray, List.getElem_cons_zero, List.getElem_cons_succ, Act.put, List.setIfInBounds_toArray, List.set_cons_zero, List.set_cons_succ]
              refine wpAnyS_take (v := ?_) hA rfl (fun _ _ _ h => h) (Or.inl ⟨by rfl, ?_⟩) hF (fun hA => ?_)
              rotate_left
              · intro wS hSw; (try dsimp only at hSw); obtain ⟨s1, s2, s3, s4⟩ := hSw; first | (apply Eq.trans; apply ex_ld_id; exact rfl; exact rfl; assumption; with_reducible rfl) | (apply Eq.trans; apply ex_ld_arr; exact rfl; exact rfl; assumption; with_reducible rfl) | (apply Eq.trans; apply ex_bldA0_at; exact rfl; with_reducible rfl) | (go_simp; try with_reducible rfl)
              try simp only [List.getElem_toArray, List.getElem_cons_zero, List.getElem_cons_succ, Act.put, List.setIfInBounds_toArray, List.set_cons_zero, List.set_cons_succ]
              refine wpAnyS_end hA rfl ?_
              simp only [List.drop_succ_cons, List.drop_zero]
              clear hF
              by_cases huv : u = v
              · have e6 : (!decide (u = v)) = false := by simp [huv]
                have HU := Lib.hid huv
                clear huv
                go_wp2_with fail
                go_roundg (ps.length - (k + 1))
                case measure => omega
                case rel => exact ⟨k + 1, by simp, rfl, by omega, by rw [T1.out, T2.out, HT.out, HU.out], hf3.drew⟩
              · have e6 : (!decide (u = v)) = true := by simp [huv]
                have e7 : addG m.reverse x ps = (5, m.reverse) := by rw [HADD.out, if_neg (HNE.out huv)]
                have HE := Lib.hid e7
                clear e7 huv
                go_wp2_with fail
                go_ret2
                exact ⟨_, c, nv, m, by rw [HE.out]; rfl, by rw [HE.out], hfw.step0 hf3.drew, .inl ⟨rfl, rfl, rfl⟩⟩
            · have ek : k = ps.length := by omega
              subst ek
              have e8 : q = ps := by
                have h9 := HT.out
                rw [List.take_length, ← HL.out, List.take_length] at h9
                exact h9
              have e7 : addG m.reverse x ps = (0, m.reverse) := by rw [HADD.out, if_pos e8]
              have HE := Lib.hid e7
              clear e7 e8
              go_wp2_with fail
              go_ret2
              exact ⟨_, c, nv, m, by rw [HE.out]; rfl, by rw [HE.out], hfw.step0 hf3, .inl ⟨rfl, rfl, rfl⟩⟩
        · have e5 : ((q.length : Int) != (ps.length : Int)) = true := by rw [bne_iff_ne]; omega
          have e7 : addG m.reverse x ps = (5, m.reverse) := by rw [HADD.out, if_neg (fun e => hl (by rw [e]))]
          have HE := Lib.hid e7
          clear e7 hl
          go_wp2_with fail
          refine wp_region_M 9 10 [⟨70368744177664, 1, 0⟩, ⟨140737488355328, 64, 0⟩, ⟨281474976710656, 211106232532992, 3⟩, ⟨562949953421312, 281474976710656, 4⟩, ⟨1125899906842624, 562949953421312, 8⟩, ⟨2251799813685248, 1125899906842624, 16⟩, ⟨4503599627370496, 8, 0⟩, ⟨9007199254740992, 4503599627370496, 64⟩, ⟨18014398509481984, 9007199254740992, 128⟩, ⟨36028797018963968, 20266198323167232, 288⟩] [(true, 0), (true, 1), (true, 2), (true, 3), (true, 4), (true, 5), (true, 6), (true, 7), (true, 8)] (fun w' => w'.cell? ⟨g, off + a * 33 + 32, none⟩ = some (.slice B2 q.length c2) ∧ w'.cell? ⟨B, 32, none⟩ = some (.slice P ps.length cP)) (by kernel_rfl) rfl (by kernel_rfl) (by kernel_rfl) (by kernel_rfl) F0 (fun hA hF => ?_)
          refine wpAnyS_take (v := ?_) hA rfl (fun _ _ _ h => h) (Or.inl ⟨by rfl, ?_⟩) hF (fun hA => ?_)
          rotate_left
          · intro wS hSw; (try dsimp only at hSw); obtain ⟨s1, s2⟩ := hSw; first | (apply Eq.trans; apply ex_ld_id; exact rfl; exact rfl; assumption; with_reducible rfl) | (apply Eq.trans; apply ex_ld_arr; exact rfl; exact rfl; assumption; with_reducible rfl) | (apply Eq.trans; apply ex_bldA0_at; exact rfl; with_reducible rfl) | (go_simp; try with_reducible rfl)
          try simp only [List.getElem_toArray, List.getElem_cons_zero, List.getElem_cons_succ, Act.put, List.setIfInBounds_toArray, List.set_cons_zero, List.set_cons_succ]
          refine wpAnyS_take (v := ?_) hA rfl (fun _ _ _ h => h) (Or.inl ⟨by rfl, ?_⟩) hF (fun hA => ?_)
          rotate_left
          · intro wS hSw; (try dsimp only at hSw); obtain ⟨s1, s2⟩ := hSw; first | (apply Eq.trans; apply ex_ld_id; exact rfl; exact rfl; assumption; with_reducible rfl) | (apply Eq.trans; apply ex_ld_arr; exact rfl; exact rfl; assumption; with_reducible rfl) | (apply Eq.trans; apply ex_bldA0_at; exact rfl; with_reducible rfl) | (go_simp; try with_reducible rfl)
          try simp only [List.getElem_toArray, List.getElem_cons_zero, List.getElem_cons_succ, Act.put, List.setIfInBounds_toArray, List.set_cons_zero, List.set_cons_succ]
          refine wpAnyS_take (v := ?_) hA rfl (fun _ _ _ h => h) (Or.inl ⟨by rfl, ?_⟩) hF (fun hA => ?_)
          rotate_left
          · intro wS hSw; (try dsimp only at hSw); obtain ⟨s1, s2⟩ := hSw; first | (apply Eq.trans; apply ex_ld_id; exact rfl; exact rfl; assumption; with_reducible rfl) | (apply Eq.trans; apply ex_ld_arr; exact rfl; exact rfl; assumption; with_reducible rfl) | (apply Eq.trans; apply ex_bldA0_at; exact rfl; with_reducible rfl) | (go_simp; try with_reducible rfl)
          try simp only [List.getElem_toArray, List.getElem_cons_zero, List.getElem_cons_succ, Act.put, List.setIfInBounds_toArray, List.set_cons_zero, List.set_cons_succ]
          refine wpAnyS_take (v := ?_) hA rfl (fun _ _ _ h => h) (Or.inl ⟨by rfl, ?_⟩) hF (fun hA => ?_)
          rotate_left
          · intro wS hSw; (try dsimp only at hSw); obtain ⟨s1, s2⟩ := hSw; first | (apply Eq.trans; apply ex_ld_id; exact rfl; exact rfl; assumption; with_reducible rfl) | (apply Eq.trans; apply ex_ld_arr; exact rfl; exact rfl; assumption; with_reducible rfl) | (apply Eq.trans; apply ex_bldA0_at; exact rfl; with_reducible rfl) | (go_simp; try with_reducible rfl)
          try simp only [List.getElem_toArray, List.getElem_cons_zero, List.getElem_cons_succ, Act.put, List.setIfInBounds_toArray, List.set_cons_zero, List.set_cons_succ]
          refine wpAnyS_take (v := ?_) hA rfl (fun _ _ _ h => h) (Or.inl ⟨by rfl, ?_⟩) hF (fun hA => ?_)
          rotate_left
          · intro wS hSw; (try dsimp only at hSw); obtain ⟨s1, s2⟩ := hSw; first | (apply Eq.trans; apply ex_ld_id; exact rfl; exact rfl; assumption; with_reducible rfl) | (apply Eq.trans; apply ex_ld_arr; exact rfl; exact rfl; assumption; with_reducible rfl) | (apply Eq.trans; apply ex_bldA0_at; exact rfl; with_reducible rfl) | (go_simp; try with_reducible rfl)
          try simp only [List.getElem_toArray, List.getElem_cons_zero, List.getElem_cons_succ, Act.put, List.setIfInBounds_toArray, List.set_cons_zero, List.set_cons_succ]
          refine wpAnyS_take (v := ?_) hA rfl (fun _ _ _ h => h) (Or.inl ⟨by rfl, ?_⟩) hF (fun hA => ?_)
          rotate_left
          · intro wS hSw; (try dsimp only at hSw); obtain ⟨s1, s2⟩ := hSw; first | (apply Eq.trans; apply ex_ld_id; exact rfl; exact rfl; assumption; with_reducible rfl) | (apply Eq.trans; apply ex_ld_arr; exact rfl; exact rfl; assumption; with_reducible rfl) | (apply Eq.trans; apply ex_bldA0_at; exact rfl; with_reducible rfl) | (go_simp; try with_reducible rfl)
          try simp only [List.getElem_toArray, List.getElem_cons_zero, List.getElem_cons_succ, Act.put, List.setIfInBounds_toArray, List.set_cons_zero, List.set_cons_succ]
          refine wpAnyS_take (v := ?_) hA rfl (fun _ _ _ h => h) (Or.inl ⟨by rfl, ?_⟩) hF (fun hA => ?_)
          rotate_left
          · intro wS hSw; (try dsimp only at hSw); obtain ⟨s1, s2⟩ := hSw; first | (apply Eq.trans; apply ex_ld_id; exact rfl; exact rfl; assumption; with_reducible rfl) | (apply Eq.trans; apply ex_ld_arr; exact rfl; exact rfl; assumption; with_reducible rfl) | (apply Eq.trans; apply ex_bldA0_at; exact rfl; with_reducible rfl) | (go_simp; try with_reducible rfl)
          try simp only [List.getElem_toArray, List.getElem_cons_zero, List.getElem_cons_succ, Act.put, List.setIfInBounds_toArray, List.set_cons_zero, List.set_cons_succ]
          refine wpAnyS_take (v := ?_) hA rfl (fun _ _ _ h => h) (Or.inl ⟨by rfl, ?_⟩) hF (fun hA => ?_)
          rotate_left
          · intro wS hSw; (try dsimp only at hSw); obtain ⟨s1, s2⟩ := hSw; first | (apply Eq.trans; apply ex_ld_id; exact rfl; exact rfl; assumption; with_reducible rfl) | (apply Eq.trans; apply ex_ld_arr; exact rfl; exact rfl; assumption; with_reducible rfl) | (apply Eq.trans; apply ex_bldA0_at; exact rfl; with_reducible rfl) | (go_simp; try with_reducible rfl)
          try simp only [List.getElem_toArray, List.getElem_cons_zero, List.getElem_cons_succ, Act.put, List.setIfInBounds_toArray, List.set_cons_zero, List.set_cons_succ]
          refine wpAnyS_take (v := ?_) hA rfl (fun _ _ _ h => h) (Or.inl ⟨by rfl, ?_⟩) hF (fun hA => ?_)
          rotate_left
          · intro wS hSw; (try dsimp only at hSw); obtain ⟨s1, s2⟩ := hSw; first | (apply Eq.trans; apply ex_ld_id; exact rfl; exact rfl; assumption; with_reducible rfl) | (apply Eq.trans; apply ex_ld_arr; exact rfl; exact rfl; assumption; with_reducible rfl) | (apply Eq.trans; apply ex_bldA0_at; exact rfl; with_reducible rfl) | (go_simp; try with_reducible rfl)
          try simp only [List.getElem_toArray, List.getElem_cons_zero, List.getElem_cons_succ, Act.put, List.setIfInBounds_toArray, List.set_cons_zero, List.set_cons_succ]
          refine wpAnyS_end hA rfl ?_
          simp only [List.drop_succ_cons, List.drop_zero]
          clear hF
          go_wp2_with fail
          go_ret2
          exact ⟨_, c, nv, m, by rw [HE.out]; rfl, by rw [HE.out], hfw.step0 (Fr.refl noB w2).drew, .inl ⟨rfl, rfl, rfl⟩⟩
      · have e1 : findI m x = -1 := by unfold findI; rw [if_neg hx]
        have hpn : parents m.reverse x = none := by
          have : ¬ (hasG m.reverse x = true) := fun hh => hx ((findN_has m x).2 hh)
          unfold hasG at this
          cases hp : parents m.reverse x with
          | none => rfl
          | some q => rw [hp] at this; exact absurd rfl this
        have hadd : addG m.reverse x ps = if ps.all (hasG m.reverse) then (0, (x, ps) :: m.reverse) else (110, m.reverse) := by simp [addG, HR.out, hpn]
        have HADD := Lib.hid hadd
        rw [e1]
        clear e1 hpn hadd
        go_wp2_with fail
        go_loopg [8] ps.length (fun gk kv wr => RaP w2 m.reverse ps gk kv wr)
        case atStart => exact ⟨0, rfl, rfl, by omega, by simp, Fr.refl _ _⟩
        case round =>
          obtain ⟨k, rfl, rfl, hkl, ht, hf3⟩ := hrel
          have HT := Lib.hid ht
          clear ht
          obtain ⟨b1, b2⟩ := HBX.out _ (hf2.step0 hf3)
          by_cases hlk : k < ps.length
          · have k0 : (0 : Int) ≤ (k : Int) := by omega
            have k1 : (k : Int) < (ps.length : Int) := by omega
            obtain ⟨gp, op, rfl⟩ := hP2.ad (by omega)
            have rp := (hP2.fr0 hf3).id k hlk
            have t2 : ps.take (k + 1) = ps.take k ++ [ps[k]] := List.take_succ_eq_append_getElem hlk
            have hin : hasG m.reverse ps[k] = false → ps.all (hasG m.reverse) = false := fun h => by
              rw [← Bool.not_eq_true, List.all_eq_true]
              intro ha
              have := ha _ (List.getElem_mem hlk)
              rw [h] at this; cases this
            generalize ps[k] = v at rp t2 hin
            have T2 := Lib.hid t2
            have HIN := Lib.hid hin
            clear t2 hin
            go_wp2_with fail
            go_at_call 15
            refine (find_any _ A c _ m rfl (h2.fr0 hf3) hb v).mono ?_
            rintro e w3 ⟨rfl, f3⟩
            by_cases hv : findN m v < m.length
            · have e1 : findI m v = (findN m v : Int) := by unfold findI; rw [if_pos hv]
              have hh := (findN_has m v).1 hv
              have HH := Lib.hid hh
              rw [e1]
              have n1 : decide (((findN m v : Nat) : Int) < 0) = false := by simp
              clear e1 hh
              generalize findN m v = fv at n1 hv ⊢
              go_wp2_with fail
              go_roundg (ps.length - (k + 1))
              case measure => omega
              case rel => exact ⟨k + 1, by simp, rfl, by omega, fun p hp => by
                rw [T2.out] at hp
                rcases List.mem_append.1 hp with h | h
                · exact HT.out p h
                · rw [List.mem_singleton] at h; rw [h]; exact HH.out, hf3.step0 f3⟩
            · have e1 : findI m v = -1 := by unfold findI; rw [if_neg hv]
              have hh : hasG m.reverse v = false := by
                rw [← Bool.not_eq_true]; exact fun h => hv ((findN_has m v).2 h)
              have e7 : addG m.reverse x ps = (110, m.reverse) := by rw [HADD.out, HIN.out hh]; rfl
              have HE := Lib.hid e7
              have n1 : decide ((-1 : Int) < 0) = true := by decide
              rw [e1]
              clear e1 hh e7
              go_wp2_with fail
              go_ret2
              exact ⟨A, c, nv, m, by rw [HE.out]; rfl, by rw [HE.out], (hfw.step0 hf3).step0 f3, .inl ⟨rfl, rfl, rfl⟩⟩
          · have ek : k = ps.length := by omega
            subst ek
            have hall : ps.all (hasG m.reverse) = true := by
              have := HT.out
              rw [List.take_length] at this
              exact List.all_eq_true.2 this
            have e7 : addG m.reverse x ps = (0, (x, ps) :: m.reverse) := by rw [HADD.out, if_pos hall]
            have HE := Lib.hid e7
            clear e7 hall
            obtain ⟨wq, ewq⟩ : ∃ wq, wq = wr := ⟨wr, rfl⟩
            subst ewq
            have hfq := hf2.step0 hf3
            have hsl := hsl1.fr0 hfq
            have hnd := hnd1.fr0 hfq
            have hln := hnd.len
            have hfwq := hfw.step0 hf3
            have ow : OwnN wq.heap.size (wq.alloc (.cells #[] 39)) (some ⟨wq.heap.size, 0, none⟩) 0 [] :=
              World.ownsRow_lit (base := wq.heap.size) (e := 39) (size := 33) wq #[] 0 (Nat.le_refl _) (by simp [maxLen]) rfl
            have f5 : Fr noB wq (wq.alloc (.cells #[] 39)) := (Fr.refl noB wq).alloc _
            have h23 := hf3
            clear hf3
            go_wp2_with fail
            clear b1 b2
            go_loopg [9, 10] nv.length (fun gk ov kv wr => RaC wq nv gk ov kv wr)
            case atStart => exact ⟨0, _, 0, rfl, rfl, by omega, rfl, ow, f5⟩
            case round =>
              obtain ⟨k, A4, c4, rfl, rfl, hkl, rfl, ho, hf6⟩ := hrel
              clear ow f5
              by_cases hlk : k < nv.length
              · have k0 : (0 : Int) ≤ (k : Int) := by omega
                have k1 : (k : Int) < (m.length : Int) := by omega
                obtain ⟨g, off, e9⟩ := (h1.fr0 hfq).ad (by omega)
                subst e9
                have hrd := (hsl.fr0 hf6).ln k hlk
                obtain ⟨-, Bp, cp, ev, -⟩ := hnd.at k (by omega) hlk
                have hisl : isSl (nv[k]).2 = true := by rw [ev]; rfl
                have hld := ldR_at hrd
                have hts : nv.take (k + 1) = nv.take k ++ [nv[k]] := List.take_succ_eq_append_getElem hlk
                have htl : (nv.take k).length = k := by rw [List.length_take]; omega
                generalize nv[k] = y at hld hts hisl
                have HTS := Lib.hid hts
                have HTL := Lib.hid htl
                clear hts htl ev hrd
                have sly := rnR_new wr [y]
                have fay : Fr noB wr (wr.alloc (.cells (lnRA [y]) 39)) := (Fr.refl noB wr).alloc _
                have hoy : OwnN wq.heap.size (wr.alloc (.cells (lnRA [y]) 39)) A4 c4 (nv.take k) := own_fr ho fay (fun _ _ => by simp [noB])
                have hly : (nv.take k).length ≤ 100000000 := by rw [HTL.out]; omega
                have fby := hf6.step0 fay
                go_wp2_with (at_builtin; refine wpList_appN wq _ rfl _ _ rfl A4 _ c4 (nv.take k) rfl (by first | rfl | simp) hoy _ _ y hisl rfl sly hly fby ?_; intro A7 c7 w7 ho7 f7)
                go_roundg (nv.length - (k + 1))
                case measure => omega
                case rel => exact ⟨k + 1, A7, c7, by simp, rfl, by omega, by rw [HTS.out]; have := HTL.out; simp only [List.length_append, List.length_cons, List.length_nil, this]; congr 1; omega, by rw [HTS.out]; exact ho7, f7⟩
              · have ek : k = nv.length := by omega
                subst ek
                rw [List.take_length] at ho
                have hld := ldR_at (HRN.out _ (hfq.step0 hf6))
                have sly := rnR_new wr [(x, .slice P ps.length cP)]
                have fay : Fr noB wr (wr.alloc (.cells (lnRA [(x, .slice P ps.length cP)]) 39)) := (Fr.refl noB wr).alloc _
                have hoy : OwnN wq.heap.size (wr.alloc (.cells (lnRA [(x, .slice P ps.length cP)]) 39)) A4 c4 nv := own_fr ho fay (fun _ _ => by simp [noB])
                have hly : nv.length ≤ 100000000 := by omega
                have fby := hf6.step0 fay
                rw [List.take_length]
                go_wp2_with (at_builtin; refine wpList_appN wq _ rfl _ _ rfl A4 _ c4 nv rfl (by first | rfl | simp) hoy _ _ (x, .slice P ps.length cP) rfl rfl sly hly fby ?_; intro A7 c7 w7 ho7 f7)
                go_ret2
                have hl7 : (nv ++ [(x, Value.slice P ps.length cP)]).length = (m ++ [(x, ps)]).length := by simp [hln]
                have hq := own_base ho7 hfwq.size
                refine ⟨A7, c7, nv ++ [(x, .slice P ps.length cP)], m ++ [(x, ps)], ?_, ?_, hfwq.step0 f7, ?_⟩
                · rw [HE.out, ← hl7]; first | rfl | (simp; done) | (simp; omega)
                · rw [HE.out]; simp
                · right
                  refine ⟨?_, ?_, hq⟩
                  · rfl
                  · rfl
end Go.Proofs.Ytchiclnnoealdaa
