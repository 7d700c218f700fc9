/- Contracts: the maker's flush. -/
import Derived.Test.YtifgaejmhaepoaaNumW
import Derived.Test.YtifgaejmhaepoaaTwo
import Derived.Test.YtifgaejmhaepoaaReg
import Derived.Deep.RegionHeld3
namespace Go.Proofs.Ytifgaejmhaepoaa
open Go.RowKit
set_option linter.unusedVariables false
set_option linter.unusedSimpArgs false

/-- append on bytes as one step of a region that draws -/
theorem step_appC (w0 w : World) {ops : Array Oper} {o : Oper} {a : Act} {K : Act → World → Prop} {Q : Exit → Act → World → Prop} {E : Prop} (hgd : o.guard = none) (s x : Operand)
    (ho : o.op = .call { callee := .builtin .append, args := #[s, x], argTypes := #[22, 22] })
    (As : Option Addr) (ns cs : Nat) (lo : List UInt8) (hs : a.eval s = .slice As ns cs) (hns : lo.length = ns) (hown : OwnB w0 w As cs lo)
    (A : Option Addr) (m c : Nat) (news : List UInt8) (hx : a.eval x = .slice A m c) (hr : Sl w A (bv news)) (hl : news.length = m)
    (hbytes : lo.length + news.length ≤ 140737488355328) (hbase : w0.heap.size ≤ w.heap.size)
    (h : ∀ A' c' w', (lo ++ news).length ≤ c' → c' ≤ maxLen → OwnB w0 w' A' c' (lo ++ news) → w.grownBy w' (As.map (·.block)) →
      (A'.map (·.block) = As.map (·.block) ∨ A'.map (·.block) = some w.heap.size) → K (a.put o.dst (.slice A' (lo ++ news).length c')) w') :
    if Region.wanted o (yielded ops a.tmps) = true then Oper.wp Try.prog o a w K Q else E := by
  have hw : Region.wanted o (yielded ops a.tmps) = true := by simp [Region.wanted, hgd]
  rw [if_pos hw]
  subst hns
  refine wp_app w etBytes s x ho w0.heap.size _ lo.length (bv lo) hs hown A m c (bv news) hx hr (by simp [hl]) (bv_one _) (by rw [← hl]; omega) hbase ?_
  intro v' w' h1 h2 h3
  rw [← bv_append] at h1
  have h1' := own_bv h1
  obtain ⟨A', c', rfl, hc1, hc2⟩ := own_form h1'
  rw [ownBlock_slice, ownBlock_slice] at h3
  rw [ownBlock_slice] at h2
  have e : lo.length + m = (lo ++ news).length := by simp [hl]
  exact h A' c' w' hc1 hc2 h1' h2 h3

theorem enum_v (w : World) (A : Option Addr) (c : Nat) (l : List UInt8) (k : Nat) (hk : l.length = k) (hs : Sl w A (bv l)) (hl : l.length ≤ 140737488355000) (n : Nat) (hn : n ≤ 4611686018427387904) (v : Int) (hv : v = (n : Int)) :
    Calls Try.prog 23 #[.slice A k c, .int .i64 v] w (NewBytes w (l ++ numB n)) := by subst hv; exact enum_n w A c l k hk hs hl n hn
theorem drewF (w : World) : Fr noB w w.drew := (Fr.refl noB w).drew

/-- a maker: its bytes, its map's block r, what is out, from where on is own -/
def MkB (w : World) (p : Nat) (A : Option Addr) (nb cb : Nat) (T : Option Addr) (nt ct : Nat) (mv : Value) (O : Option Addr) (no co : Nat) (own : Nat) : Prop :=
  Blk w p 54 [.slice A nb cb, .slice T nt ct, mv, .slice O no co, .int .i64 own]

def FlushTo (w : World) (p : Nat) (A : Option Addr) (nb cb : Nat) (T : Option Addr) (nt ct : Nat) (mv : Value) (out : List UInt8) (own : Nat) (e : Ending) (w' : World) : Prop :=
  ∃ O co, e = .returned (.tuple #[]) ∧ MkB w' p A nb cb T nt ct mv O out.length co own ∧ out.length ≤ co ∧ Sl w' O (bv out) ∧ Off O (fun b => b ≠ p) ∧ Fr (oneB p) w w'

set_option maxRecDepth 100000 in
set_option maxHeartbeats 2000000 in
theorem flush_some (w : World) (p : Nat) (A : Option Addr) (nb cb : Nat) (T : Option Addr) (ct : Nat) (target : List UInt8) (mv : Value) (O : Option Addr) (co : Nat) (out : List UInt8) (own at_ : Nat)
    (h : MkB w p A nb cb T target.length ct mv O out.length co own) (hT : Sl w T (bv target)) (hO : Sl w O (bv out)) (ht : target.length ≤ 1048576) (hct : target.length ≤ ct) (hol : out.length ≤ 100000000000)
    (h1 : own < at_) (h2 : at_ ≤ target.length) :
    Calls Try.prog 27 #[.pointer (some ⟨p, 0, none⟩), .int .i64 at_] w (FlushTo w p A nb cb T target.length ct mv (out ++ numB (2 * (at_ - own)) ++ (target.drop own).take (at_ - own)) at_) := by
  have hlt : p < w.heap.size := Blk.lt h
  have c1 : w.cell? ⟨p, 1, none⟩ = some (.slice T target.length ct) := Blk.cell h 1
  have c3 : w.cell? ⟨p, 3, none⟩ = some (.slice O out.length co) := Blk.cell h 3
  have c4 : w.cell? ⟨p, 4, none⟩ = some (.int .i64 own) := Blk.cell h 4
  have f3 := Blk.frozen h 3
  have f4 := Blk.frozen h 4
  have hn := numB_length (2 * (at_ - own)) (by omega)
  have hp1 : IntKind.i64.wrap ((at_ : Int) - own) = ((at_ - own : Nat) : Int) := by rw [IntKind.wrap_i64]; omega
  have hp2 : IntKind.i64.wrap (2 * ((at_ - own : Nat) : Int)) = ((2 * (at_ - own) : Nat) : Int) := by rw [IntKind.wrap_i64]; omega
  have b1 : (0 : Int) ≤ own := by omega
  have b2 : (own : Int) ≤ at_ := by omega
  have b3 : (at_ : Int) ≤ ct := by omega
  have HS : Sl w (cutA T ct own 1) (bv ((target.drop own).take (at_ - own))) := (hT.cutB (k := own) hct).takeB
  go_enter Try.func27, Try.ntmps27
  go_wp2_with fail
  refine wp_region_N 24 (fun w' => w'.cell? ⟨p, 1, none⟩ = some (.slice T target.length ct) ∧ w'.cell? ⟨p, 3, none⟩ = some (.slice O out.length co) ∧ w'.cell? ⟨p, 4, none⟩ = some (.int .i64 own)) (by kernel_rfl) (by kernel_rfl) ⟨c1, c3, c4⟩ (fun hA hF => ?_)
  refine wpAnyN_take (i := 0) (v := ?_) hA rfl (by decide) (by kernel_rfl) (by kernel_rfl) (fun _ _ _ h => h) (Or.inl ⟨by rfl, ?_⟩) hF (fun hA => ?_)
  rotate_left
  · intro wS hSw; (try dsimp only at hSw); obtain ⟨s1, s3, s4⟩ := hSw; go_simp; try with_reducible rfl
  try simp only [List.getElem_toArray, List.getElem_cons_zero, List.getElem_cons_succ, Act.put, List.setIfInBounds_toArray, List.set_cons_zero, List.set_cons_succ]
  refine wpAnyN_take (i := 1) (v := ?_) hA rfl (by decide) (by kernel_rfl) (by kernel_rfl) (fun _ _ _ h => h) (Or.inl ⟨by rfl, ?_⟩) hF (fun hA => ?_)
  rotate_left
  · intro wS hSw; (try dsimp only at hSw); obtain ⟨s1, s3, s4⟩ := hSw; go_simp; try with_reducible rfl
  try simp only [List.getElem_toArray, List.getElem_cons_zero, List.getElem_cons_succ, Act.put, List.setIfInBounds_toArray, List.set_cons_zero, List.set_cons_succ]
  refine wpAnyN_take (i := 2) (v := ?_) hA rfl (by decide) (by kernel_rfl) (by kernel_rfl) (fun _ _ _ h => h) (Or.inl ⟨by rfl, ?_⟩) hF (fun hA => ?_)
  rotate_left
  · intro wS hSw; (try dsimp only at hSw); obtain ⟨s1, s3, s4⟩ := hSw; go_simp; try with_reducible rfl
  try simp only [List.getElem_toArray, List.getElem_cons_zero, List.getElem_cons_succ, Act.put, List.setIfInBounds_toArray, List.set_cons_zero, List.set_cons_succ]
  refine wpAnyN_take (i := 3) (v := ?_) hA rfl (by decide) (by kernel_rfl) (by kernel_rfl) (fun _ _ _ h => h) (Or.inl ⟨by rfl, ?_⟩) hF (fun hA => ?_)
  rotate_left
  · intro wS hSw; (try dsimp only at hSw); obtain ⟨s1, s3, s4⟩ := hSw; go_simp; try with_reducible rfl
  try simp only [List.getElem_toArray, List.getElem_cons_zero, List.getElem_cons_succ, Act.put, List.setIfInBounds_toArray, List.set_cons_zero, List.set_cons_succ]
  refine wpAnyN_take (i := 4) (v := ?_) hA rfl (by decide) (by kernel_rfl) (by kernel_rfl) (fun _ _ _ h => h) (Or.inl ⟨by rfl, ?_⟩) hF (fun hA => ?_)
  rotate_left
  · intro wS hSw; (try dsimp only at hSw); obtain ⟨s1, s3, s4⟩ := hSw; go_simp; try with_reducible rfl
  try simp only [List.getElem_toArray, List.getElem_cons_zero, List.getElem_cons_succ, Act.put, List.setIfInBounds_toArray, List.set_cons_zero, List.set_cons_succ]
  refine wpAnyN_take (i := 5) (v := ?_) hA rfl (by decide) (by kernel_rfl) (by kernel_rfl) (fun _ _ _ h => h) (Or.inl ⟨by rfl, ?_⟩) hF (fun hA => ?_)
  rotate_left
  · intro wS hSw; (try dsimp only at hSw); obtain ⟨s1, s3, s4⟩ := hSw; go_simp; try with_reducible rfl
  try simp only [List.getElem_toArray, List.getElem_cons_zero, List.getElem_cons_succ, Act.put, List.setIfInBounds_toArray, List.set_cons_zero, List.set_cons_succ]
  refine wpAnyN_take (i := 6) (v := ?_) hA rfl (by decide) (by kernel_rfl) (by kernel_rfl) (fun _ _ _ h => h) (Or.inl ⟨by rfl, ?_⟩) hF (fun hA => ?_)
  rotate_left
  · intro wS hSw; (try dsimp only at hSw); obtain ⟨s1, s3, s4⟩ := hSw; go_simp; try with_reducible rfl
  try simp only [List.getElem_toArray, List.getElem_cons_zero, List.getElem_cons_succ, Act.put, List.setIfInBounds_toArray, List.set_cons_zero, List.set_cons_succ]
  refine wpAnyN_take (i := 7) (v := ?_) hA rfl (by decide) (by kernel_rfl) (by kernel_rfl) (fun _ _ _ h => h) (Or.inl ⟨by rfl, ?_⟩) hF (fun hA => ?_)
  rotate_left
  · intro wS hSw; (try dsimp only at hSw); obtain ⟨s1, s3, s4⟩ := hSw; go_simp; try with_reducible rfl
  try simp only [List.getElem_toArray, List.getElem_cons_zero, List.getElem_cons_succ, Act.put, List.setIfInBounds_toArray, List.set_cons_zero, List.set_cons_succ]
  refine wpAnyN_take (i := 8) (v := ?_) hA rfl (by decide) (by kernel_rfl) (by kernel_rfl) (fun _ _ _ h => h) (Or.inl ⟨by rfl, ?_⟩) hF (fun hA => ?_)
  rotate_left
  · intro wS hSw; (try dsimp only at hSw); obtain ⟨s1, s3, s4⟩ := hSw; go_simp; try with_reducible rfl
  try simp only [List.getElem_toArray, List.getElem_cons_zero, List.getElem_cons_succ, Act.put, List.setIfInBounds_toArray, List.set_cons_zero, List.set_cons_succ]
  refine wpAnyN_take (i := 9) (v := ?_) hA rfl (by decide) (by kernel_rfl) (by kernel_rfl) (fun _ _ _ h => h) (Or.inl ⟨by rfl, ?_⟩) hF (fun hA => ?_)
  rotate_left
  · intro wS hSw; (try dsimp only at hSw); obtain ⟨s1, s3, s4⟩ := hSw; go_simp; try with_reducible rfl
  try simp only [List.getElem_toArray, List.getElem_cons_zero, List.getElem_cons_succ, Act.put, List.setIfInBounds_toArray, List.set_cons_zero, List.set_cons_succ]
  refine wpAnyN_take (i := 10) (v := ?_) hA rfl (by decide) (by kernel_rfl) (by kernel_rfl) (fun _ _ _ h => h) (Or.inl ⟨by rfl, ?_⟩) hF (fun hA => ?_)
  rotate_left
  · intro wS hSw; (try dsimp only at hSw); obtain ⟨s1, s3, s4⟩ := hSw; go_simp; try with_reducible rfl
  try simp only [List.getElem_toArray, List.getElem_cons_zero, List.getElem_cons_succ, Act.put, List.setIfInBounds_toArray, List.set_cons_zero, List.set_cons_succ]
  refine wpAnyN_take (i := 11) (v := ?_) hA rfl (by decide) (by kernel_rfl) (by kernel_rfl) (fun _ _ _ h => h) (Or.inl ⟨by rfl, ?_⟩) hF (fun hA => ?_)
  rotate_left
  · intro wS hSw; (try dsimp only at hSw); obtain ⟨s1, s3, s4⟩ := hSw; go_simp; try with_reducible rfl
  try simp only [List.getElem_toArray, List.getElem_cons_zero, List.getElem_cons_succ, Act.put, List.setIfInBounds_toArray, List.set_cons_zero, List.set_cons_succ]
  refine wpAnyN_take (i := 13) (v := ?_) hA rfl (by decide) (by kernel_rfl) (by kernel_rfl) (fun _ _ _ h => h) (Or.inl ⟨by rfl, ?_⟩) hF (fun hA => ?_)
  rotate_left
  · intro wS hSw; (try dsimp only at hSw); obtain ⟨s1, s3, s4⟩ := hSw; go_simp; try with_reducible rfl
  try simp only [List.getElem_toArray, List.getElem_cons_zero, List.getElem_cons_succ, Act.put, List.setIfInBounds_toArray, List.set_cons_zero, List.set_cons_succ]
  refine wpAnyN_take (i := 14) (v := ?_) hA rfl (by decide) (by kernel_rfl) (by kernel_rfl) (fun _ _ _ h => h) (Or.inl ⟨by rfl, ?_⟩) hF (fun hA => ?_)
  rotate_left
  · intro wS hSw; (try dsimp only at hSw); obtain ⟨s1, s3, s4⟩ := hSw; go_simp; try with_reducible rfl
  try simp only [List.getElem_toArray, List.getElem_cons_zero, List.getElem_cons_succ, Act.put, List.setIfInBounds_toArray, List.set_cons_zero, List.set_cons_succ]
  refine wpAnyN_take (i := 15) (v := ?_) hA rfl (by decide) (by kernel_rfl) (by kernel_rfl) (fun _ _ _ h => h) (Or.inl ⟨by rfl, ?_⟩) hF (fun hA => ?_)
  rotate_left
  · intro wS hSw; (try dsimp only at hSw); obtain ⟨s1, s3, s4⟩ := hSw; go_simp; try with_reducible rfl
  try simp only [List.getElem_toArray, List.getElem_cons_zero, List.getElem_cons_succ, Act.put, List.setIfInBounds_toArray, List.set_cons_zero, List.set_cons_succ]
  refine wpAnyN_take (i := 16) (v := ?_) hA rfl (by decide) (by kernel_rfl) (by kernel_rfl) (fun _ _ _ h => h) (Or.inl ⟨by rfl, ?_⟩) hF (fun hA => ?_)
  rotate_left
  · intro wS hSw; (try dsimp only at hSw); obtain ⟨s1, s3, s4⟩ := hSw; go_simp; try with_reducible rfl
  try simp only [List.getElem_toArray, List.getElem_cons_zero, List.getElem_cons_succ, Act.put, List.setIfInBounds_toArray, List.set_cons_zero, List.set_cons_succ]
  refine wpAnyN_take (i := 17) (v := ?_) hA rfl (by decide) (by kernel_rfl) (by kernel_rfl) (fun _ _ _ h => h) (Or.inl ⟨by rfl, ?_⟩) hF (fun hA => ?_)
  rotate_left
  · intro wS hSw; (try dsimp only at hSw); obtain ⟨s1, s3, s4⟩ := hSw; go_simp; try with_reducible rfl
  try simp only [List.getElem_toArray, List.getElem_cons_zero, List.getElem_cons_succ, Act.put, List.setIfInBounds_toArray, List.set_cons_zero, List.set_cons_succ]
  refine wpAnyN_take (i := 18) (v := ?_) hA rfl (by decide) (by kernel_rfl) (by kernel_rfl) (fun _ _ _ h => h) (Or.inl ⟨by rfl, ?_⟩) hF (fun hA => ?_)
  rotate_left
  · intro wS hSw; (try dsimp only at hSw); obtain ⟨s1, s3, s4⟩ := hSw; go_simp; try with_reducible rfl
  try simp only [List.getElem_toArray, List.getElem_cons_zero, List.getElem_cons_succ, Act.put, List.setIfInBounds_toArray, List.set_cons_zero, List.set_cons_succ]
  refine wpAnyN_take (i := 19) (v := ?_) hA rfl (by decide) (by kernel_rfl) (by kernel_rfl) (fun _ _ _ h => h) (Or.inl ⟨by rfl, ?_⟩) hF (fun hA => ?_)
  rotate_left
  · intro wS hSw; (try dsimp only at hSw); obtain ⟨s1, s3, s4⟩ := hSw; go_simp; try with_reducible rfl
  try simp only [List.getElem_toArray, List.getElem_cons_zero, List.getElem_cons_succ, Act.put, List.setIfInBounds_toArray, List.set_cons_zero, List.set_cons_succ]
  refine wpAnyN_take (i := 20) (v := ?_) hA rfl (by decide) (by kernel_rfl) (by kernel_rfl) (fun _ _ _ h => h) (Or.inl ⟨by rfl, ?_⟩) hF (fun hA => ?_)
  rotate_left
  · intro wS hSw; (try dsimp only at hSw); obtain ⟨s1, s3, s4⟩ := hSw; go_simp; try with_reducible rfl
  try simp only [List.getElem_toArray, List.getElem_cons_zero, List.getElem_cons_succ, Act.put, List.setIfInBounds_toArray, List.set_cons_zero, List.set_cons_succ]
  refine wpAnyN_take (i := 21) (v := ?_) hA rfl (by decide) (by kernel_rfl) (by kernel_rfl) (fun _ _ _ h => h) (Or.inl ⟨by rfl, ?_⟩) hF (fun hA => ?_)
  rotate_left
  · intro wS hSw; (try dsimp only at hSw); obtain ⟨s1, s3, s4⟩ := hSw; go_simp; try with_reducible rfl
  try simp only [List.getElem_toArray, List.getElem_cons_zero, List.getElem_cons_succ, Act.put, List.setIfInBounds_toArray, List.set_cons_zero, List.set_cons_succ]
  refine wpAnyN_take (i := 22) (v := ?_) hA rfl (by decide) (by kernel_rfl) (by kernel_rfl) (fun _ _ _ h => h) (Or.inl ⟨by rfl, ?_⟩) hF (fun hA => ?_)
  rotate_left
  · intro wS hSw; (try dsimp only at hSw); obtain ⟨s1, s3, s4⟩ := hSw; go_simp; try with_reducible rfl
  try simp only [List.getElem_toArray, List.getElem_cons_zero, List.getElem_cons_succ, Act.put, List.setIfInBounds_toArray, List.set_cons_zero, List.set_cons_succ]
  refine wpAnyN_one (i := 12) hA (by kernel_rfl) (by decide) rfl (fun K hK => ?_)
  go_simp
  go_at_call 23
  refine (enum_v _ O co out _ rfl (hO.fr0 (drewF w)) (by omega) (2 * (at_ - own)) (by omega) _ (by simp)).mono ?_
  rintro e w1 ⟨A1, k1, rfl, ho1, hf1⟩
  have F1 := (drewF w).step0 hf1
  have d1 := (World.cell?_of_block (a := ⟨p, 1, none⟩) (F1.block p hlt (by simp [noB]))).trans c1
  have d3 := (World.cell?_of_block (a := ⟨p, 3, none⟩) (F1.block p hlt (by simp [noB]))).trans c3
  have d4 := (World.cell?_of_block (a := ⟨p, 4, none⟩) (F1.block p hlt (by simp [noB]))).trans c4
  refine hK.out _ _ ⟨d1, d3, d4⟩ (fun hA => ?_)
  clear hK K
  have hF1 : (fun w' : World => w'.cell? ⟨p, 1, none⟩ = some (.slice T target.length ct) ∧ w'.cell? ⟨p, 3, none⟩ = some (.slice O out.length co) ∧ w'.cell? ⟨p, 4, none⟩ = some (.int .i64 own)) w1 := ⟨d1, d3, d4⟩
  refine wpAnyN_one (i := 23) hA (by kernel_rfl) (by decide) rfl (fun K hK => ?_)
  refine step_appC w _ rfl _ _ rfl A1 _ k1 (out ++ numB (2 * (at_ - own))) rfl (by simp) ho1 (cutA T ct own 1) _ _ ((target.drop own).take (at_ - own)) rfl (HS.fr0 F1) (by simp; omega) (by simp; omega) F1.size ?_
  intro A2 k2 w2 hc2 hm2 ho2 hg2 hb2
  have F2 := own_grow (w0 := w) ho1 F1 hg2
  have e1 := (World.cell?_of_block (a := ⟨p, 1, none⟩) (F2.block p hlt (by simp [noB]))).trans c1
  have e3 := (World.cell?_of_block (a := ⟨p, 3, none⟩) (F2.block p hlt (by simp [noB]))).trans c3
  have e4 := (World.cell?_of_block (a := ⟨p, 4, none⟩) (F2.block p hlt (by simp [noB]))).trans c4
  have g3 := (World.frozen?_of_block (a := ⟨p, 3, none⟩) (F2.block p hlt (by simp [noB]))).trans f3
  have g4 := (World.frozen?_of_block (a := ⟨p, 4, none⟩) (F2.block p hlt (by simp [noB]))).trans f4
  refine hK.out _ _ ⟨e1, e3, e4⟩ (fun hA => ?_)
  clear hK K hF1 d1 d3 d4
  refine wpAnyN_end rfl (by kernel_rfl) ?_
  simp only [List.drop_succ_cons, List.drop_zero]
  go_wp2
  go_end0
  have hset := ((Blk.fr h F2 (by simp [noB])).set 3 (.slice A2 (out ++ numB (2 * (at_ - own)) ++ (target.drop own).take (at_ - own)).length k2)).set 4 (.int .i64 at_)
  have hoff : Off A2 (fun b => b ≠ p) := by
    intro a ha
    have := (ho2.lt a.block (by rw [ha]; rfl)).1
    omega
  have hFr : Fr (oneB p) w2 ((w2.setCell ⟨p, 3, none⟩ (.slice A2 (out ++ numB (2 * (at_ - own)) ++ (target.drop own).take (at_ - own)).length k2)).setCell ⟨p, 4, none⟩ (.int .i64 at_)) :=
    ((Fr.refl (oneB p) w2).setCell (p := ⟨p, 3, none⟩) (fun _ => rfl) _).setCell (p := ⟨p, 4, none⟩) (fun _ => rfl) _
  have hsl := (Sl.own ho2).fr hFr (hoff.mono (fun b hb hx => hb hx))
  have hF := (Fr.any F2 (M := oneB p)).trans hFr (fun _ _ hx => hx)
  refine ⟨A2, k2, rfl, ?_, ?_, ?_, hoff, ?_⟩
  · unfold MkB
    simpa [List.append_assoc] using hset
  · simpa [List.append_assoc] using hc2
  · simpa [List.append_assoc] using hsl
  · simpa [List.append_assoc] using hF

set_option maxRecDepth 100000 in
theorem flush_none (w : World) (p : Nat) (A : Option Addr) (nb cb : Nat) (T : Option Addr) (nt ct : Nat) (mv : Value) (O : Option Addr) (co : Nat) (out : List UInt8) (own at_ : Nat)
    (h : MkB w p A nb cb T nt ct mv O out.length co own) (hO : Sl w O (bv out)) (hoff : Off O (fun b => b ≠ p)) (hco : out.length ≤ co) (h1 : at_ ≤ own) :
    Calls Try.prog 27 #[.pointer (some ⟨p, 0, none⟩), .int .i64 at_] w (FlushTo w p A nb cb T nt ct mv out at_) := by
  have c4 : w.cell? ⟨p, 4, none⟩ = some (.int .i64 own) := Blk.cell h 4
  have f4 := Blk.frozen h 4
  go_enter Try.func27, Try.ntmps27
  go_wp2
  go_end0
  have hset := Blk.set h 4 (.int .i64 at_)
  have hFr : Fr (oneB p) w (w.setCell ⟨p, 4, none⟩ (.int .i64 at_)) := (Fr.refl (oneB p) w).setCell (p := ⟨p, 4, none⟩) (fun _ => rfl) _
  exact ⟨O, co, rfl, by unfold MkB; simpa using hset, hco, hO.fr hFr (hoff.mono (fun b hb hx => hb hx)), hoff, hFr⟩
end Go.Proofs.Ytifgaejmhaepoaa
