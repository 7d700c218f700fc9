/- Contracts: stamp.put, obj.at. -/
import Derived.Test.YtejkfekpgbmdiaaGreatStV
namespace Go.Proofs.YtejkfekpgbmdiaaGreat
open Go.RowKit
set_option linter.unusedVariables false
set_option linter.unusedSimpArgs false

structure StAt (w : World) (b : Nat) (s : St) : Prop where
  T : w.cell? ⟨b, 0, none⟩ = some (.int .i64 s.T)
  R : w.cell? ⟨b, 1, none⟩ = some (.int .i64 s.R)
  self : codS.rd w b 0 = some s
theorem stAt {w : World} {b : Nat} {r : St} (h : codS.rd w b 0 = some r) : StAt w b r := by
  have e (k : Nat) {v : Value} (hv : (codS.cs r)[k]? = some v) := by simpa using Cod.rd_cell h k hv
  exact ⟨e 0 rfl, e 1 rfl, h⟩
theorem StAt.fr {w w' : World} {b : Nat} {r : St} (h : StAt w b r) (f : Fr noB w w') : StAt w' b r := stAt (Cod.rd_fr0 h.self f)
/-- may stand in bytes -/
def okSt (s : St) : Prop := 0 ≤ s.T ∧ s.T ≤ 4611686018427387904 ∧ 0 ≤ s.R ∧ s.R ≤ 4611686018427387904
theorem stB_len {s : St} (h : okSt s) : (stB s).length ≤ 20 := by
  obtain ⟨h1, h2, h3, h4⟩ := h
  unfold stB
  rw [List.length_append]
  have h1 := numB_length s.T.toNat (by omega)
  have h2 := numB_length s.R.toNat (by omega)
  omega
theorem okSt_of {s : St} (hr : rightS s = true) : okSt s := by
  simp only [rightS, Bool.and_eq_true, decide_eq_true_eq] at hr
  exact ⟨by omega, by omega, by omega, by omega⟩
theorem enum_z (w : World) (A : Option Addr) (c : Nat) (l : List UInt8) (k : Nat) (hk : l.length = k) (hs : Sl w A (bv l)) (hl : l.length ≤ 140737488355000) (z : Int) (n : Nat) (hz : (n : Int) = z) (hn : n ≤ 4611686018427387904) :
    Calls Tryz.prog 39 #[.slice A k c, .int .i64 z] w (NewBytes w (l ++ numB n)) := by subst hz; exact enum_n w A c l k hk hs hl n hn
theorem NewBytes.sl {w w' : World} {l : List UInt8} {A : Option Addr} {c : Nat} (h : w'.ownsRow w.heap.size 5 1 (.slice A l.length c) l.length (bv l)) : Sl w' A (bv l) := Sl.own h
set_option maxRecDepth 100000 in
set_option maxHeartbeats 2000000 in
theorem sput_any (w : World) (A : Option Addr) (c n : Nat) (l : List UInt8) (hn : l.length = n) (hs : Sl w A (bv l)) (hb : l.length ≤ 140737488354000) (s : St) (hok : okSt s) :
    Calls Tryz.prog 104 #[.slice A n c, .agg (codS.A s)] w (NewBytes w (l ++ stB s)) := by
  subst hn
  have f0 : Fr noB w (w.alloc (.cells (codS.A s) 69)) := (Fr.refl noB w).alloc _
  have q0 : StAt (w.alloc (.cells (codS.A s) 69)) w.heap.size s := stAt (Cod.rd_new w 69 s)
  have hs0 := hs.fr0 f0
  go_enter Tryz.func104, Tryz.ntmps104
  go_upto_region 1 with fail
  generalize w.alloc (.cells (codS.A s) 69) = w0 at f0 q0 hs0 ⊢
  generalize hP : w.heap.size = P at q0 ⊢
  have fd := (Fr.refl noB w0).drew
  have qd := q0.fr fd
  have keep : ∀ w' w'' : World, Fr noB w' w'' → (w'.cell? ⟨P, 0, none⟩ = some (.int .i64 s.T) ∧ w'.cell? ⟨P, 1, none⟩ = some (.int .i64 s.R)) → (w''.cell? ⟨P, 0, none⟩ = some (.int .i64 s.T) ∧ w''.cell? ⟨P, 1, none⟩ = some (.int .i64 s.R)) := fun w' w'' f h => ⟨cell_fr0 h.1 f, cell_fr0 h.2 f⟩
  obtain ⟨o1, o2, o3, o4⟩ := hok
  have p1 : ((s.T.toNat : Nat) : Int) = s.T := by omega
  have p2 : s.T.toNat ≤ 4611686018427387904 := by omega
  have p3 : ((s.R.toNat : Nat) : Int) = s.R := by omega
  have p4 : s.R.toNat ≤ 4611686018427387904 := by omega
  have hl1 := numB_length s.T.toNat p2
  have p5 : (l ++ numB s.T.toNat).length ≤ 140737488355000 := by rw [List.length_append]; omega
  have p6 : l.length ≤ 140737488355000 := by omega
  have P1 := Lib.hid p1
  have P3 := Lib.hid p3
  clear p1 p3
  go_wp2_with fail
  refine wp_region_M 7 8 [⟨32, 1, 0⟩, ⟨64, 8, 0⟩, ⟨128, 64, 2⟩, ⟨256, 160, 5⟩, ⟨512, 8, 0⟩, ⟨1024, 512, 16⟩, ⟨2048, 1280, 40⟩, ⟨16, 2048, 127⟩] [(true, 0), (true, 1), (true, 2), (true, 4), (true, 5), (false, 3), (false, 6)] (fun w' => w'.cell? ⟨P, 0, none⟩ = some (.int .i64 s.T) ∧ w'.cell? ⟨P, 1, none⟩ = some (.int .i64 s.R)) (by kernel_rfl) rfl (by kernel_rfl) (by kernel_rfl) (by kernel_rfl) ⟨qd.T, qd.R⟩ (fun hA hF => ?_)
  refine wpAnyS_take (v := ?_) hA rfl (fun _ _ _ h => h) (Or.inl ⟨by rfl, ?_⟩) hF (fun hA => ?_)
  rotate_left
  · intro wS hSw; (try dsimp only at hSw); obtain ⟨s1, s2⟩ := hSw; (go_simp; try with_reducible rfl)
  try simp only [List.getElem_toArray, List.getElem_cons_zero, List.getElem_cons_succ, Act.put, List.setIfInBounds_toArray, List.set_cons_zero, List.set_cons_succ]
  refine wpAnyS_take (v := ?_) hA rfl (fun _ _ _ h => h) (Or.inl ⟨by rfl, ?_⟩) hF (fun hA => ?_)
  rotate_left
  · intro wS hSw; (try dsimp only at hSw); obtain ⟨s1, s2⟩ := hSw; (go_simp; try with_reducible rfl)
  try simp only [List.getElem_toArray, List.getElem_cons_zero, List.getElem_cons_succ, Act.put, List.setIfInBounds_toArray, List.set_cons_zero, List.set_cons_succ]
  refine wpAnyS_take (v := ?_) hA rfl (fun _ _ _ h => h) (Or.inl ⟨by rfl, ?_⟩) hF (fun hA => ?_)
  rotate_left
  · intro wS hSw; (try dsimp only at hSw); obtain ⟨s1, s2⟩ := hSw; (go_simp; try with_reducible rfl)
  try simp only [List.getElem_toArray, List.getElem_cons_zero, List.getElem_cons_succ, Act.put, List.setIfInBounds_toArray, List.set_cons_zero, List.set_cons_succ]
  refine wpAnyS_take (v := ?_) hA rfl (fun _ _ _ h => h) (Or.inl ⟨by rfl, ?_⟩) hF (fun hA => ?_)
  rotate_left
  · intro wS hSw; (try dsimp only at hSw); obtain ⟨s1, s2⟩ := hSw; (go_simp; try with_reducible rfl)
  try simp only [List.getElem_toArray, List.getElem_cons_zero, List.getElem_cons_succ, Act.put, List.setIfInBounds_toArray, List.set_cons_zero, List.set_cons_succ]
  refine wpAnyS_take (v := ?_) hA rfl (fun _ _ _ h => h) (Or.inl ⟨by rfl, ?_⟩) hF (fun hA => ?_)
  rotate_left
  · intro wS hSw; (try dsimp only at hSw); obtain ⟨s1, s2⟩ := hSw; (go_simp; try with_reducible rfl)
  try simp only [List.getElem_toArray, List.getElem_cons_zero, List.getElem_cons_succ, Act.put, List.setIfInBounds_toArray, List.set_cons_zero, List.set_cons_succ]
  refine wpAnyS_one hA rfl (fun K' hK => ?_)
  go_simp
  go_at_call 39
  refine (enum_z w0.drew A c l _ rfl (hs0.fr0 fd) p6 s.T s.T.toNat P1.out p2).mono ?_
  rintro e w1 ⟨A1, c1, rfl, ho1, hf1⟩
  obtain ⟨l1, hl1e⟩ : ∃ l1, l1 = l ++ numB s.T.toNat := ⟨_, rfl⟩
  rw [← hl1e] at ho1 p5 ⊢
  have HL := Lib.hid hl1e
  clear hl1e
  replace hF := keep _ _ hf1 hF
  refine hK.out _ _ hF (fun hA => ?_)
  clear hK K'
  as_aux_lemma =>
  refine wpAnyS_one hA rfl (fun K' hK => ?_)
  go_simp
  go_at_call 39
  refine (enum_z w1 A1 c1 l1 l1.length rfl (Sl.own ho1) p5 s.R s.R.toNat P3.out p4).mono ?_
  rintro e w2 ⟨A2, c2, rfl, ho2, hf2⟩
  replace hF := keep _ _ hf2 hF
  refine hK.out _ _ hF (fun hA => ?_)
  clear hK K'
  as_aux_lemma =>
  refine wpAnyS_end hA rfl ?_
  simp only [List.drop_succ_cons, List.drop_zero]
  clear hF
  go_wp2_with fail
  go_ret
  have hbs : w.heap.size ≤ w1.heap.size := Nat.le_trans (Nat.le_trans f0.size fd.size) hf1.size
  have e : l1 ++ numB s.R.toNat = l ++ stB s := by rw [HL.out]; unfold stB; rw [List.append_assoc]
  rw [e] at ho2 ⊢
  exact ⟨A2, c2, rfl, own_base ho2 hbs, ((f0.step0 fd).step0 hf1).step0 hf2⟩
set_option maxRecDepth 100000 in
set_option maxHeartbeats 2000000 in
theorem oat_any (w : World) (A : Option Addr) (c n : Nat) (l : List UInt8) (hn : l.length = n) (hs : Sl w A (bv l)) (hb : l.length ≤ 140737488354000) (s : St) (hok : okSt s) :
    Calls Tryz.prog 42 #[.slice A n c, .agg (codS.A s)] w (NewBytes w (l ++ stB s)) := by
  subst hn
  have f0 : Fr noB w (w.alloc (.cells (codS.A s) 69)) := (Fr.refl noB w).alloc _
  have q0 : StAt (w.alloc (.cells (codS.A s) 69)) w.heap.size s := stAt (Cod.rd_new w 69 s)
  have hs0 := hs.fr0 f0
  go_enter Tryz.func42, Tryz.ntmps42
  go_upto_region 1 with fail
  generalize w.alloc (.cells (codS.A s) 69) = w0 at f0 q0 hs0 ⊢
  generalize hP : w.heap.size = P at q0 ⊢
  have fd := (Fr.refl noB w0).drew
  have qd := q0.fr fd
  have keep : ∀ w' w'' : World, Fr noB w' w'' → (w'.cell? ⟨P, 0, none⟩ = some (.int .i64 s.T) ∧ w'.cell? ⟨P, 1, none⟩ = some (.int .i64 s.R)) → (w''.cell? ⟨P, 0, none⟩ = some (.int .i64 s.T) ∧ w''.cell? ⟨P, 1, none⟩ = some (.int .i64 s.R)) := fun w' w'' f h => ⟨cell_fr0 h.1 f, cell_fr0 h.2 f⟩
  obtain ⟨o1, o2, o3, o4⟩ := hok
  have p1 : ((s.T.toNat : Nat) : Int) = s.T := by omega
  have p2 : s.T.toNat ≤ 4611686018427387904 := by omega
  have p3 : ((s.R.toNat : Nat) : Int) = s.R := by omega
  have p4 : s.R.toNat ≤ 4611686018427387904 := by omega
  have hl1 := numB_length s.T.toNat p2
  have p5 : (l ++ numB s.T.toNat).length ≤ 140737488355000 := by rw [List.length_append]; omega
  have p6 : l.length ≤ 140737488355000 := by omega
  have P1 := Lib.hid p1
  have P3 := Lib.hid p3
  clear p1 p3
  go_wp2_with fail
  refine wp_region_M 7 8 [⟨32, 1, 0⟩, ⟨64, 8, 0⟩, ⟨128, 64, 2⟩, ⟨256, 160, 5⟩, ⟨512, 8, 0⟩, ⟨1024, 512, 16⟩, ⟨2048, 1280, 40⟩, ⟨16, 2048, 127⟩] [(true, 0), (true, 1), (true, 2), (true, 4), (true, 5), (false, 3), (false, 6)] (fun w' => w'.cell? ⟨P, 0, none⟩ = some (.int .i64 s.T) ∧ w'.cell? ⟨P, 1, none⟩ = some (.int .i64 s.R)) (by kernel_rfl) rfl (by kernel_rfl) (by kernel_rfl) (by kernel_rfl) ⟨qd.T, qd.R⟩ (fun hA hF => ?_)
  refine wpAnyS_take (v := ?_) hA rfl (fun _ _ _ h => h) (Or.inl ⟨by rfl, ?_⟩) hF (fun hA => ?_)
  rotate_left
  · intro wS hSw; (try dsimp only at hSw); obtain ⟨s1, s2⟩ := hSw; (go_simp; try with_reducible rfl)
  try simp only [List.getElem_toArray, List.getElem_cons_zero, List.getElem_cons_succ, Act.put, List.setIfInBounds_toArray, List.set_cons_zero, List.set_cons_succ]
  refine wpAnyS_take (v := ?_) hA rfl (fun _ _ _ h => h) (Or.inl ⟨by rfl, ?_⟩) hF (fun hA => ?_)
  rotate_left
  · intro wS hSw; (try dsimp only at hSw); obtain ⟨s1, s2⟩ := hSw; (go_simp; try with_reducible rfl)
  try simp only [List.getElem_toArray, List.getElem_cons_zero, List.getElem_cons_succ, Act.put, List.setIfInBounds_toArray, List.set_cons_zero, List.set_cons_succ]
  refine wpAnyS_take (v := ?_) hA rfl (fun _ _ _ h => h) (Or.inl ⟨by rfl, ?_⟩) hF (fun hA => ?_)
  rotate_left
  · intro wS hSw; (try dsimp only at hSw); obtain ⟨s1, s2⟩ := hSw; (go_simp; try with_reducible rfl)
  try simp only [List.getElem_toArray, List.getElem_cons_zero, List.getElem_cons_succ, Act.put, List.setIfInBounds_toArray, List.set_cons_zero, List.set_cons_succ]
  refine wpAnyS_take (v := ?_) hA rfl (fun _ _ _ h => h) (Or.inl ⟨by rfl, ?_⟩) hF (fun hA => ?_)
  rotate_left
  · intro wS hSw; (try dsimp only at hSw); obtain ⟨s1, s2⟩ := hSw; (go_simp; try with_reducible rfl)
  try simp only [List.getElem_toArray, List.getElem_cons_zero, List.getElem_cons_succ, Act.put, List.setIfInBounds_toArray, List.set_cons_zero, List.set_cons_succ]
  refine wpAnyS_take (v := ?_) hA rfl (fun _ _ _ h => h) (Or.inl ⟨by rfl, ?_⟩) hF (fun hA => ?_)
  rotate_left
  · intro wS hSw; (try dsimp only at hSw); obtain ⟨s1, s2⟩ := hSw; (go_simp; try with_reducible rfl)
  try simp only [List.getElem_toArray, List.getElem_cons_zero, List.getElem_cons_succ, Act.put, List.setIfInBounds_toArray, List.set_cons_zero, List.set_cons_succ]
  refine wpAnyS_one hA rfl (fun K' hK => ?_)
  go_simp
  go_at_call 39
  refine (enum_z w0.drew A c l _ rfl (hs0.fr0 fd) p6 s.T s.T.toNat P1.out p2).mono ?_
  rintro e w1 ⟨A1, c1, rfl, ho1, hf1⟩
  obtain ⟨l1, hl1e⟩ : ∃ l1, l1 = l ++ numB s.T.toNat := ⟨_, rfl⟩
  rw [← hl1e] at ho1 p5 ⊢
  have HL := Lib.hid hl1e
  clear hl1e
  replace hF := keep _ _ hf1 hF
  refine hK.out _ _ hF (fun hA => ?_)
  clear hK K'
  as_aux_lemma =>
  refine wpAnyS_one hA rfl (fun K' hK => ?_)
  go_simp
  go_at_call 39
  refine (enum_z w1 A1 c1 l1 l1.length rfl (Sl.own ho1) p5 s.R s.R.toNat P3.out p4).mono ?_
  rintro e w2 ⟨A2, c2, rfl, ho2, hf2⟩
  replace hF := keep _ _ hf2 hF
  refine hK.out _ _ hF (fun hA => ?_)
  clear hK K'
  as_aux_lemma =>
  refine wpAnyS_end hA rfl ?_
  simp only [List.drop_succ_cons, List.drop_zero]
  clear hF
  go_wp2_with fail
  go_ret
  have hbs : w.heap.size ≤ w1.heap.size := Nat.le_trans (Nat.le_trans f0.size fd.size) hf1.size
  have e : l1 ++ numB s.R.toNat = l ++ stB s := by rw [HL.out]; unfold stB; rw [List.append_assoc]
  rw [e] at ho2 ⊢
  exact ⟨A2, c2, rfl, own_base ho2 hbs, ((f0.step0 fd).step0 hf1).step0 hf2⟩
end Go.Proofs.YtejkfekpgbmdiaaGreat
