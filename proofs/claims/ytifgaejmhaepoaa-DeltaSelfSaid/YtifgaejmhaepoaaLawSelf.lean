/- The walk of the law DeltaSelf. -/
import Derived.Test.YtifgaejmhaepoaaLawMakes
namespace Go.Proofs.Ytifgaejmhaepoaa
open Go.RowKit
set_option linter.unusedVariables false
set_option linter.unusedSimpArgs false

/-- a slice of bytes as an argument -/
structure Arg (w : World) (A : Option Addr) (c : Nat) (l : List UInt8) : Prop where
  sl : Sl w A (bv l)
  cap : l.length ≤ c
  nil : A = none → c = 0
theorem Arg.fr0 {w w' : World} {A : Option Addr} {c : Nat} {l : List UInt8} (h : Arg w A c l) (f : Fr noB w w') : Arg w' A c l := ⟨h.sl.fr0 f, h.cap, h.nil⟩

/-- the loop over the four bases -/
def SfR (w1 : World) (gk : Nat) (iv : Value) (wr : World) : Prop := ∃ i : Nat, iv = .int .i64 i ∧ i ≤ 4 ∧ 4 - i = gk ∧ Fr noB w1 wr

set_option maxRecDepth 100000 in
set_option maxHeartbeats 1000000 in
theorem self_any (w : World) (hm : HasM w) (A : Option Addr) (ca : Nat) (la : List UInt8) (hA : Sl w A (bv la)) (hca : la.length ≤ ca) (hla : la.length ≤ 140737488351232) (hna : A = none → ca = 0)
    (B : Option Addr) (cb : Nat) (lb : List UInt8) (hB : Sl w B (bv lb)) (hcb : lb.length ≤ cb) (hlb : lb.length ≤ 140737488351232) (hnb : B = none → cb = 0) :
    Calls Try.prog 6 #[.slice A la.length ca, .slice B lb.length cb] w (lawPost w) := by
  by_cases hlen : 3000 < la.length ∨ 3000 < lb.length
  · rcases (show 3000 < la.length ∨ (la.length ≤ 3000 ∧ 3000 < lb.length) by omega) with h1 | ⟨h1, h2⟩
    all_goals
      clear hlen
      go_enter Try.func6, Try.ntmps6
      go_wp2_with (first | (go_at_call 9; refine (applying_any _).mono ?_; rintro e w1 ⟨rfl, hf1⟩) | (go_at_call 15; refine (making_any _ (hm.fr0 hf1)).mono ?_; rintro e w2 ⟨rfl, hf2⟩))
      go_ret
      exact ⟨rfl, (hf1.step0 hf2).below⟩
  · have h1 : la.length ≤ 3000 := by omega
    have h2 : lb.length ≤ 3000 := by omega
    clear hlen
    obtain ⟨d, hd⟩ := made la la (by omega) (by omega)
    have hl : d.length ≤ 16 := hd.short (.inl (by have := index_has [] la []; simpa using this)) (by omega)
    have hl' : ((d.length : Int) ≤ 16) := by omega
    have HD := Lib.hid hd
    clear hd
    obtain ⟨lc, hlc⟩ : ∃ l, l = la ++ lb := ⟨_, rfl⟩
    have h3 : lc.length ≤ 6000 := by rw [hlc, List.length_append]; omega
    have HC := Lib.hid hlc
    clear hlc
    have t2 : True := trivial
    go_enter Try.func6, Try.ntmps6
    go_wp2_with (first
      | (go_at_call 9; refine (applying_any _).mono ?_; rintro e w1 ⟨rfl, hf1⟩)
      | (go_at_call 15; refine (making_any _ (hm.fr0 hf1)).mono ?_; rintro e w2 ⟨rfl, hf2⟩; have F2 := hf1.step0 hf2)
      | (go_at_call 16; refine (make_d _ A A ca ca la la d _ _ rfl rfl HD.out (hA.fr0 F2) (hA.fr0 F2) hca hca hna (by omega) (hm.fr0 F2)).mono ?_; rintro e w3 ⟨A3, c3, rfl, hc3, hs3, hf3⟩; have F3 := F2.step0 hf3)
      | (go_at_call 10; refine (apply_d _ A A3 ca c3 la d _ _ rfl rfl (hA.fr0 F3) hs3 hca hc3 (by omega) (by omega) la 0 (.inl ⟨HD.out.ap, rfl⟩)).mono ?_; rintro e w4 ⟨A4, c4, rfl, hc4, hs4, hf4⟩; have F4 := F3.step0 hf4)
      | (go_at_call 12; refine (same_n _ A4 A c4 ca la la _ _ rfl rfl hs4 (hA.fr0 F4) (by omega) (by omega) true (by simp)).mono ?_; rintro e w5 ⟨rfl, hf5⟩; have F5 := F4.step0 hf5; have F5' := F5.alloc (.cells #[] 5))
      | (at_builtin; have _t := t2; clear t2 _t; refine wpList_appT w _ rfl (.tmp 55) (.tmp 56) rfl (some ⟨w5.heap.size, 0, none⟩) _ 0 [] rfl rfl (own_empty w w5 F5.size) A _ _ la rfl (hA.fr0 F5') rfl (by simp; omega) F5' la rfl ?_; intro A6 c6 w6 hc6 ho6 hf6 _ _)
      | (at_builtin; refine wpList_appT w _ rfl (.tmp 57) (.tmp 58) rfl A6 _ c6 la rfl rfl ho6 B _ _ lb rfl (hB.fr0 hf6) rfl (by omega) hf6 lc HC.out ?_; intro A7 c7 w7 hc7 ho7 hf7 _ _))
    have HB := Blk.new w7 22 [.slice none 0 0, .slice A la.length ca, .slice B lb.length cb, .slice A7 lc.length c7]
    have F8 := hf7.alloc (.cells #[.slice none 0 0, .slice A la.length ca, .slice B lb.length cb, .slice A7 lc.length c7] 22)
    have G8 := (Fr.refl noB w7).alloc (.cells #[.slice none 0 0, .slice A la.length ca, .slice B lb.length cb, .slice A7 lc.length c7] 22)
    have o8 := (Sl.own ho7).fr0 G8
    have n8 := own_nil ho7
    go_loopg [65] 4 (fun gk iv wr => SfR (w7.alloc (.cells #[.slice none 0 0, .slice A la.length ca, .slice B lb.length cb, .slice A7 lc.length c7] 22)) gk iv wr)
    case atStart => exact ⟨0, rfl, by decide, rfl, Fr.refl _ _⟩
    case round =>
      obtain ⟨i, rfl, hi, rfl, hfr⟩ := hrel
      have FR := F8.step0 hfr
      have HBr := Blk.fr HB hfr (by simp [noB])
      by_cases hlt : i < 4
      · have key : ∃ X cx lx, wr.cell? ⟨w7.heap.size, i, none⟩ = some (.slice X lx.length cx) ∧ Arg wr X cx lx ∧ lx.length ≤ 6000 := by
          rcases (show i = 0 ∨ i = 1 ∨ i = 2 ∨ i = 3 by omega) with rfl | rfl | rfl | rfl
          · exact ⟨none, 0, [], HBr.cell 0, ⟨Sl.nil _ _, by simp, fun _ => rfl⟩, by simp⟩
          · exact ⟨A, ca, la, HBr.cell 1, ⟨hA.fr0 FR, hca, hna⟩, by omega⟩
          · exact ⟨B, cb, lb, HBr.cell 2, ⟨hB.fr0 FR, hcb, hnb⟩, by omega⟩
          · exact ⟨A7, c7, lc, HBr.cell 3, ⟨o8.fr0 hfr, hc7, n8⟩, by omega⟩
        obtain ⟨X, cx, lx, hcell, hX, hlx⟩ := key
        obtain ⟨d2, hd2⟩ := made lx lc (by omega) (by omega)
        have hl2 := hd2.len
        have hl2' : ((d2.length : Int) ≤ (lc.length : Int) + 16) := by omega
        have HD2 := Lib.hid hd2
        clear hd2
        go_wp2_with (first
          | (go_at_call 16; refine (make_d _ X A7 cx c7 lx lc d2 _ _ rfl rfl HD2.out hX.sl (o8.fr0 hfr) hX.cap hc7 hX.nil (by omega) (hm.fr0 FR)).mono ?_; rintro e w9 ⟨A9, c9, rfl, hc9, hs9, hf9⟩)
          | (go_at_call 10; refine (apply_d _ X A9 cx c9 lx d2 _ _ rfl rfl (hX.sl.fr0 hf9) hs9 hX.cap hc9 (by omega) (by omega) lc 0 (.inl ⟨HD2.out.ap, rfl⟩)).mono ?_; rintro e w10 ⟨A10, c10, rfl, hc10, hs10, hf10⟩)
          | (go_at_call 12; refine (same_n _ A10 A7 c10 c7 lc lc _ _ rfl rfl hs10 (o8.fr0 ((hfr.step0 hf9).step0 hf10)) (by omega) (by omega) true (by simp)).mono ?_; rintro e w11 ⟨rfl, hf11⟩))
        go_roundg (4 - (i + 1))
        case measure => omega
        case rel => exact ⟨i + 1, by go_num, by omega, rfl, ((hfr.step0 hf9).step0 hf10).step0 hf11⟩
      · obtain rfl : i = 4 := by omega
        go_wp2
        go_ret
        exact ⟨rfl, FR.below⟩
end Go.Proofs.Ytifgaejmhaepoaa
