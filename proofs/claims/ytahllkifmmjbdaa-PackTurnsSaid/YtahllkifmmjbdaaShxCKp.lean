/- Contracts: math/bits.RotateLeft32, sha.turn, sha.begin, sha.rounds. Contracts: sha.begin, sha.rounds; words that sha.take asks for. Words for sha.take. -/
import Derived.Test.YtahllkifmmjbdaaShaWKp
import Derived.Test.YtahllkifmmjbdaaRdrIdKp
set_option linter.unusedVariables false
set_option linter.unusedSimpArgs false
namespace Go.Proofs.Ytahllkifmmjbdaa
open Go.RowKit Go.Maps Go.Sort
set_option maxRecDepth 100000
theorem rotl_2 (w:World) {x r:Nat} (hx:x < 4294967296) (e:rtH 2 x = r):Calls Try.prog 60 #[.int .u32 (x:Int),.int .i64 (-2)] w (fun e w'=>e = .returned (.int .u32 (r:Int)) ∧ w' = w):=by
 have e1:(x:Int) / 4 = ((x / 4:Nat):Int):=by omega
 have e2:(x:Int) * 1073741824 % 4294967296 = ((x * 1073741824 % 4294967296:Nat):Int):=by omega
 have e3:=bits_or_u32 (x * 1073741824 % 4294967296) (x / 4) (by omega) (by omega)
 have HE:=Lib.hid (show bits .or .u32 ((x:Int) * 1073741824 % 4294967296) ((x:Int) / 4) = (r:Int) by rw [e1,e2,e3,← e,Nat.or_comm];simp [rtH])
 clear e1 e2 e3 hx e
 have b0:bits .and .u64 (IntKind.u64.wrap (-2)) 31 = 30:=by decide
 go_enter Try.func60,Try.ntmps60
 go_wp2_with fail
 go_ret
 exact ⟨by rw [← HE.out];rfl,rfl⟩
theorem rotl_6 (w:World) {x r:Nat} (hx:x < 4294967296) (e:rtH 6 x = r):Calls Try.prog 60 #[.int .u32 (x:Int),.int .i64 (-6)] w (fun e w'=>e = .returned (.int .u32 (r:Int)) ∧ w' = w):=by
 have e1:(x:Int) / 64 = ((x / 64:Nat):Int):=by omega
 have e2:(x:Int) * 67108864 % 4294967296 = ((x * 67108864 % 4294967296:Nat):Int):=by omega
 have e3:=bits_or_u32 (x * 67108864 % 4294967296) (x / 64) (by omega) (by omega)
 have HE:=Lib.hid (show bits .or .u32 ((x:Int) * 67108864 % 4294967296) ((x:Int) / 64) = (r:Int) by rw [e1,e2,e3,← e,Nat.or_comm];simp [rtH])
 clear e1 e2 e3 hx e
 have b0:bits .and .u64 (IntKind.u64.wrap (-6)) 31 = 26:=by decide
 go_enter Try.func60,Try.ntmps60
 go_wp2_with fail
 go_ret
 exact ⟨by rw [← HE.out];rfl,rfl⟩
theorem rotl_7 (w:World) {x r:Nat} (hx:x < 4294967296) (e:rtH 7 x = r):Calls Try.prog 60 #[.int .u32 (x:Int),.int .i64 (-7)] w (fun e w'=>e = .returned (.int .u32 (r:Int)) ∧ w' = w):=by
 have e1:(x:Int) / 128 = ((x / 128:Nat):Int):=by omega
 have e2:(x:Int) * 33554432 % 4294967296 = ((x * 33554432 % 4294967296:Nat):Int):=by omega
 have e3:=bits_or_u32 (x * 33554432 % 4294967296) (x / 128) (by omega) (by omega)
 have HE:=Lib.hid (show bits .or .u32 ((x:Int) * 33554432 % 4294967296) ((x:Int) / 128) = (r:Int) by rw [e1,e2,e3,← e,Nat.or_comm];simp [rtH])
 clear e1 e2 e3 hx e
 have b0:bits .and .u64 (IntKind.u64.wrap (-7)) 31 = 25:=by decide
 go_enter Try.func60,Try.ntmps60
 go_wp2_with fail
 go_ret
 exact ⟨by rw [← HE.out];rfl,rfl⟩
theorem rotl_11 (w:World) {x r:Nat} (hx:x < 4294967296) (e:rtH 11 x = r):Calls Try.prog 60 #[.int .u32 (x:Int),.int .i64 (-11)] w (fun e w'=>e = .returned (.int .u32 (r:Int)) ∧ w' = w):=by
 have e1:(x:Int) / 2048 = ((x / 2048:Nat):Int):=by omega
 have e2:(x:Int) * 2097152 % 4294967296 = ((x * 2097152 % 4294967296:Nat):Int):=by omega
 have e3:=bits_or_u32 (x * 2097152 % 4294967296) (x / 2048) (by omega) (by omega)
 have HE:=Lib.hid (show bits .or .u32 ((x:Int) * 2097152 % 4294967296) ((x:Int) / 2048) = (r:Int) by rw [e1,e2,e3,← e,Nat.or_comm];simp [rtH])
 clear e1 e2 e3 hx e
 have b0:bits .and .u64 (IntKind.u64.wrap (-11)) 31 = 21:=by decide
 go_enter Try.func60,Try.ntmps60
 go_wp2_with fail
 go_ret
 exact ⟨by rw [← HE.out];rfl,rfl⟩
theorem rotl_13 (w:World) {x r:Nat} (hx:x < 4294967296) (e:rtH 13 x = r):Calls Try.prog 60 #[.int .u32 (x:Int),.int .i64 (-13)] w (fun e w'=>e = .returned (.int .u32 (r:Int)) ∧ w' = w):=by
 have e1:(x:Int) / 8192 = ((x / 8192:Nat):Int):=by omega
 have e2:(x:Int) * 524288 % 4294967296 = ((x * 524288 % 4294967296:Nat):Int):=by omega
 have e3:=bits_or_u32 (x * 524288 % 4294967296) (x / 8192) (by omega) (by omega)
 have HE:=Lib.hid (show bits .or .u32 ((x:Int) * 524288 % 4294967296) ((x:Int) / 8192) = (r:Int) by rw [e1,e2,e3,← e,Nat.or_comm];simp [rtH])
 clear e1 e2 e3 hx e
 have b0:bits .and .u64 (IntKind.u64.wrap (-13)) 31 = 19:=by decide
 go_enter Try.func60,Try.ntmps60
 go_wp2_with fail
 go_ret
 exact ⟨by rw [← HE.out];rfl,rfl⟩
theorem rotl_17 (w:World) {x r:Nat} (hx:x < 4294967296) (e:rtH 17 x = r):Calls Try.prog 60 #[.int .u32 (x:Int),.int .i64 (-17)] w (fun e w'=>e = .returned (.int .u32 (r:Int)) ∧ w' = w):=by
 have e1:(x:Int) / 131072 = ((x / 131072:Nat):Int):=by omega
 have e2:(x:Int) * 32768 % 4294967296 = ((x * 32768 % 4294967296:Nat):Int):=by omega
 have e3:=bits_or_u32 (x * 32768 % 4294967296) (x / 131072) (by omega) (by omega)
 have HE:=Lib.hid (show bits .or .u32 ((x:Int) * 32768 % 4294967296) ((x:Int) / 131072) = (r:Int) by rw [e1,e2,e3,← e,Nat.or_comm];simp [rtH])
 clear e1 e2 e3 hx e
 have b0:bits .and .u64 (IntKind.u64.wrap (-17)) 31 = 15:=by decide
 go_enter Try.func60,Try.ntmps60
 go_wp2_with fail
 go_ret
 exact ⟨by rw [← HE.out];rfl,rfl⟩
theorem rotl_18 (w:World) {x r:Nat} (hx:x < 4294967296) (e:rtH 18 x = r):Calls Try.prog 60 #[.int .u32 (x:Int),.int .i64 (-18)] w (fun e w'=>e = .returned (.int .u32 (r:Int)) ∧ w' = w):=by
 have e1:(x:Int) / 262144 = ((x / 262144:Nat):Int):=by omega
 have e2:(x:Int) * 16384 % 4294967296 = ((x * 16384 % 4294967296:Nat):Int):=by omega
 have e3:=bits_or_u32 (x * 16384 % 4294967296) (x / 262144) (by omega) (by omega)
 have HE:=Lib.hid (show bits .or .u32 ((x:Int) * 16384 % 4294967296) ((x:Int) / 262144) = (r:Int) by rw [e1,e2,e3,← e,Nat.or_comm];simp [rtH])
 clear e1 e2 e3 hx e
 have b0:bits .and .u64 (IntKind.u64.wrap (-18)) 31 = 14:=by decide
 go_enter Try.func60,Try.ntmps60
 go_wp2_with fail
 go_ret
 exact ⟨by rw [← HE.out];rfl,rfl⟩
theorem rotl_19 (w:World) {x r:Nat} (hx:x < 4294967296) (e:rtH 19 x = r):Calls Try.prog 60 #[.int .u32 (x:Int),.int .i64 (-19)] w (fun e w'=>e = .returned (.int .u32 (r:Int)) ∧ w' = w):=by
 have e1:(x:Int) / 524288 = ((x / 524288:Nat):Int):=by omega
 have e2:(x:Int) * 8192 % 4294967296 = ((x * 8192 % 4294967296:Nat):Int):=by omega
 have e3:=bits_or_u32 (x * 8192 % 4294967296) (x / 524288) (by omega) (by omega)
 have HE:=Lib.hid (show bits .or .u32 ((x:Int) * 8192 % 4294967296) ((x:Int) / 524288) = (r:Int) by rw [e1,e2,e3,← e,Nat.or_comm];simp [rtH])
 clear e1 e2 e3 hx e
 have b0:bits .and .u64 (IntKind.u64.wrap (-19)) 31 = 13:=by decide
 go_enter Try.func60,Try.ntmps60
 go_wp2_with fail
 go_ret
 exact ⟨by rw [← HE.out];rfl,rfl⟩
theorem rotl_22 (w:World) {x r:Nat} (hx:x < 4294967296) (e:rtH 22 x = r):Calls Try.prog 60 #[.int .u32 (x:Int),.int .i64 (-22)] w (fun e w'=>e = .returned (.int .u32 (r:Int)) ∧ w' = w):=by
 have e1:(x:Int) / 4194304 = ((x / 4194304:Nat):Int):=by omega
 have e2:(x:Int) * 1024 % 4294967296 = ((x * 1024 % 4294967296:Nat):Int):=by omega
 have e3:=bits_or_u32 (x * 1024 % 4294967296) (x / 4194304) (by omega) (by omega)
 have HE:=Lib.hid (show bits .or .u32 ((x:Int) * 1024 % 4294967296) ((x:Int) / 4194304) = (r:Int) by rw [e1,e2,e3,← e,Nat.or_comm];simp [rtH])
 clear e1 e2 e3 hx e
 have b0:bits .and .u64 (IntKind.u64.wrap (-22)) 31 = 10:=by decide
 go_enter Try.func60,Try.ntmps60
 go_wp2_with fail
 go_ret
 exact ⟨by rw [← HE.out];rfl,rfl⟩
theorem rotl_25 (w:World) {x r:Nat} (hx:x < 4294967296) (e:rtH 25 x = r):Calls Try.prog 60 #[.int .u32 (x:Int),.int .i64 (-25)] w (fun e w'=>e = .returned (.int .u32 (r:Int)) ∧ w' = w):=by
 have e1:(x:Int) / 33554432 = ((x / 33554432:Nat):Int):=by omega
 have e2:(x:Int) * 128 % 4294967296 = ((x * 128 % 4294967296:Nat):Int):=by omega
 have e3:=bits_or_u32 (x * 128 % 4294967296) (x / 33554432) (by omega) (by omega)
 have HE:=Lib.hid (show bits .or .u32 ((x:Int) * 128 % 4294967296) ((x:Int) / 33554432) = (r:Int) by rw [e1,e2,e3,← e,Nat.or_comm];simp [rtH])
 clear e1 e2 e3 hx e
 have b0:bits .and .u64 (IntKind.u64.wrap (-25)) 31 = 7:=by decide
 go_enter Try.func60,Try.ntmps60
 go_wp2_with fail
 go_ret
 exact ⟨by rw [← HE.out];rfl,rfl⟩
theorem turn_6 (w:World) {x r:Nat} (hx:x < 4294967296) (e:rtH 6 x ^^^ rtH 11 x ^^^ rtH 25 x = r):Calls Try.prog 61 #[.int .u32 (x:Int),.int .i64 6,.int .i64 11,.int .i64 25] w (fun e w'=>e = .returned (.int .u32 (r:Int)) ∧ w' = w):=by
 have a1:=rtH_lt 6 _ hx
 have a2:=rtH_lt 11 _ hx
 have a3:=rtH_lt 25 _ hx
 have b1:bits .xor .u32 ((rtH 6 x:Nat):Int) ((rtH 11 x:Nat):Int) = _:=bits_xor_u32 _ _ a1 a2
 have b2:bits .xor .u32 ((rtH 6 x ^^^ rtH 11 x:Nat):Int) ((rtH 25 x:Nat):Int) = _:=bits_xor_u32 _ _ (xor32 a1 a2) a3
 rw [e] at b2
 have R1:∀ W,Calls Try.prog 60 #[.int .u32 (x:Int),.int .i64 (-6)] W _:=fun W=>rotl_6 W hx rfl
 have R2:∀ W,Calls Try.prog 60 #[.int .u32 (x:Int),.int .i64 (-11)] W _:=fun W=>rotl_11 W hx rfl
 have R3:∀ W,Calls Try.prog 60 #[.int .u32 (x:Int),.int .i64 (-25)] W _:=fun W=>rotl_25 W hx rfl
 clear a1 a2 a3 hx e
 generalize rtH 6 x = r1 at b1 b2 R1
 generalize rtH 11 x = r2 at b1 b2 R2
 generalize rtH 25 x = r3 at b2 R3
 go_enter Try.func61,Try.ntmps61
 go_wp2_with (go_at_call 60;(first | with_reducible refine (R1 _).mono ?_ | with_reducible refine (R2 _).mono ?_ | with_reducible refine (R3 _).mono ?_);rintro e w8 ⟨rfl,rfl⟩)
 go_ret
 exact ⟨rfl,rfl⟩
theorem turn_2 (w:World) {x r:Nat} (hx:x < 4294967296) (e:rtH 2 x ^^^ rtH 13 x ^^^ rtH 22 x = r):Calls Try.prog 61 #[.int .u32 (x:Int),.int .i64 2,.int .i64 13,.int .i64 22] w (fun e w'=>e = .returned (.int .u32 (r:Int)) ∧ w' = w):=by
 have a1:=rtH_lt 2 _ hx
 have a2:=rtH_lt 13 _ hx
 have a3:=rtH_lt 22 _ hx
 have b1:bits .xor .u32 ((rtH 2 x:Nat):Int) ((rtH 13 x:Nat):Int) = _:=bits_xor_u32 _ _ a1 a2
 have b2:bits .xor .u32 ((rtH 2 x ^^^ rtH 13 x:Nat):Int) ((rtH 22 x:Nat):Int) = _:=bits_xor_u32 _ _ (xor32 a1 a2) a3
 rw [e] at b2
 have R1:∀ W,Calls Try.prog 60 #[.int .u32 (x:Int),.int .i64 (-2)] W _:=fun W=>rotl_2 W hx rfl
 have R2:∀ W,Calls Try.prog 60 #[.int .u32 (x:Int),.int .i64 (-13)] W _:=fun W=>rotl_13 W hx rfl
 have R3:∀ W,Calls Try.prog 60 #[.int .u32 (x:Int),.int .i64 (-22)] W _:=fun W=>rotl_22 W hx rfl
 clear a1 a2 a3 hx e
 generalize rtH 2 x = r1 at b1 b2 R1
 generalize rtH 13 x = r2 at b1 b2 R2
 generalize rtH 22 x = r3 at b2 R3
 go_enter Try.func61,Try.ntmps61
 go_wp2_with (go_at_call 60;(first | with_reducible refine (R1 _).mono ?_ | with_reducible refine (R2 _).mono ?_ | with_reducible refine (R3 _).mono ?_);rintro e w8 ⟨rfl,rfl⟩)
 go_ret
 exact ⟨rfl,rfl⟩
end Go.Proofs.Ytahllkifmmjbdaa
namespace Go.Proofs.Ytahllkifmmjbdaa
open Go.RowKit Go.Maps Go.Sort
set_option maxRecDepth 100000
set_option maxHeartbeats 4000000 in
theorem begin_any (w:World):Calls Try.prog 36 #[] w (Gives w (.agg (codU.row fstH).toArray)):=by
 go_enter Try.func36,Try.ntmps36
 go_wp2_with fail
 refine bodyPost_ret (results_cell_row rfl _ _ w.heap.size 69 (codU.row fstH).toArray (0,0) _ (by rfl) ?_ Try.underlying69 ?_ ?_) rfl ?_
 ·exact heap_alloc_new _ _
 ·rfl
 ·kernel_rfl
 ·exact ⟨rfl,(Fr.refl noB w).alloc _⟩
def RndTo (w:World) (e:Ending) (w':World):Prop:=e = .returned (.pointer (some ⟨w.heap.size,0,none⟩)) ∧ w' = w.alloc (.cells (codU.row rdsH).toArray 103)
set_option maxHeartbeats 16000000 in
theorem rounds_any (w:World):Calls Try.prog 37 #[] w (RndTo w):=by
 go_enter Try.func37,Try.ntmps37
 go_wp2_with fail
 go_ret
 exact ⟨rfl,rfl⟩
theorem orAdd (a b i:Nat) (hb:b < 2 ^ i):a * 2 ^ i ||| b = a * 2 ^ i + b:=by rw [Nat.mul_comm];exact (Nat.two_pow_add_eq_or_of_lt hb a).symm
structure W4F (w:World) (g off:Nat) (n:Nat) (all:List UInt8) (i p x0 x1 x2 x3 y0 y1 y2 s1 s2 s3 p1 p2 p3:Nat):Prop where
 c0:w.cell? ⟨g,off + p,none⟩ = some (.int .u8 (x0:Int))
 c1:w.cell? ⟨g,off + p1,none⟩ = some (.int .u8 (x1:Int))
 c2:w.cell? ⟨g,off + p2,none⟩ = some (.int .u8 (x2:Int))
 c3:w.cell? ⟨g,off + p3,none⟩ = some (.int .u8 (x3:Int))
 n0:IntKind.i64.wrap (4 * (i:Int)) = (p:Int)
 n1:IntKind.i64.wrap ((p:Int) + 1) = (p1:Int)
 n2:IntKind.i64.wrap ((p:Int) + 2) = (p2:Int)
 n3:IntKind.i64.wrap ((p:Int) + 3) = (p3:Int)
 j0:(p:Int) < (n:Int)
 j1:(p1:Int) < (n:Int)
 j2:(p2:Int) < (n:Int)
 j3:(p3:Int) < (n:Int)
 k0:IntKind.u32.wrap (x0:Int) = (x0:Int)
 k1:IntKind.u32.wrap (x1:Int) = (x1:Int)
 k2:IntKind.u32.wrap (x2:Int) = (x2:Int)
 k3:IntKind.u32.wrap (x3:Int) = (x3:Int)
 v0:IntKind.u32.wrap ((x0:Int) * 16777216) = (y0:Int)
 v1:IntKind.u32.wrap ((x1:Int) * 65536) = (y1:Int)
 v2:IntKind.u32.wrap ((x2:Int) * 256) = (y2:Int)
 o1:bits .or .u32 (y0:Int) (y1:Int) = (s1:Int)
 o2:bits .or .u32 (s1:Int) (y2:Int) = (s2:Int)
 o3:bits .or .u32 (s2:Int) (x3:Int) = (s3:Int)
 hw:wdH all p = s3
 lt:s3 < 4294967296
theorem w4F {w:World} {g off:Nat} {all:List UInt8} {i:Nat} (hc:∀ i (hi:i < all.length),w.cell? ⟨g,off + i,none⟩ = some (.int .u8 ((all[i]).toNat:Int))) (hp:4 * i + 3 < all.length) (hb:all.length ≤ 1000000000100) :
  ∃ p x0 x1 x2 x3 y0 y1 y2 s1 s2 s3 p1 p2 p3,W4F w g off all.length all i p x0 x1 x2 x3 y0 y1 y2 s1 s2 s3 p1 p2 p3 ∧ p = 4 * i:=by
 have l0:=UInt8.toNat_lt (all[4 * i]'(by omega))
 have l1:=UInt8.toNat_lt (all[4 * i + 1]'(by omega))
 have l2:=UInt8.toNat_lt (all[4 * i + 2]'(by omega))
 have l3:=UInt8.toNat_lt (all[4 * i + 3]'hp)
 have h0:=hc (4 * i) (by omega)
 have h1:=hc (4 * i + 1) (by omega)
 have h2:=hc (4 * i + 2) (by omega)
 have h3:=hc (4 * i + 3) hp
 have hw:=wdH_at hp
 generalize (all[4 * i]'(by omega)).toNat = x0 at l0 h0 hw
 generalize (all[4 * i + 1]'(by omega)).toNat = x1 at l1 h1 hw
 generalize (all[4 * i + 2]'(by omega)).toNat = x2 at l2 h2 hw
 generalize (all[4 * i + 3]'hp).toNat = x3 at l3 h3 hw
 unfold a32H at hw
 refine ⟨4 * i,x0,x1,x2,x3,x0 * 16777216,x1 * 65536,x2 * 256,x0 * 16777216 + x1 * 65536,x0 * 16777216 + x1 * 65536 + x2 * 256,x0 * 16777216 + x1 * 65536 + x2 * 256 + x3,4 * i + 1,4 * i + 2,4 * i + 3,⟨h0,h1,h2,h3,?_,?_,?_,?_,by omega,by omega,by omega,by omega,by rw [wrU];omega,by rw [wrU];omega,by rw [wrU];omega,by rw [wrU];omega,by rw [wrU];omega,by rw [wrU];omega,by rw [wrU];omega,?_,?_,?_,by rw [hw];omega,by omega⟩,rfl⟩
 ·rw [IntWalk.i64_in _ (by omega)];omega
 ·rw [IntWalk.i64_in _ (by omega)];omega
 ·rw [IntWalk.i64_in _ (by omega)];omega
 ·rw [IntWalk.i64_in _ (by omega)];omega
 ·rw [bits_or_u32 _ _ (by omega) (by omega)]
  have:=orAdd x0 (x1 * 65536) 24 (by omega)
  exact congrArg _ this
 ·rw [bits_or_u32 _ _ (by omega) (by omega)]
  have:=orAdd (x0 * 256 + x1) (x2 * 256) 16 (by omega)
  rw [show x0 * 16777216 + x1 * 65536 = (x0 * 256 + x1) * 2 ^ 16 by omega]
  exact congrArg _ this
 ·rw [bits_or_u32 _ _ (by omega) (by omega)]
  have:=orAdd (x0 * 65536 + x1 * 256 + x2) x3 8 (by omega)
  rw [show x0 * 16777216 + x1 * 65536 + x2 * 256 = (x0 * 65536 + x1 * 256 + x2) * 2 ^ 8 by omega]
  exact congrArg _ this
def rowZu (l:List Nat) (n:Nat):List Nat:=l ++ List.replicate n 0
theorem rowZ_set (l:List Nat) (n x:Nat):(rowZu l (n + 1)).set l.length x = rowZu (l ++ [x]) n:=by
 unfold rowZu
 rw [List.set_append_right _ _ (Nat.le_refl _),Nat.sub_self,List.replicate_succ,List.set_cons_zero,List.append_assoc]
 rfl
theorem rowZ_len (l:List Nat) (n:Nat):(rowZu l n).length = l.length + n:=by unfold rowZu;simp
theorem rowU_cell {w:World} {b:Nat} {t:TypeId} {l:List Nat} (h:Blk w b t (codU.row l)) (i:Nat) (hi:i < l.length):w.cell? ⟨b,i,none⟩ = some (.int .u32 (l[i]:Int)):=by
 have:=Sl.cell1 (C:=codU) rfl (Sl.blk h) i hi rfl
 simpa using this
theorem rowU_set (l:List Nat) (i x:Nat):(codU.row l).set i (.int .u32 (x:Int)) = codU.row (l.set i x):=by
 induction l generalizing i with
 | nil=>rfl
 | cons y l ih =>
  cases i with
  | zero=>rfl
  | succ i =>
   have h1:codU.row (y :: l) = .int .u32 (y:Int) :: codU.row l:=rfl
   rw [h1,List.set_cons_succ,ih,List.set_cons_succ]
   rfl
theorem rowU_len (l:List Nat):(codU.row l).length = l.length:=by
 induction l with
 | nil=>rfl
 | cons y l ih=>exact congrArg (· + 1) ih
end Go.Proofs.Ytahllkifmmjbdaa
namespace Go.Proofs.Ytahllkifmmjbdaa
open Go.RowKit Go.Maps Go.Sort
set_option maxRecDepth 100000
theorem rowU_app (l m:List Nat):codU.row (l ++ m) = codU.row l ++ codU.row m:=by unfold Cod.row;exact List.flatMap_append
theorem rowZ_sl {w:World} {b:Nat} {t:TypeId} {m:List Nat} {n:Nat} (h:Blk w b t (codU.row (rowZu m n))):Sl w (some ⟨b,0,none⟩) (codU.row m):=fun _=>⟨b,0,rfl,h.lt,fun j u hu=>by
 have hj:=(List.getElem?_eq_some_iff.1 hu).1
 rw [Nat.zero_add,h.cell]
 show (codU.row (m ++ List.replicate n 0))[j]? = _
 rw [rowU_app,List.getElem?_append_left hj]
 exact hu⟩
theorem rowZ_get {w:World} {b:Nat} {t:TypeId} {m:List Nat} {n:Nat} (h:Blk w b t (codU.row (rowZu m n))) (i:Nat) (hi:i < m.length):w.cell? ⟨b,0 + i,none⟩ = some (.int .u32 (m[i]:Int)):=Sl.cell1 (C:=codU) rfl (rowZ_sl h) i hi rfl
theorem rowZ_at {w:World} {b:Nat} {t:TypeId} {m:List Nat} {n:Nat} (h:Blk w b t (codU.row (rowZu m (n + 1)))) (i:Nat) (hi:m.length = i):w.cell? ⟨b,i,none⟩ = some (.int .u32 ((0:Nat):Int)):=by
 have h2:i < (rowZu m (n + 1)).length:=by rw [rowZ_len];omega
 have h3:=rowU_cell h i h2
 have h4:(rowZu m (n + 1))[i]? = some 0:=by
  subst hi
  unfold rowZu
  rw [List.getElem?_append_right (Nat.le_refl _),Nat.sub_self]
  rfl
 rw [List.getElem?_eq_getElem h2] at h4
 rw [h3,Option.some.inj h4]
def s8L (s:S8H):List Nat:=[s.a,s.b,s.c,s.d,s.e,s.f,s.g,s.x]
theorem s8L_len (s:S8H):(s8L s).length = 8:=rfl
structure T1G (s:S8H) (kk ww x2 s1 m1 ne m2 ch s2 s3 s4:Nat):Prop where
 e:rtH 6 s.e ^^^ rtH 11 s.e ^^^ rtH 25 s.e = x2
 u1:IntKind.u32.wrap ((s.x:Int) + (x2:Int)) = (s1:Int)
 b3:bits .and .u32 (s.e:Int) (s.f:Int) = (m1:Int)
 b4:bits .xor .u32 (if IntKind.u32.signed = true then -1 else IntKind.u32.max) (s.e:Int) = (ne:Int)
 b5:bits .and .u32 (ne:Int) (s.g:Int) = (m2:Int)
 b6:bits .xor .u32 (m1:Int) (m2:Int) = (ch:Int)
 u2:IntKind.u32.wrap ((s1:Int) + (ch:Int)) = (s2:Int)
 u3:IntKind.u32.wrap ((s2:Int) + (kk:Int)) = (s3:Int)
 u4:IntKind.u32.wrap ((s3:Int) + (ww:Int)) = (s4:Int)
 r:t1H s kk ww = s4
 lt:s4 < 4294967296
theorem t1G {s:S8H} (h:Lt8 s) (kk ww:Nat):∃ x2 s1 m1 ne m2 ch s2 s3 s4,T1G s kk ww x2 s1 m1 ne m2 ch s2 s3 s4:=by
 have a5:4294967295 ^^^ s.e < 4294967296:=xor32 (by decide) h.e
 exact ⟨_,_,_,_,_,_,_,_,_,⟨rfl,a32_int _ _,bits_and_u32 _ _ h.e h.f,bits_xor_u32 4294967295 _ (by decide) h.e,bits_and_u32 _ _ a5 h.g,bits_xor_u32 _ _ (and32 _ h.e) (and32 _ a5),a32_int _ _,a32_int _ _,a32_int _ _,rfl,a32_lt _ _⟩⟩
structure T2G (s:S8H) (y2 p1 p2 q1 p3 q2 t2:Nat):Prop where
 e:rtH 2 s.a ^^^ rtH 13 s.a ^^^ rtH 22 s.a = y2
 b3:bits .and .u32 (s.a:Int) (s.b:Int) = (p1:Int)
 b4:bits .and .u32 (s.a:Int) (s.c:Int) = (p2:Int)
 b5:bits .xor .u32 (p1:Int) (p2:Int) = (q1:Int)
 b6:bits .and .u32 (s.b:Int) (s.c:Int) = (p3:Int)
 b7:bits .xor .u32 (q1:Int) (p3:Int) = (q2:Int)
 u1:IntKind.u32.wrap ((y2:Int) + (q2:Int)) = (t2:Int)
 r:t2H s = t2
 lt:t2 < 4294967296
theorem t2G {s:S8H} (h:Lt8 s):∃ y2 p1 p2 q1 p3 q2 t2,T2G s y2 p1 p2 q1 p3 q2 t2:=by
 have b1:=and32 s.b h.a
 have b2:=and32 s.c h.a
 have b3:=and32 s.c h.b
 exact ⟨_,_,_,_,_,_,_,⟨rfl,bits_and_u32 _ _ h.a h.b,bits_and_u32 _ _ h.a h.c,bits_xor_u32 _ _ b1 b2,bits_and_u32 _ _ h.b h.c,bits_xor_u32 _ _ (xor32 b1 b2) b3,a32_int _ _,rfl,a32_lt _ _⟩⟩
theorem Blk.setRow {w:World} {b:Nat} {t:TypeId} {cs:List Value} (h:Blk w b t cs) (ds:List Value):Blk (w.setRow b ds.toArray) b t ds ∧ Fr (oneB b) w (w.setRow b ds.toArray):=by
 refine ⟨setRow_heap w b _ _ _ _ h,⟨rfl,rfl,rfl,?_,fun k hk hn=>?_⟩⟩
 ·simp [World.setRow]
 ·have:¬ b = k:=fun e=>hn e.symm
  simp only [World.setRow,Array.getElem?_modify]
  rw [if_neg this]
theorem copy8 {w:World} {V:Nat} (s:S8H) (h:Blk w V 69 (codU.row (s8L s))):∃ W2,(∀ ty,(Builtin.copy_ #[90,90] ty #[.slice (some ⟨V,1,none⟩) 7 7,.slice (some ⟨V,0,none⟩) 7 8]).run Try.prog w = .ok (.int .i64 7) W2) ∧ Blk W2 V 69 (codU.row [s.a,s.a,s.b,s.c,s.d,s.e,s.f,s.g]) ∧ Fr (oneB V) w W2:=by
 have hr:=fun ty=>run_copy_row (P:=Try.prog) w 90 90 ty 55 V 1 7 7 ⟨V,0,none⟩ 7 8 (codU.row (s8L s)).toArray 69 (codU.row [s.a,s.b,s.c,s.d,s.e,s.f,s.g]) Try.underlying90 (by kernel_rfl) h rfl (fun j v hj=>by
  have e:(⟨V,0,none⟩:Addr).add j = ⟨V,j,none⟩:=by unfold Addr.add;split <;> simp_all
  rw [e,h.cell]
  have hl:=(List.getElem?_eq_some_iff.1 hj).1
  rw [rowU_len] at hl
  have:codU.row (s8L s) = codU.row [s.a,s.b,s.c,s.d,s.e,s.f,s.g] ++ codU.row [s.x]:=rfl
  rw [this,List.getElem?_append_left (by rw [rowU_len];exact hl)]
  exact hj) (by rw [rowU_len,List.size_toArray,rowU_len];exact Nat.le_refl 8) (fun v hv=>by
  simp only [Cod.row,List.mem_flatMap] at hv
  obtain ⟨x,_,hv⟩:=hv
  have:v = .int .u32 (x:Int):=by simpa [codU] using hv
  subst this;rfl)
 have h2:=h.setRow (codU.row [s.a,s.a,s.b,s.c,s.d,s.e,s.f,s.g])
 exact ⟨_,hr,h2.1,h2.2⟩
def mixR (l m:List Nat) (i:Nat):List Nat:=m.take i ++ l.drop i
theorem mixR_len {l m:List Nat} (h:l.length = m.length) {i:Nat} (hi:i ≤ m.length):(mixR l m i).length = m.length:=by unfold mixR;simp;omega
theorem mixR_at {l m:List Nat} (h:l.length = m.length) {i:Nat} (hi:i < m.length) (hj:i < (mixR l m i).length):(mixR l m i)[i] = l[i]'(by omega):=by
 have h4:(mixR l m i)[i]? = some (l[i]'(by omega)):=by
  unfold mixR
  rw [List.getElem?_append_right (by simp;omega),List.length_take,Nat.min_eq_left (Nat.le_of_lt hi),Nat.sub_self,List.getElem?_drop,Nat.add_zero,List.getElem?_eq_getElem (by omega)]
 rw [List.getElem?_eq_getElem hj] at h4
 exact Option.some.inj h4
theorem mixR_set {l m:List Nat} (h:l.length = m.length) {i:Nat} (hi:i < m.length):(mixR l m i).set i m[i] = mixR l m (i + 1):=by
 unfold mixR
 rw [List.set_append_right _ _ (by simp;omega),List.length_take,Nat.min_eq_left (Nat.le_of_lt hi),Nat.sub_self,List.drop_eq_getElem_cons (by omega:i < l.length),List.set_cons_zero,List.take_succ_eq_append_getElem hi,List.append_assoc]
 rfl
theorem adH_zip {h:List Nat} (hl:h.length = 8) (s:S8H):adH h s = List.zipWith a32H h (s8L s):=by
 obtain ⟨h0,h1,h2,h3,h4,h5,h6,h7,rfl⟩:=len8 hl
 rfl
theorem adH_len (h:List Nat) (s:S8H):(adH h s).length = 8:=rfl
theorem adH_at {h:List Nat} (hl:h.length = 8) (s:S8H) {i:Nat} (hi:i < 8):(adH h s)[i]'(by rw [adH_len];exact hi) = a32H (h[i]'(by omega)) ((s8L s)[i]'(by rw [s8L_len];exact hi)):=by
 have:(adH h s)[i]? = some (a32H (h[i]'(by omega)) ((s8L s)[i]'(by rw [s8L_len];exact hi))):=by
  rw [adH_zip hl,List.getElem?_zipWith,List.getElem?_eq_getElem (by omega),List.getElem?_eq_getElem (by rw [s8L_len];exact hi)]
 rw [List.getElem?_eq_getElem (by rw [adH_len];exact hi)] at this
 exact Option.some.inj this
theorem s8H_L {h:List Nat} (hl:h.length = 8):s8L (s8H h) = h:=by
 obtain ⟨h0,h1,h2,h3,h4,h5,h6,h7,rfl⟩:=len8 hl
 rfl
theorem s8H_lt {h:List Nat} (hl:h.length = 8) (hl32:Lt32 h):Lt8 (s8H h):=by
 obtain ⟨h0,h1,h2,h3,h4,h5,h6,h7,rfl⟩:=len8 hl
 simp only [Lt32,List.mem_cons,List.not_mem_nil,or_false,forall_eq_or_imp,forall_eq] at hl32
 exact ⟨hl32.1,hl32.2.1,hl32.2.2.1,hl32.2.2.2.1,hl32.2.2.2.2.1,hl32.2.2.2.2.2.1,hl32.2.2.2.2.2.2.1,hl32.2.2.2.2.2.2.2⟩
theorem adH_lt (h:List Nat) (s:S8H):Lt32 (adH h s):=by
 intro x hx
 simp only [adH,List.mem_cons,List.not_mem_nil,or_false] at hx
 rcases hx with rfl | rfl | rfl | rfl | rfl | rfl | rfl | rfl <;> exact a32_lt _ _
theorem w16H_lt (l:List UInt8) (p:Nat):∀ k,Lt32 (w16H l p k)
 | 0=>Lt32.nil
 | k + 1=>by rw [w16H];exact (w16H_lt l p k).snoc (a32_lt _ _)
end Go.Proofs.Ytahllkifmmjbdaa
