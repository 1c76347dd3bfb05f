/- No condition. -/
import Derived.Test.YtkgpoimmniojjaaGreatZaAH
namespace Go.Proofs.YtkgpoimmniojjaaGreat
set_option linter.unusedVariables false
set_option linter.unusedSimpArgs false
set_option maxRecDepth 100000
set_option maxHeartbeats 16000000
section
open Go.RowKit
theorem oP (s:ByteArray) (k:Nat) (w:World) (hk:k < s.size) (hs:s.size<=1000000000):Calls Tryz.prog 134 #[.string s,.int .i64 (k:Int)] w (aV w (lU s k)):=by
 have HUC:Hid (∀ c w',Calls Tryz.prog 154 #[.int .u8 ((c:Nat):Int)] w' (Is w' (.bool (nS c)))):=fun c w'=>jH c w';have HLC:Hid (∀ c w',Calls Tryz.prog 153 #[.int .u8 ((c:Nat):Int)] w' (Is w' (.bool (uW c)))):=fun c w'=>mF c w';have HDC:Hid (∀ c w',Calls Tryz.prog 152 #[.int .u8 ((c:Nat):Int)] w' (Is w' (.bool (xL c)))):=fun c w'=>rJ c w';have HAC:Hid (∀ c w',Calls Tryz.prog 150 #[.int .u8 ((c:Nat):Int)] w' (Is w' (.bool (xV c)))):=fun c w'=>nD c w';have HPC:Hid (∀ c w',Calls Tryz.prog 151 #[.int .u8 ((c:Nat):Int)] w' (Is w' (.bool (zN c)))):=fun c w'=>mW c w';have HSC:Hid (∀ w',Calls Tryz.prog 156 #[.string s,.int .i64 (k:Int)] w' (CU w' s k)):=fun w'=>Ba s k w' hk hs;have hx:=iE hk;obtain ⟨x,hxx⟩:=nm (vX s k);rw [hxx] at hx;have HXX:=hD hxx;have HWD:Hid (kH x=true->∀ w',Calls Tryz.prog 155 #[.string s,.int .i64 (k:Int)] w' (aV w' (lU s k))):=fun h w'=>zB s k w' hk hs (by rw [hxx];exact h);clear hxx;obtain ⟨W,hW⟩:=nm (w.alloc (.cells #[.int .i64 0,.int .i64 0,.int .i64 0,.int .i64 0] 187));have HX0:=bk hW;have HBW:=bw hW;obtain ⟨y0,y1,y2,y3⟩:=HX0.out.c4;obtain ⟨q0,q1,q2,q3⟩:=HX0.out.f4;have HW:=hD hW;clear hW;go_enter Tryz.func134,Tryz.ntmps134;go_wp2_with fail;rw [HW.out];refine (HAC.out _ _).mono ?_;rintro e w1 ⟨rfl,rfl⟩;generalize xV _=r2
 cases r2
 ·go_wp2_with fail;refine rR (HX0.out.val4 _ _ _ _) Tryz.underlying187 rfl rfl rfl rfl (by kernel_rfl) ?_;exact ⟨aL HBW.out (Nat.le_refl _) _ _ _ _,_,rfl,_,_,_,_,rfl,(fun h=>by first | (exact ⟨by omega,by omega⟩) | omega),by unfold aO;omega,by unfold aO;omega,by unfold aO;omega,by unfold aO;omega⟩
 ·by_cases h34:x=34
  ·subst h34;go_wp2_with fail
   go_loop [6] (fun i=>∃ m:Nat,k+1<=m/\m<=s.size/\i=.int .i64 (m:Int)) (fun i=>s.size - (intOf i).toNat)
   case atStart=>exact ⟨k+1,Nat.le_refl _,hk,by go_num⟩
   case round=>
    obtain ⟨m,hkm,hms,rfl⟩:=hrel;by_cases hlm:m < s.size
    ·have hz:=iE hlm;obtain ⟨z,hzz⟩:=nm (vX s m);rw [hzz] at hz;clear hzz;go_wp2_with fail
     repeat' (first
      | (refine rR (HX0.out.val4 _ _ _ _) Tryz.underlying187 rfl rfl rfl rfl (by kernel_rfl) ?_;exact ⟨aL HBW.out (Nat.le_refl _) _ _ _ _,_,rfl,_,_,_,_,rfl,(fun h=>by first | (exact ⟨by omega,by omega⟩) | omega),by unfold aO;omega,by unfold aO;omega,by unfold aO;omega,by unfold aO;omega⟩)
      | (go_round
         ·exact ⟨m+1,by omega,by omega,by go_num⟩
         ·simp [intOf];omega)
      | (exact ⟨⟨m+1,by omega,by omega,by go_num⟩,by simp [intOf];omega⟩)
      | (refine (HAC.out _ _).mono ?_;rintro e w1 ⟨rfl,rfl⟩;generalize xV _=r2;cases r2 <;> go_wp2_with fail)
      | (refine (HPC.out _ _).mono ?_;rintro e w1 ⟨rfl,rfl⟩;generalize zN _=r2;cases r2 <;> go_wp2_with fail))
    ·go_wp2_with fail;refine rR (HX0.out.val4 _ _ _ _) Tryz.underlying187 rfl rfl rfl rfl (by kernel_rfl) ?_;exact ⟨aL HBW.out (Nat.le_refl _) _ _ _ _,_,rfl,_,_,_,_,rfl,(fun h=>by first | (exact ⟨by omega,by omega⟩) | omega),by unfold aO;omega,by unfold aO;omega,by unfold aO;omega,by unfold aO;omega⟩
  ·have d34:((x:Int) == 34)=false:=by simp;omega
   go_wp2_with fail;refine (HDC.out _ _).mono ?_;rintro e w1 ⟨rfl,rfl⟩
   cases hdx:xL x
   ·clear hdx;go_wp2_with fail;refine (HLC.out _ _).mono ?_;rintro e w1 ⟨rfl,rfl⟩;have HFIN:Hid True:=trivial
    cases hlx:uW x
    ·go_wp2_with fail;refine (HUC.out _ _).mono ?_;rintro e w1 ⟨rfl,rfl⟩
     cases hux:nS x
     ·clear hlx hux;go_wp2_with fail;refine (HSC.out _).mono ?_;rintro e w1 ⟨n,rfl,rfl,hn⟩;by_cases hn0:n=0
      ·subst hn0;go_wp2_with fail;refine rR (HX0.out.val4 _ _ _ _) Tryz.underlying187 rfl rfl rfl rfl (by kernel_rfl) ?_;exact ⟨aL HBW.out (Nat.le_refl _) _ _ _ _,_,rfl,_,_,_,_,rfl,(fun h=>by first | (exact ⟨by omega,by omega⟩) | omega),by unfold aO;omega,by unfold aO;omega,by unfold aO;omega,by unfold aO;omega⟩
      ·have hn1:1<=n:=by omega
       have hn2:k+n<=s.size:=by omega
       have d0:((n:Int) == 0)=false:=by simp;omega
       clear hn hn0;go_wp2_with fail;refine rR (HX0.out.val4 _ _ _ _) Tryz.underlying187 rfl rfl rfl rfl (by kernel_rfl) ?_;exact ⟨aL HBW.out (Nat.le_refl _) _ _ _ _,_,rfl,_,_,_,_,rfl,(fun h=>by first | (exact ⟨by omega,by omega⟩) | omega),by unfold aO;omega,by unfold aO;omega,by unfold aO;omega,by unfold aO;omega⟩
     ·have HG:=hD (HWD.out (by unfold kH;rw [hux];simp) W);clear hlx hux;go_wp2_with fail;refine (HG.out).mono ?_;rintro e w5 ⟨hb5,v,rfl,ln,kd,er,a,rfl,hit⟩;have HR:=hD (HX0.out.below hb5 HX0.out.lt);have HB5:=hD (aB HBW.out hb5);have HIT:=hD hit;clear hb5 hit y0 y1 y2 y3 q0 q1 q2 q3;obtain ⟨p0,p1,p2,p3⟩:=HR.out.c4;obtain ⟨t0,t1,t2,t3⟩:=HR.out.f4;go_wp2_with fail;refine rR (HR.out.val4 _ _ _ _) Tryz.underlying187 rfl rfl rfl rfl (by kernel_rfl) ?_;exact ⟨aL HB5.out (Nat.le_refl _) _ _ _ _,_,rfl,_,_,_,_,rfl,HIT.out⟩
    ·have HG:=hD (HWD.out (by unfold kH;rw [hlx];simp) W);clear hlx;go_wp2_with fail;refine (HG.out).mono ?_;rintro e w5 ⟨hb5,v,rfl,ln,kd,er,a,rfl,hit⟩;have HR:=hD (HX0.out.below hb5 HX0.out.lt);have HB5:=hD (aB HBW.out hb5);have HIT:=hD hit;clear hb5 hit y0 y1 y2 y3 q0 q1 q2 q3;obtain ⟨p0,p1,p2,p3⟩:=HR.out.c4;obtain ⟨t0,t1,t2,t3⟩:=HR.out.f4;go_wp2_with fail;refine rR (HR.out.val4 _ _ _ _) Tryz.underlying187 rfl rfl rfl rfl (by kernel_rfl) ?_;exact ⟨aL HB5.out (Nat.le_refl _) _ _ _ _,_,rfl,_,_,_,_,rfl,HIT.out⟩
   ·have HDX:=hD hdx;clear hdx;go_wp2_with fail
    go_loop [7] (fun i=>∃ m:Nat,k<=m/\m<=s.size/\i=.int .i64 (m:Int)) (fun i=>s.size - (intOf i).toNat)
    case atStart=>exact ⟨k,Nat.le_refl _,by omega,rfl⟩
    case round=>
     obtain ⟨m,hkm,hms,rfl⟩:=hrel;by_cases hlm:m < s.size
     ·have hz:=iE hlm;obtain ⟨z,hzz⟩:=nm (vX s m);rw [hzz] at hz;have HZZ:=hD hzz;clear hzz;obtain ⟨q,hq⟩:=nm (xL z);have HQ:Hid (∀ w',Calls Tryz.prog 152 #[.int .u8 (z:Int)] w' (Is w' (.bool q))):=fun w'=>hq ▸ HDC.out z w';have HQQ:=hD hq;clear hq;go_wp2_with fail;refine (HQ.out _).mono ?_;rintro e w1 ⟨rfl,rfl⟩
      cases q
      ·have hne:k < m:=by
        rcases Nat.lt_or_ge k m with h | h
        ·exact h
        ·obtain rfl:k=m:=by omega
         have h1:=HXX.out.symm.trans HZZ.out;subst h1;have h2:=HDX.out.symm.trans HQQ.out
         cases h2
       go_wp2_with fail
       all_goals
        refine rR (HX0.out.val4 _ _ _ _) Tryz.underlying187 rfl rfl rfl rfl (by kernel_rfl) ?_;exact ⟨aL HBW.out (Nat.le_refl _) _ _ _ _,_,rfl,_,_,_,_,rfl,(fun h=>by first | (exact ⟨by omega,by omega⟩) | omega),by unfold aO;omega,by unfold aO;omega,by unfold aO;omega,by unfold aO;omega⟩
      ·go_wp2_with fail
       go_round
       case rel=>exact ⟨m+1,by omega,by omega,by go_num⟩
       case measure=>simp [intOf];omega
     ·have hne:k < m:=by omega
      go_wp2_with fail
      all_goals
       refine rR (HX0.out.val4 _ _ _ _) Tryz.underlying187 rfl rfl rfl rfl (by kernel_rfl) ?_;exact ⟨aL HBW.out (Nat.le_refl _) _ _ _ _,_,rfl,_,_,_,_,rfl,(fun h=>by first | (exact ⟨by omega,by omega⟩) | omega),by unfold aO;omega,by unfold aO;omega,by unfold aO;omega,by unfold aO;omega⟩
theorem nX {s:ByteArray} (h:s≠⟨#[]⟩):0 < s.size:=by
 rcases Nat.eq_zero_or_pos s.size with h0 | h0
 ·exfalso;apply h;obtain ⟨d⟩:=s;have:d.size=0:=h0
  congr
  exact Array.eq_empty_of_size_eq_zero this
 ·exact h0
theorem jR (s:ByteArray) (w:World) (hs:s.size<=1000000000):Calls Tryz.prog 142 #[.string s] w (aV w jC):=by
 by_cases hz:s=⟨#[]⟩
 ·subst hz;go_enter Tryz.func142,Tryz.ntmps142;go_wp2_with fail;go_ret;exact ⟨Below.refl _ _,_,rfl,0,rfl,by unfold aO;omega⟩
 ·have hp:=nX hz;clear hz;have HWC:Hid (∀ c w',Calls Tryz.prog 149 #[.int .u8 ((c:Nat):Int)] w' (Is w' (.bool (tI c)))):=fun c w'=>lX c w';have HNC:=hD (oP s 0 w hp hs);go_enter Tryz.func142,Tryz.ntmps142;go_wp2_with fail
  repeat' (first
   | (go_ret;exact ⟨Below.refl _ _,_,rfl,0,rfl,by unfold aO;omega⟩)
   | (refine (HNC.out).mono ?_;rintro e w5 ⟨hb5,v,rfl,ln,kd,er,a,rfl,-,-,i1,-,-⟩;have HB5:=hD hb5;have HI:=hD i1;clear hb5 i1;go_wp2_with fail;all_goals
       go_ret
       first
        | exact ⟨by repeat (first | exact HB5.out | refine bK ?_ _),_,rfl,0,rfl,by unfold aO;omega⟩
        | exact ⟨by repeat (first | exact HB5.out | refine bK ?_ _),_,rfl,kd,rfl,HI.out⟩)
   | (refine (HWC.out _ _).mono ?_;rintro e w1 ⟨rfl,rfl⟩;generalize tI _=r2;cases r2 <;> go_wp2_with fail))
theorem lG (s:ByteArray) (b:Bool) (w:World) (hs:s.size<=1000000000):Calls Tryz.prog 144 #[.string s,.bool b] w (qF w):=by
 have HL:=hD (uX s 0 w (Nat.zero_le _) hs);go_enter Tryz.func144,Tryz.ntmps144;go_wp2_with fail;refine (HL.out).mono ?_;rintro e w1 ⟨n,bad,rfl,rfl,hn,h1,h2⟩
 cases b
 ·go_wp2_with fail
  all_goals
   first
    | (go_ret;exact ⟨_,rfl,rfl⟩)
    | (go_loop [7,8] (fun q i=>∃ (b:Bool) (m:Nat),q=.bool b/\i=.int .i64 (m:Int)/\m<=s.size) (fun _ i=>s.size - (intOf i).toNat);case atStart=>exact ⟨false,0,rfl,rfl,Nat.zero_le _⟩
       case round=>
        obtain ⟨b,m,rfl,rfl,hms⟩:=hrel;by_cases hlm:m < s.size
        ·go_wp2_with fail
         all_goals
          first
           | (go_round
              ·exact ⟨_,m+1,rfl,by go_num,by omega⟩
              ·simp [intOf];omega)
           | exact ⟨⟨_,m+1,rfl,by go_num,by omega⟩,by simp [intOf];omega⟩
        ·go_wp2_with fail;go_ret;exact ⟨_,rfl,rfl⟩)
 ·go_wp2_with fail
  all_goals
   go_ret;exact ⟨_,rfl,rfl⟩
theorem Ah (s:ByteArray) (w:World) (hs:s.size<=1000000000):Calls Tryz.prog 141 #[.string s] w (qF w):=by
 by_cases h1:s.size < 1
 ·go_enter Tryz.func141,Tryz.ntmps141;go_wp2_with fail
  all_goals
   go_ret;exact ⟨_,rfl,rfl⟩
 ·have h2:1<=s.size:=by omega
  go_enter Tryz.func141,Tryz.ntmps141;go_wp2_with fail
  all_goals
   first
    | (go_ret;exact ⟨_,rfl,rfl⟩)
    | (go_loop [3] (fun i=>∃ (m:Nat),i=.int .i64 (m:Int)/\m<=s.size) (fun i=>s.size - (intOf i).toNat);case atStart=>exact ⟨0,rfl,Nat.zero_le _⟩
       case round=>
        obtain ⟨m,rfl,hms⟩:=hrel;by_cases hlm:m < s.size
        ·go_wp2_with fail
         all_goals
          first
           | (go_ret;exact ⟨_,rfl,rfl⟩)
           | (go_round
              ·exact ⟨m+1,by go_num,by omega⟩
              ·simp [intOf];omega)
           | exact ⟨⟨m+1,by go_num,by omega⟩,by simp [intOf];omega⟩
        ·go_wp2_with fail;go_ret;exact ⟨_,rfl,rfl⟩)
theorem oT (s:ByteArray) (w:World):Calls Tryz.prog 159 #[.string s] w (qF w):=by
 go_enter Tryz.func159,Tryz.ntmps159;go_wp2_with fail
 all_goals
  go_ret;exact ⟨_,rfl,rfl⟩
theorem lI (kd:Int) (s:ByteArray) (w:World) (hs:s.size<=1000000000):Calls Tryz.prog 146 #[.int .i64 kd,.string s] w (aV w dP):=by
 have HC:=hD (jR s w hs);have HO:Hid (∀ w',Calls Tryz.prog 159 #[.string s] w' (qF w')):=fun w'=>oT s w';go_enter Tryz.func146,Tryz.ntmps146;go_wp2_with fail;refine (HC.out).mono ?_;rintro e w1 ⟨hb1,v,rfl,z,rfl,-⟩;have HB:=hD hb1;clear hb1;go_wp2_with fail
 repeat' (first
  | (go_ret;exact ⟨HB.out,_,rfl,_,rfl⟩)
  | (refine (HO.out _).mono ?_;rintro e w1 ⟨r2,rfl,rfl⟩;cases r2 <;> go_wp2_with fail))
theorem uC (n:Int) (f:Bool) (s:ByteArray) (r:Int) (w:World) (hs:s.size<=1000000000):Calls Tryz.prog 143 #[.agg #[.int .i64 n,.bool f,.string s,.int .i64 r]] w (aV w dP):=by
 have HV:Hid (∀ z w',Calls Tryz.prog 102 #[.int .i64 z] w' (Is w' (.bool (yQ z)))):=fun z w'=>dX z w';have HT:Hid (∀ k w',Calls Tryz.prog 146 #[.int .i64 k,.string s] w' (aV w' dP)):=fun k w'=>lI k s w' hs;obtain ⟨W,hW⟩:=nm (w.alloc (.cells #[.int .i64 n,.bool f,.string s,.int .i64 r] 81));have HX0:=bk hW;have HBW:=bw hW;obtain ⟨x0,x1,x2,x3⟩:=HX0.out.c4;have HW:=hD hW;clear hW;go_enter Tryz.func143,Tryz.ntmps143;go_wp2_with (rw [HW.out])
 repeat' (first
  | (go_ret;exact ⟨HBW.out,_,rfl,_,rfl⟩)
  | (refine (HT.out _ _).mono ?_;rintro e w5 ⟨hb5,v,rfl,q,rfl⟩;have HB5:=hD (aB HBW.out hb5);clear hb5;go_wp2_with fail;go_ret;exact ⟨HB5.out,_,rfl,_,rfl⟩)
  | (refine (HV.out _ _).mono ?_;rintro e w1 ⟨rfl,rfl⟩;generalize yQ _=r2;cases r2 <;> go_wp2_with fail))
theorem pD (kd fd n:Int) (f:Bool) (s:ByteArray) (r:Int) (w:World) (hs:s.size<=1000000000):Calls Tryz.prog 125 #[.int .i64 kd,.int .i64 fd,.agg #[.int .i64 n,.bool f,.string s,.int .i64 r]] w (aV w dP):=by
 have HV:Hid (∀ z w',Calls Tryz.prog 102 #[.int .i64 z] w' (Is w' (.bool (yQ z)))):=fun z w'=>dX z w';have HK:Hid (∀ w',Calls Tryz.prog 141 #[.string s] w' (qF w')):=fun w'=>Ah s w' hs;have HTR:Hid (∀ b w',Calls Tryz.prog 144 #[.string s,.bool b] w' (qF w')):=fun b w'=>lG s b w' hs;have HSH:Hid (∀ n f r w',Calls Tryz.prog 143 #[.agg #[.int .i64 n,.bool f,.string s,.int .i64 r]] w' (aV w' dP)):=fun n f r w'=>uC n f s r w' hs;have HCL:Hid (∀ w',Calls Tryz.prog 142 #[.string s] w' (aV w' jC)):=fun w'=>jR s w' hs;obtain ⟨W,hW⟩:=nm (w.alloc (.cells #[.int .i64 n,.bool f,.string s,.int .i64 r] 81));have HX0:=bk hW;have HBW:=bw hW;obtain ⟨x0,x1,x2,x3⟩:=HX0.out.c4;have HW:=hD hW;clear hW;go_enter Tryz.func125,Tryz.ntmps125;go_wp2_with (rw [HW.out])
 repeat' (first
  | (go_ret;exact ⟨HBW.out,_,rfl,_,rfl⟩)
  | (refine (HSH.out _ _ _ _).mono ?_;rintro e w5 ⟨hb5,v,rfl,q,rfl⟩;have HB5:=hD (aB HBW.out hb5);clear hb5;go_wp2_with fail;go_ret;exact ⟨HB5.out,_,rfl,_,rfl⟩)
  | (refine (HCL.out _).mono ?_;rintro e w5 ⟨hb5,v,rfl,q,rfl,-⟩;have HB5:=hD (aB HBW.out hb5);have HR:=hD (HX0.out.below hb5 HX0.out.lt);clear hb5 x0 x1 x2 x3;obtain ⟨x0,x1,x2,x3⟩:=HR.out.c4;go_wp2_with fail;all_goals
      go_ret;exact ⟨HB5.out,_,rfl,_,rfl⟩)
  | (refine (HV.out _ _).mono ?_;rintro e w1 ⟨rfl,rfl⟩;generalize yQ _=r2;cases r2 <;> go_wp2_with fail)
  | (refine (HK.out _).mono ?_;rintro e w1 ⟨r2,rfl,rfl⟩;cases r2 <;> go_wp2_with fail)
  | (refine (HTR.out _ _).mono ?_;rintro e w1 ⟨r2,rfl,rfl⟩;cases r2 <;> go_wp2_with fail))
end
end Go.Proofs.YtkgpoimmniojjaaGreat
