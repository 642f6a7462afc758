/- The broom laws' awake: the document's example, by general rows. BroomSteady: its rows of a text of x's. An idle broom in a law's world. A store and its idle broom, beside blocks that the law keeps. BroomSteady: so many rows fit always fit. How arguments of the laws are opened: slices of any element. How the arguments of the laws on trees are opened: bytes, places, entries. BroomSteady's arguments opened; utf8's tables, out of what the row lists. No condition. -/
import Derived.Test.YtobhgnjblniphaaGreatDoorBs6
import Derived.ProofKit
import Derived.OpenShut
import Derived.Deep.Slices
import Derived.Deep.Fields
import Derived.ChangeSame
import Derived.Carry
import Derived.Laws.Rows
import Derived.Test.YtobhgnjblniphaaGreatDoorRows
import Derived.Lib.LaidU8T
import Derived.LaidMore
import Derived.MakeChecks
set_option linter.unusedVariables false
set_option linter.unusedSimpArgs false
set_option maxRecDepth 100000
set_option maxHeartbeats 8000000
namespace Go.Lap
section
open Go.ChangeShapes Go.WideShapes Go.ChangeAt Go.RowKit Go.Deep
section
variable {H:Type} {enc:TypeId × Value->H} {P:Program} {W:World} {r:Reach} {base:Nat} {v:Value} {d:DataW H} {p:List MemPlace}
theorem ZbG {t e:TypeId} {size:Nat} (ht:P.underlying t=some (.slice e)) (hC:P.cellsOf e=size) (hs:0 < size) (hv:Value.okWide P W r base t v) (h:DataW.Trod enc P W 0 (fun _=>true) true t v d p) :
  ∃ A n cap,v=.slice A n cap/\n <= cap/\cap <= maxLen/\∀ i,i < n->∃ b off,A=some ⟨b,off,none⟩/\b < W.heap.size ∧
   ∃ cs m x,cs.length=size/\(∀ f,f < size->W.cell? ⟨b,off+i * size+f,none⟩=cs[f]?)/\DataW.trod enc P W 0 (fun _=>true) true m e cs=some x:=by
 obtain ⟨A,n,cap,rfl⟩:=okWide_slice ht hv
 refine ⟨A,n,cap,rfl,?_⟩
 obtain ⟨fuel,hf⟩:=h
 rcases open_slice ht hf with ⟨h0,_⟩ | ⟨a,len,cap',m,k,D,Pl,hcs,hb,hl,hm,hmm,_,hi⟩
 ·simp [Value.cells] at h0
  obtain ⟨rfl,rfl,rfl⟩:=h0
  exact ⟨Nat.le_refl _,Nat.zero_le _,fun i hi=>absurd hi (by omega)⟩
 ·simp [Value.cells] at hcs
  obtain ⟨rfl,rfl,rfl⟩:=hcs
  refine ⟨hl,hm,fun i hin=>?_⟩
  simp only [if_true] at hmm
  obtain ⟨cs,hc,htr⟩:=hi i (by omega)
  rw [hC] at hc
  obtain ⟨_,hlen,hcell⟩:=World.cells?_some hc
  have h0:=hcell 0 hs
  rw [zg (by omega)] at h0
  obtain ⟨b,off,spot⟩:=a
  have hlt:=Zf h0
  have hspot:spot=none:=by
   obtain ⟨cs0,hc0,_⟩:=hi 0 (by omega)
   rw [hC] at hc0
   obtain ⟨_,hlen0,hcell0⟩:=World.cells?_some hc0
   have h1:=hcell0 0 hs
   rw [zg (by omega)] at h1
   simpa [Addr.add] using World.cell?_spot h1
  subst hspot
  refine ⟨b,off,rfl,?_,cs,_,_,hlen,fun f hf=>?_,htr⟩
  ·rw [Zl,Zl] at hlt;exact hlt
  ·rw [<- hcell f hf,Zl,Zl]
end
end
section
open Go.ChangeShapes Go.WideShapes Go.ChangeAt Go.RowKit Go.Deep
section
variable {H:Type} {enc:TypeId × Value->H} {P:Program} {W:World} {r:Reach} {base:Nat} {v:Value} {d:DataW H} {p:List MemPlace}
end
theorem ZkN {z:Int} (h:(Lit.int .u8 z).wf=true):∃ n:Nat,z=n/\n < 256:=by
 simp [Lit.wf,show IntKind.u8.min=0 from rfl,show IntKind.u8.max=255 from rfl] at h
 obtain ⟨h1,h2⟩:=h
 exact ⟨z.toNat,by omega,by omega⟩
end
end Go.Lap
namespace Go.Proofs.YtobhgnjblniphaaGreatDoor
open Go.RowKit Go.Lap
def a0:Tup:=⟨1,1,0,-1,-1,Zq [Z1x 0]⟩
def a1:Tup:=⟨1,1,0,-1,-1,Zq [Z1x 1]⟩
def aH1:List (List (Option Tup)):=[[some a0]]
def aH2:List (List (Option Tup)):=[[some (a0.stamp 1 0 1),some a0]]
def aH3:List (List (Option Tup)):=[[some (a0.stamp 1 0 1),some (a0.stamp 1 0 2),some a1]]
def aE1:List Ent:=Z2H ⟨ZW (Z1x 0),0,0⟩ []
def aE2:List Ent:=Z2H ⟨ZW (Z1x 0),0,1⟩ aE1
def aE3:List Ent:=Z2H ⟨ZW (Z1x 1),0,2⟩ aE2
abbrev sA (H:List (List (Option Tup))) (left last:Nat) (es:List Ent):St:=stT 1 (LR 0 ++ [1]) H left last es (snN 0)
theorem Z7q:Z1i (LR 0 ++ [1]) (Z1Y 0) 1=true:=Z33 (n:=0) (Nat.le_refl _) (Nat.le_refl _)
theorem Zaf:stateL (LR 0 ++ [1]) 1 ≠ 3:=by decide
section
variable {w0 w:World} {sb:Nat} {K:Nat->Prop}
theorem Zjk {Sv:Nat->Prop} {A3:Option Addr} {c3:Nat} (h:ZK w0 w sb K (sA [] 10 0 [])) (hU:U8 w0) (hv:Rd w Sv 4 A3 1 (intRow 0)) (hc3:1 <= c3) (hm3:c3 <= maxLen) :
  Calls Tryz.prog 10 #[ptrV sb,.int .u64 1,.string ⟨#[116]⟩,.slice A3 1 c3] w (fun e w'=>e=.returned (.int .i64 0)/\Z0W w0 w sb K (sA aH1 9 1 aE1) w'):=by
 refine (Z82 (x:=1) (y:=Z1Y 0) (t:=Z0R 1) (i:=0) (name:=⟨#[116]⟩) (l:=[Z1x 0]) (x0:=Z1x 0) (H:=[]) (H':=aH1) (left':=9) (p:=0) (q:=0) h (by unfold U64;omega) rfl (Z1I Z7q) rfl hU rfl (Z8H 0 (by omega)) (by show 1 <= 8;omega) (Z2l 1) (Z5j Zaf (by decide)) rfl (by decide) (Z65 0 (by omega)) hv hc3 hm3 (by show 0+1 < 18446744073709551616;omega) (ZfZ (t:=a0) (by decide +kernel) (by decide))).mono ?_
 rintro e w' ⟨rfl,ht⟩
 have e1:({ putSx (sA [] 10 0 []) 1 aH1 9 ⟨ZW (Z1x 0),0,0⟩ with last:=1 }:St)=sA aH1 9 1 aE1:=by
  rw [Z64 Zaf]
  rfl
 have ht':Z0W w0 w sb K ({ putSx (sA [] 10 0 []) 1 aH1 9 ⟨ZW (Z1x 0),0,0⟩ with last:=1 }:St) w':=ht
 rw [e1] at ht'
 exact ⟨rfl,ht'⟩
theorem ZhO {Sv:Nat->Prop} {A3 Ar:Option Addr} {c3 nr cr:Nat} (h:ZK w0 w sb K (sA aH1 9 1 aE1)) (hU:U8 w0) (hv:Rd w Sv 4 A3 1 (intRow 0)) (hc3:1 <= c3) (hm3:c3 <= maxLen) :
  Calls Tryz.prog 13 #[ptrV sb,.int .u64 1,.string ⟨#[116]⟩,.agg #[.int .u64 1,.int .i64 0,.int .i64 0,.slice Ar nr cr],.slice A3 1 c3] w (fun e w'=>e=.returned (.int .i64 0)/\Z0W w0 w sb K (sA aH2 9 1 aE2) w'):=by
 refine (Z5N (x:=1) (y:=Z1Y 0) (t:=Z0R 1) (i:=0) (name:=⟨#[116]⟩) (l:=[Z1x 0]) (x0:=Z1x 0) (p:=0) (q:=1) (H:=aH1) (H1:=[[some a0,some a0]]) (H2:=aH2) (left':=9) (pg:=0) (sl:=0) (z:=0) (v:=a0) (code:=0) h (by unfold U64;omega) rfl (Z1I Z7q) rfl hU rfl (Z8H 0 (by omega)) (by show 1 <= 8;omega) (Z2l 1) (Z5j Zaf (by decide +kernel)) rfl (by decide) (Z65 0 (by omega)) hv hc3 hm3 rfl (by unfold U64;decide) (by unfold U64;decide) (by decide +kernel) (fun _=>Zd4 (T:=[some a0]) (fun s hs=>⟨a0,List.mem_singleton.1 hs,rfl⟩) (by decide) (by decide +kernel) rfl) (Zg0 (v:=a0) (T:=[some a0]) (by decide) (by decide))).mono ?_
 intro e w' hp
 rw [if_pos rfl] at hp
 obtain ⟨rfl,ht⟩:=hp
 have ht':Z0W w0 w sb K (putSx (sA aH1 9 1 aE1) 1 aH2 9 ⟨ZW (Z1x 0),0,1⟩) w':=ht
 rw [Z64 Zaf] at ht'
 exact ⟨rfl,ht'⟩
theorem Zjl:Z1l [[some (a0.stamp 1 0 1),some a0,some a1]] 0 1 1 0 2=(0,aH3):=by
 unfold Z1l
 rw [if_neg (by decide)]
 have:Z02 [some (a0.stamp 1 0 1),some a0,some a1] 1 1 0 2=(0,[some (a0.stamp 1 0 1),some (a0.stamp 1 0 2),some a1]):=by
  unfold Z02
  rw [if_neg (by decide +kernel)]
  rfl
 show ((Z02 [some (a0.stamp 1 0 1),some a0,some a1] 1 1 0 2).1,[(Z02 [some (a0.stamp 1 0 1),some a0,some a1] 1 1 0 2).2])=_
 rw [this]
 rfl
theorem ZhP {Sv:Nat->Prop} {A3 Ar:Option Addr} {c3 nr cr:Nat} (h:ZK w0 w sb K (sA aH2 9 1 aE2)) (hU:U8 w0) (hv:Rd w Sv 4 A3 1 (intRow 1)) (hc3:1 <= c3) (hm3:c3 <= maxLen) :
  Calls Tryz.prog 13 #[ptrV sb,.int .u64 1,.string ⟨#[116]⟩,.agg #[.int .u64 1,.int .i64 0,.int .i64 1,.slice Ar nr cr],.slice A3 1 c3] w (fun e w'=>e=.returned (.int .i64 0)/\Z0W w0 w sb K (sA aH3 9 1 aE3) w'):=by
 refine (Z5N (x:=1) (y:=Z1Y 0) (t:=Z0R 1) (i:=0) (name:=⟨#[116]⟩) (l:=[Z1x 1]) (x0:=Z1x 1) (p:=0) (q:=2) (H:=aH2) (H1:=[[some (a0.stamp 1 0 1),some a0,some a1]]) (H2:=aH3) (left':=9) (pg:=0) (sl:=1) (z:=0) (v:=a0) (code:=0) h (by unfold U64;omega) rfl (Z1I Z7q) rfl hU rfl (Z8H 1 (by omega)) (by show 1 <= 8;omega) (Z2l 1) (Z5j Zaf (by decide +kernel)) rfl (by decide) (Z65 1 (by omega)) hv hc3 hm3 rfl (by unfold U64;decide) (by unfold U64;decide) (by decide +kernel) (fun _=>Zd4 (t:=a1) (T:=[some (a0.stamp 1 0 1),some a0]) (fun s hs=>by
   rcases List.mem_cons.1 hs with e | hs
   · exact ⟨_,e,rfl⟩
   · exact ⟨a0,List.mem_singleton.1 hs,rfl⟩) (by decide) (by decide +kernel) rfl) Zjl).mono ?_
 intro e w' hp
 rw [if_pos rfl] at hp
 obtain ⟨rfl,ht⟩:=hp
 have ht':Z0W w0 w sb K (putSx (sA aH2 9 1 aE2) 1 aH3 9 ⟨ZW (Z1x 1),0,2⟩) w':=ht
 rw [Z64 Zaf] at ht'
 exact ⟨rfl,ht'⟩
theorem Zd5 {T:List (Option Tup)} (h:∀ s ∈ T,s=some (a0.stamp 1 0 1) ∨ s=some (a0.stamp 1 0 2) ∨ s=some a0 ∨ s=some a1):Z5X (Z04 (Z0R 1)) [T]:=Zki (ks:=Z04 (Z0R 1)) (fun s hs=>by
  have k0:=Z65 0 (by omega)
  have k1:=Z65 1 (by omega)
  rcases h s hs with e | e | e | e
  · exact ⟨_,e,by unfold U64;decide,by unfold U64;decide,[Z1x 0],k0,rfl⟩
  · exact ⟨_,e,by unfold U64;decide,by unfold U64;decide,[Z1x 0],k0,rfl⟩
  · exact ⟨_,e,by unfold U64;decide,by unfold U64;decide,[Z1x 0],k0,rfl⟩
  · exact ⟨_,e,by unfold U64;decide,by unfold U64;decide,[Z1x 1],k1,rfl⟩)
theorem Zkj (h:ZK w0 w sb K (sA aH1 9 1 aE1)) (hU:U8 w0) :
  Calls Tryz.prog 12 #[ptrV sb,.int .u64 1,.string ⟨#[116]⟩] w (Z2D w [(1,0,0,Zq [Z1x 0])]) :=
 Z8A (x:=1) (y:=Z1Y 0) (t:=Z0R 1) (i:=0) (H:=aH1) h (by unfold U64;omega) rfl (Z1I Z7q) rfl hU (by show 1 <= 8;omega) (Z2l 1) rfl (Z7p (by decide)) (Zd5 (fun s hs=>by
     rw [List.mem_singleton] at hs
     exact Or.inr (Or.inr (Or.inl hs))))
theorem Zkk (h:ZK w0 w sb K (sA aH2 9 1 aE2)) (hU:U8 w0) :
  Calls Tryz.prog 12 #[ptrV sb,.int .u64 1,.string ⟨#[116]⟩] w (Z2D w [(1,0,1,Zq [Z1x 0])]) :=
 Z8A (x:=1) (y:=Z1Y 0) (t:=Z0R 1) (i:=0) (H:=aH2) h (by unfold U64;omega) rfl (Z1I Z7q) rfl hU (by show 1 <= 8;omega) (Z2l 1) rfl (Z7p (by decide)) (Zd5 (fun s hs=>by
     rcases List.mem_cons.1 hs with e | hs
     · exact Or.inl e
     · rw [List.mem_singleton] at hs
       exact Or.inr (Or.inr (Or.inl hs))))
theorem Zkl:Z5X (Z04 (Z0R 1)) aH3:=Zd5 (fun s hs=>by
  rcases List.mem_cons.1 hs with e | hs
  · exact Or.inl e
  · rcases List.mem_cons.1 hs with e | hs
    · exact Or.inr (Or.inl e)
    · rw [List.mem_singleton] at hs
      exact Or.inr (Or.inr (Or.inr hs)))
theorem ZkS:Z1u (stQ 1 1 aH3 9 1 aE3) 2:=by
 refine ⟨fun _=>rfl,?_,?_,by unfold U64;decide⟩
 ·rintro ⟨x,y,e⟩
  cases e
 ·intro x y e
  cases e
theorem Zkm:Z2U (stQ 1 1 aH3 9 1 aE3) 2:=by
 refine ⟨?_,?_⟩
 ·intro t ht
  obtain rfl:t=Z0R 1:=List.mem_singleton.1 ht
  decide +kernel
 ·intro x hx
  obtain rfl:x=idxK:=List.mem_singleton.1 hx
  decide +kernel
theorem ZkT:∀ T ∈ aH3,Fits T:=by
 intro T hT
 obtain rfl:T=[some (a0.stamp 1 0 1),some (a0.stamp 1 0 2),some a1]:=List.mem_singleton.1 hT
 unfold Fits
 decide +kernel
theorem ZkI:Z2k aH3:=fun pg sl v hv=>by
 obtain ⟨x1,x2,_⟩:=Zkl pg sl v hv
 exact ⟨x1,x2⟩
theorem ZkJ:Z39 (stQ 1 1 aH3 9 1 aE3) (Z0R 1) aH3 2 1:=by
 refine ⟨rfl,by decide,ZkS,Zkm,by decide,?_,by decide,rfl,by unfold U64;decide,ZkT,ZkI,by decide,by decide⟩
 intro x y e
 cases e
theorem ZhQ:Z0k (stQ 1 1 aH3 9 1 aE3) 2 aH3 aH3.length=[(0,0),(0,1)]:=by decide +kernel
theorem ZkK:usedH (Z0D [2] 2 aH3 (Z0k (stQ 1 1 aH3 9 1 aE3) 2 aH3 aH3.length))=1:=by decide +kernel
theorem ZkL:(Z11 (Z0k (stQ 1 1 aH3 9 1 aE3) 2 aH3 aH3.length) aE3).length=1:=by decide +kernel
theorem Zjm {a b:Int} (h1:0 <= a/\a < 1000) (h2:0 <= b/\b < 1000):Wf (a,b):=by
 unfold Wf
 exact ⟨Z7H (by show _ <= a/\a < _;omega),Z7H (by show _ <= b/\b < _;omega)⟩
theorem Zd6 {s:St} {t:TE} {H:List (List (Option Tup))} (h:ZK w0 w sb K s) (hT:s.T=[t]) (hI:s.I.length <= 1000) (hid:U64 t.id) (hH:s.hs t.id=some H) :
  Calls Tryz.prog 15 #[ptrV sb] w (Z2b w [usedH H]):=by
 obtain ⟨o,h1,_⟩:=h
 exact Z9D h1 hT hI hid hH
theorem Ze2 {s:St} {t:TE} (h:ZK w0 w sb K s) (hT:s.T=[t]) (hI:s.I.length <= 1000) (hid:U64 t.id) (hx:∀ e ∈ ZQ s.L t.id s.I,U64 e.id/\∃ es,s.ts e.id=some es) :
  Calls Tryz.prog 18 #[ptrV sb] w (Z2b w ((ZQ s.L t.id s.I).map (fun e=>((s.ts e.id).getD []).length))):=by
 obtain ⟨o,h1,_⟩:=h
 exact Zby h1 hT hI hid hx
end
theorem Z4v {w wr:World} {v:Value} {n:Nat} (h:Z27 w wr v [n]):∃ b c,v=.slice (some ⟨b,0,none⟩) 1 c/\wr.cell? ⟨b,0,none⟩=some (.int .i64 (n:Int)):=by
 rcases ZB h.own with ⟨_,e⟩ | ⟨b,c,rfl,_,_⟩
 ·cases e
 have c0:=h.own.cells (by rfl) 0 (.int .i64 (n:Int)) rfl
 rw [Zl,Nat.zero_add] at c0
 exact ⟨b,c,rfl,c0⟩
theorem Zkn (w:World) (hU:U8 w):Calls Tryz.prog 4 #[] w fun e w'=>e=.returned (.bool true)/\Quiet w w':=by
 obtain ⟨Z8,Z6⟩:∃ Z8:Ending->World->Prop,(fun e w'=>e=.returned (.bool true)/\Quiet w w')=Z8:=⟨_,rfl⟩
 rw [Z6]
 have Ze:=zh Z6
 clear Z6
 have HU8:=zh hU
 clear hU
 go_enter Tryz.func4,Tryz.ntmps4
 go_wp2_with fail
 refine (Zej 10 (by omega) _).mono ?_
 rintro e w1 ⟨sb,rfl,h1⟩
 have H1:=zh h1
 clear h1
 go_wp2_with fail
 refine (Z7j H1.out (by decide)).mono ?_
 rintro e w2 ⟨rfl,h2⟩
 have H2:=zh h2.st
 clear h2
 go_wp2_with fail
 refine (ZkR _).mono ?_
 rintro e w3 ⟨b3,rfl,hq3,hn3,hl3,hr3⟩
 have H3:=zh (H2.out.quietly hq3)
 have HMK:Hid (Calls Tryz.prog 8 #[ptrV sb,.int .u64 1,.string ⟨#[116]⟩,.slice (some ⟨b3,0,none⟩) 1 1] w3 (fun e w'=>e=.returned (.int .i64 0)/\ZK w w' sb (fun _=>False) (Z5f (Z4b (st0 10)) ⟨#[116]⟩ ⟨#[97]⟩ 1 1))):=by
  refine (ZcU (x:=1) (y:=Z2I [1] 1) (name:=⟨#[116]⟩) (nm:=⟨#[97]⟩) (kd:=1) H3.out (by unfold U64;omega) rfl rfl rfl rfl (by decide) (by unfold U64;decide) Zen Zeo ⟨by omega,by omega⟩ (hr3.mono (fun k e=>Or.inr ⟨by omega,by omega⟩)) (by omega) (by unfold maxLen;omega)).mono ?_
  rintro e w' ⟨rfl,h⟩
  exact ⟨rfl,h.st.mono (fun _ x=>x.elim)⟩
 clear hq3 hn3 hl3 hr3
 go_wp2_with fail
 refine HMK.out.mono ?_
 rintro e w4 ⟨rfl,h4⟩
 have HIX:=zh (Z7o h4 Zep Zeq)
 clear h4 HMK
 go_wp2_with fail
 refine HIX.out.mono ?_
 rintro e w5 ⟨rfl,h5⟩
 have H5:=zh h5.st
 clear h5 HIX
 go_wp2_with fail
 refine (ZfN 0 _).mono ?_
 rintro e w6 ⟨b6,rfl,hq6,hn6,hl6,hr6⟩
 have HIN:=zh (Zjk (c3:=1) (H5.out.same hq6) HU8.out hr6 (by omega) (by unfold maxLen;omega))
 clear hq6 hn6 hl6 hr6
 go_wp2_with fail
 refine HIN.out.mono ?_
 rintro e w7 ⟨rfl,h7⟩
 have H7:=zh h7.st
 clear h7 HIN
 go_wp2
 refine wp_loop_rounds 3 ?_
 rw [rounds_succ]
 go_wp2_with fail
 refine (Zkj H7.out HU8.out).mono ?_
 rintro e wa ⟨va,M,rfl,hrw,hpm,_⟩
 obtain ⟨b,c,A2,n2,c2,hone⟩:=hrw.one hpm
 obtain rfl:=hone.form
 have HONE:=zh hone
 have HA:Hid (ZK w wa sb (fun k=>k=b) (sA aH1 9 1 aE1)):=(H7.out.quietly hrw.quiet).mono (fun k x=>Or.inr (by have:=hone.nb;omega))
 clear hrw hpm hone
 have HS12:Hid (∀ W,Z0 (fun k=>¬ (k=b)) wa W->(fun w'=>w'.cell? ⟨b,0,none⟩=some (.int .u64 1)/\w'.cell? ⟨b,1,none⟩=some (.int .i64 0)/\w'.cell? ⟨b,2,none⟩=some (.int .i64 0)/\w'.cell? ⟨b,3,none⟩=some (.slice A2 n2 c2)) W):=fun W ho=>by
  obtain ⟨k0,k1,k2,k3⟩:=HONE.out.kept ho (fun x=>x rfl)
  exact ⟨k0,k1,k2,k3⟩
 have HU12:Hid (∀ W,Quiet wa W->∀ bn,Rd W (fun k=>k=bn) 4 (some ⟨bn,0,none⟩) 1 (intRow 0)->Calls Tryz.prog 13 #[ptrV sb,.int .u64 1,.string ⟨#[116]⟩,.agg #[.int .u64 1,.int .i64 0,.int .i64 0,.slice A2 n2 c2],.slice (some ⟨bn,0,none⟩) 1 1] W (fun e w'=>e=.returned (.int .i64 0)/\Z0W w W sb (fun k=>k=b) (sA aH2 9 1 aE2) w')):=fun W hq bn hr=>ZhO (c3:=1) (HA.out.same hq) HU8.out hr (by omega) (by unfold maxLen;omega)
 go_wp2_with fail
 refine zH HS12 ((Z0.refl _ _).drew) (fun Z3=>?_)
 have q0:Quiet wa wa.drew:=(Z0.refl _ _).drew
 generalize wa.drew=d0 at q0 Z3 ⊢
 refine zT 0 ?_
 refine zT 1 ?_
 refine zT 2 ?_
 refine zT 3 ?_
 refine zT 4 ?_
 refine zT 5 ?_
 refine zT 6 ?_
 refine zT 7 ?_
 refine zT 8 ?_
 refine zR 9 ?_
 intro K hK
 go_simp
 go_at_call 17
 refine (ZfN 0 _).mono ?_
 rintro e d1 ⟨bn,rfl,hqn,_,_,hrn⟩
 have q1:=q0.trans hqn
 clear hqn
 dsimp only
 refine hK.out _ _ ?_ (fun Z3=>?_)
 ·exact HS12.out _ (q1.mono (fun _ _ x=>x.elim))
 clear hK K
 (try simp only [Act.put,zPA,zPZ,zPS])
 refine zR 10 ?_
 intro K hK
 go_simp
 go_at_call 13
 refine (HU12.out _ q1 bn hrn).mono ?_
 rintro e d2 ⟨rfl,hlt⟩
 have q2:Z0 (fun k=>¬ (k=b)) _ d2:=(q1.mono (T:=fun k=>¬ (k=b)) (fun _ _ x=>x.elim)).trans' hlt.2 (fun k _ x=>x.2)
 dsimp only
 refine hK.out _ _ ?_ (fun Z3=>?_)
 ·exact HS12.out _ q2
 clear hK K
 (try simp only [Act.put,zPA,zPZ,zPS])
 refine zT 11 ?_
 refine zT 12 ?_
 refine zD ?_
 have H8:Hid (ZK w d2 sb (fun _=>False) (sA aH2 9 1 aE2)):=hlt.st.mono (fun _ x=>x.elim)
 clear Z3 q0 q1 q2 hlt hrn HS12 HU12 HA HONE
 go_wp2
 rw [rounds_succ]
 go_wp2_with fail
 refine (Zkk H8.out HU8.out).mono ?_
 rintro e wa ⟨va,M,rfl,hrw,hpm,_⟩
 obtain ⟨b,c,A2,n2,c2,hone⟩:=hrw.one hpm
 obtain rfl:=hone.form
 have HONE:=zh hone
 have HA:Hid (ZK w wa sb (fun k=>k=b) (sA aH2 9 1 aE2)):=(H8.out.quietly hrw.quiet).mono (fun k x=>Or.inr (by have:=hone.nb;omega))
 clear hrw hpm hone
 have HS12:Hid (∀ W,Z0 (fun k=>¬ (k=b)) wa W->(fun w'=>w'.cell? ⟨b,0,none⟩=some (.int .u64 1)/\w'.cell? ⟨b,1,none⟩=some (.int .i64 0)/\w'.cell? ⟨b,2,none⟩=some (.int .i64 1)/\w'.cell? ⟨b,3,none⟩=some (.slice A2 n2 c2)) W):=fun W ho=>by
  obtain ⟨k0,k1,k2,k3⟩:=HONE.out.kept ho (fun x=>x rfl)
  exact ⟨k0,k1,k2,k3⟩
 have HU12:Hid (∀ W,Quiet wa W->∀ bn,Rd W (fun k=>k=bn) 4 (some ⟨bn,0,none⟩) 1 (intRow 1)->Calls Tryz.prog 13 #[ptrV sb,.int .u64 1,.string ⟨#[116]⟩,.agg #[.int .u64 1,.int .i64 0,.int .i64 1,.slice A2 n2 c2],.slice (some ⟨bn,0,none⟩) 1 1] W (fun e w'=>e=.returned (.int .i64 0)/\Z0W w W sb (fun k=>k=b) (sA aH3 9 1 aE3) w')):=fun W hq bn hr=>ZhP (c3:=1) (HA.out.same hq) HU8.out hr (by omega) (by unfold maxLen;omega)
 go_wp2_with fail
 refine zH HS12 ((Z0.refl _ _).drew) (fun Z3=>?_)
 have q0:Quiet wa wa.drew:=(Z0.refl _ _).drew
 generalize wa.drew=d0 at q0 Z3 ⊢
 refine zT 0 ?_
 refine zT 1 ?_
 refine zT 2 ?_
 refine zT 3 ?_
 refine zT 4 ?_
 refine zT 5 ?_
 refine zT 6 ?_
 refine zT 7 ?_
 refine zT 8 ?_
 refine zR 9 ?_
 intro K hK
 go_simp
 go_at_call 17
 refine (ZfN 1 _).mono ?_
 rintro e d1 ⟨bn,rfl,hqn,_,_,hrn⟩
 have q1:=q0.trans hqn
 clear hqn
 dsimp only
 refine hK.out _ _ ?_ (fun Z3=>?_)
 ·exact HS12.out _ (q1.mono (fun _ _ x=>x.elim))
 clear hK K
 (try simp only [Act.put,zPA,zPZ,zPS])
 refine zR 10 ?_
 intro K hK
 go_simp
 go_at_call 13
 refine (HU12.out _ q1 bn hrn).mono ?_
 rintro e d2 ⟨rfl,hlt⟩
 have q2:Z0 (fun k=>¬ (k=b)) _ d2:=(q1.mono (T:=fun k=>¬ (k=b)) (fun _ _ x=>x.elim)).trans' hlt.2 (fun k _ x=>x.2)
 dsimp only
 refine hK.out _ _ ?_ (fun Z3=>?_)
 ·exact HS12.out _ q2
 clear hK K
 (try simp only [Act.put,zPA,zPZ,zPS])
 refine zT 11 ?_
 refine zT 12 ?_
 refine zD ?_
 have H9:Hid (ZK w d2 sb (fun _=>False) (sA aH3 9 1 aE3)):=hlt.st.mono (fun _ x=>x.elim)
 clear Z3 q0 q1 q2 hlt hrn HS12 HU12 HA HONE
 have HCO:Hid (Calls Tryz.prog 11 #[ptrV sb,.int .u64 1] d2 (fun e w'=>e=.returned (.int .i64 0)/\ZK w w' sb (fun _=>False) (stQ 1 1 aH3 9 1 aE3))):=by
  refine (Z4D (n:=0) H9.out (by omega)).mono ?_
  rintro e w' ⟨rfl,h⟩
  exact ⟨rfl,h.st⟩
 go_wp2
 rw [rounds_succ]
 go_wp2_with fail
 refine HCO.out.mono ?_
 rintro e wb ⟨rfl,hb⟩
 have HB:=zh hb
 have HUS:Hid (Calls Tryz.prog 15 #[ptrV sb] wb (Z2b wb [3])):=Zd6 (t:=Z0R 1) (H:=aH3) hb rfl (by decide) (by unfold U64;decide) rfl
 clear hb HCO
 go_wp2_with fail
 refine HUS.out.mono ?_
 rintro e wc ⟨v,rfl,hi⟩
 have HC:=zh (HB.out.same hi.quiet)
 obtain ⟨bu,cu,rfl,hbu⟩:=Z4v hi
 have lbu:=Zf hbu
 dsimp only at lbu
 clear hi HUS
 go_wp2_with fail
 refine (Zb6 (ZF.start HC.out)).mono ?_
 rintro e wd ⟨rb,rfl,hbr⟩
 have HPA:Hid (Calls Tryz.prog 14 #[ptrV rb,.int .i64 100] wd (fun e w'=>(∃ z:Int,e=.returned (.int .i64 z))/\Z0o ⟨w,fun _=>False,wc⟩ w' sb rb 1 (Z4u (stQ 1 1 aH3 9 1 aE3) 1 2 2 aH3 aE3))) :=
  ZhI (t:=Z0R 1) (x:=idxK) (hz:=2) (N:=1) (es:=aE3) (ps:=0) (most:=100) ZkJ rfl rfl (by unfold U64;decide) rfl (fun p hp=>by
    rw [ZhQ] at hp
    rcases List.mem_cons.1 hp with e | hp
    · rw [e];exact Zjm (by omega) (by omega)
    · rw [List.mem_singleton.1 hp];exact Zjm (by omega) (by omega)) (fun e he=>by
    have h3:e=⟨ZW (Z1x 1),0,2⟩ ∨ e=⟨ZW (Z1x 0),0,1⟩ ∨ e=⟨ZW (Z1x 0),0,0⟩:=by
      rcases Z6k.1 he with y | y
      · exact Or.inl y
      · rcases Z6k.1 y with y | y
        · exact Or.inr (Or.inl y)
        · rcases Z6k.1 y with y | y
          · exact Or.inr (Or.inr y)
          · cases y
    rcases h3 with y | y | y <;> (rw [y];exact Zjm (by decide) (by decide))) (by rw [ZhQ];decide) (by decide +kernel) hbr (by omega) (by decide) (by omega)
 clear hbr HC lbu hbu
 go_wp2_with fail
 refine HPA.out.mono ?_
 rintro e we ⟨⟨z,rfl⟩,vj,hl,_,_⟩
 have HL:=zh hl.law
 have HU1:Hid (∀ W,Quiet we W->Calls Tryz.prog 15 #[ptrV sb] W (Z2b W [1])):=fun W hq=>by
  have:=Zd6 (t:=Z0R 1) (HL.out.same hq) rfl (by decide) (by unfold U64;decide) (by rfl)
  rw [show usedH (Z0D (stQ 1 1 aH3 9 1 aE3).L 2 aH3 (Z0k (stQ 1 1 aH3 9 1 aE3) 2 aH3 aH3.length))=1 from ZkK] at this
  exact this
 have HE1:Hid (∀ W,Quiet we W->Calls Tryz.prog 18 #[ptrV sb] W (Z2b W [1])):=fun W hq=>by
  have:=Ze2 (t:=Z0R 1) (HL.out.same hq) rfl (by decide) (by unfold U64;decide) (fun e he=>by
    have:e=idxK:=List.mem_singleton.1 he
    subst this
    exact ⟨by unfold U64;decide,_,rfl⟩)
  have e2:(ZQ (Z4u (stQ 1 1 aH3 9 1 aE3) 1 2 2 aH3 aE3).L (Z0R 1).id (Z4u (stQ 1 1 aH3 9 1 aE3) 1 2 2 aH3 aE3).I).map (fun e=>(((Z4u (stQ 1 1 aH3 9 1 aE3) 1 2 2 aH3 aE3).ts e.id).getD []).length)=[1]:=by
   show [(Z11 (Z0k (stQ 1 1 aH3 9 1 aE3) 2 aH3 aH3.length) aE3).length]=[1]
   rw [ZkL]
  rw [e2] at this
  exact this
 clear hl HPA
 go_wp2_with fail
 refine (HU1.out _ (Z0.refl _ _)).mono ?_
 rintro e wf ⟨v,rfl,hi⟩
 obtain ⟨bu,cu,rfl,hbu⟩:=Z4v hi
 have HQF:=zh hi.quiet
 have HBU:=zh hbu
 clear hi hbu
 go_wp2_with fail
 refine (HE1.out _ HQF.out).mono ?_
 rintro e wg ⟨v,rfl,hi⟩
 obtain ⟨bv,cv,rfl,hbv⟩:=Z4v hi
 have hbu:=hi.quiet.cell HBU.out (fun x=>x)
 have lbu:=Zf hbu
 have lbv:=Zf hbv
 dsimp only at lbu lbv
 have Zc:Hid (Z8 (.returned (.bool true)) wg):=by
  rw [<- Ze.out]
  exact ⟨rfl,(HL.out.quiet.trans HQF.out).trans hi.quiet⟩
 have hbu1:wg.cell? ⟨bu,0,none⟩=some (.int .i64 1):=hbu
 have hbv1:wg.cell? ⟨bv,0,none⟩=some (.int .i64 1):=hbv
 clear hi HU1 HE1 HBU hbu hbv HL H9 HB H8 H7 H5 H3 H2 H1 HQF
 go_wp2
 exact Zc.out
def Z4E (n:Nat):RV:=⟨2,0,Go.Lap.strOf (List.replicate n 120),false⟩
theorem Zjn:∀ n,n < 40->fitsR [2] [Z4E n]=0/\Zt (Z4E n)=true/\(Zq [Z4E n]).length <= 200:=by decide +kernel
theorem Zd7 (n:Nat) (h:n < 40):Zg5 2 (Z4E n):=by
 obtain ⟨h1,h2,h3⟩:=Zjn n h
 have hn:ZcE (Z4E n):=⟨by show _ <= (0:Int);omega,by show (0:Int) <= _;omega⟩
 refine ⟨⟨h1,fun v hv=>?_⟩,⟨h2,hn,Or.inl rfl⟩,h3⟩
 rw [List.mem_singleton] at hv
 rw [hv]
 exact hn
theorem Zjo (k:Nat) (hk:k <= 255) (w:World):(Instr.makeSlice 22 (.int .u8 (k:Int)) (.int .u8 (k:Int))).run Tryz.prog w=.ok (.slice (some ⟨w.heap.size,0,none⟩) k k) (w.alloc (.cells (tab k (Z0q (fun _=>0))) 5)):=by
 obtain ⟨i,z,ht,hi,h0,h1,h2,h3,h4⟩:=Z17
 have hz:z=.int .u8 0:=by
  have:(Tryz.prog.info? 5).map (fun i=>i.zero)=some (some (.int .u8 0)):=by kernel_rfl
  rw [hi] at this
  simp [h0] at this
  exact this
 subst hz
 have hr:=run_make (P:=Tryz.prog) w 22 5 i (.int .u8 0) ht hi h0 .u8 .u8 k k (by omega) (by omega) (by rw [h2];omega) (by omega)
 simp only [Int.toNat_natCast] at hr
 rw [hr,h1,Nat.mul_one,Zic]
theorem ZkM {w:World} {b n:Nat} (h:Bk w b n 5 (fun _=>120)):(convert 22 9 (.slice (some ⟨b,0,none⟩) n n)).run Tryz.prog w=.ok (.string (Go.Lap.strOf (List.replicate n 120))) w:=by
 have hr:Rd w (fun _=>True) 1 (some ⟨b,0,none⟩) (List.replicate n 120).length (Z9 (List.replicate n 120)):=by
  refine ⟨by rw [Z0S,Nat.mul_one],fun _=>⟨b,0,rfl,trivial,fun i v hv=>?_⟩⟩
  unfold Z9 at hv
  rw [List.getElem?_map,List.getElem?_replicate] at hv
  split at hv
  ·rename_i hi
   injection hv with hv
   rw [Nat.zero_add,h.cell hi,<- hv]
  ·cases hv
 have:=Z3k (some ⟨b,0,none⟩) n (List.replicate n 120) (fun _=>True) w hr (fun x hx=>by rw [(List.mem_replicate.1 hx).2];omega)
 rw [List.length_replicate] at this
 exact this
theorem ZkU (n:Nat):Z0P [Z4E n]=[.int .u8 2,.int .i64 0,.string (Go.Lap.strOf (List.replicate n 120)),.bool false]:=rfl
def BrX (w0 w:World) (sb rb ps:Nat) (K:Nat->Prop) (s:St):Prop:=∃ vj,ZK w0 w sb (fun k=>k=rb ∨ K k) s/\Z7u w rb sb false vj ps/\w0.heap.size <= rb/\¬ K rb
section
variable {w0 w w':World} {sb rb ps:Nat} {K:Nat->Prop} {s s':St}
theorem BrX.to (h:BrX w0 w sb rb ps K s) (ht:Z0W w0 w sb (fun k=>k=rb ∨ K k) s' w'):BrX w0 w' sb rb ps K s':=by
 obtain ⟨vj,hl,hb,hn⟩:=h
 exact ⟨vj,ht.st,⟨ht.2.get hb.box (fun x=>x.2 (Or.inl rfl))⟩,hn⟩
theorem BrX.quietly (h:BrX w0 w sb rb ps K s) (hq:Quiet w w'):BrX w0 w' sb rb ps (fun k=>K k ∨ (w.heap.size <= k/\k < w'.heap.size)) s:=by
 obtain ⟨vj,hl,hb,hn,hk⟩:=h
 refine ⟨vj,(hl.quietly hq).mono (fun k e=>by rcases e with e | e | e;exact Or.inl (Or.inl e);exact Or.inl (Or.inr e);exact Or.inr e),⟨hq.get hb.box (fun x=>x)⟩,hn,fun e=>?_⟩
 have:=Z2 hb.box
 rcases e with e | e
 ·exact hk e
 ·omega
theorem BrX.mono {K':Nat->Prop} (h:BrX w0 w sb rb ps K s) (hk:∀ k,K' k->K k):BrX w0 w sb rb ps K' s:=by
 obtain ⟨vj,hl,hb,hn,hx⟩:=h
 exact ⟨vj,hl.mono (fun k e=>e.imp id (hk k)),hb,hn,fun e=>hx (hk _ e)⟩
theorem BrX.same (h:BrX w0 w sb rb ps K s) (hq:Quiet w w'):BrX w0 w' sb rb ps K s:=(h.quietly hq).mono (fun _ x=>Or.inl x)
theorem BrX.idle (h:BrX w0 w sb rb ps K s):Z0o ⟨w0,K,w⟩ w sb rb ps s:=by
 obtain ⟨vj,hl,hb,hn,hk⟩:=h
 exact ⟨vj,⟨hl,fun k x _ e=>e,fun k e a=>by have e':k=rb:=e;rw [e'] at a;exact hk a⟩,hb,hn⟩
theorem Z0o.x {B:Z0b} (h:Z0o B w sb rb ps s):BrX B.w w sb rb ps B.X s/\∀ k x,B.X k->B.at_.heap[k]?=some x->w.heap[k]?=some x:=by
 obtain ⟨vj,hl,hb,hn⟩:=h
 exact ⟨⟨vj,hl.1,hb,hn,hl.2.2 rb rfl⟩,hl.2.1⟩
theorem BrX.law (h:BrX w0 w sb rb ps K s):ZK w0 w sb (fun k=>k=rb ∨ K k) s:=by
 obtain ⟨vj,hl,hb,hn⟩:=h
 exact hl
end
structure KV (w0 w:World) (sb rb ps:Nat) (Q:Nat->Obj->Prop) (s:St):Prop where
 x:BrX w0 w sb rb ps (fun k=>∃ o,Q k o) s
 v:∀ k o,Q k o->w.heap[k]?=some o
section
variable {w0 w w':World} {sb rb ps:Nat} {Q Q':Nat->Obj->Prop} {s s':St}
theorem KV.law (h:KV w0 w sb rb ps Q s):ZK w0 w sb (fun k=>k=rb ∨ ∃ o,Q k o) s:=h.x.law
theorem KV.to (h:KV w0 w sb rb ps Q s) (ht:Z0W w0 w sb (fun k=>k=rb ∨ ∃ o,Q k o) s' w'):KV w0 w' sb rb ps Q s' :=
 ⟨h.x.to ht,fun k o q=>ht.2.get (h.v k o q) (fun x=>x.2 (Or.inr ⟨o,q⟩))⟩
theorem KV.same (h:KV w0 w sb rb ps Q s) (hq:Quiet w w'):KV w0 w' sb rb ps Q s:=⟨h.x.same hq,fun k o q=>hq.get (h.v k o q) (fun x=>x)⟩
theorem KV.less (h:KV w0 w sb rb ps Q s) (hk:∀ k o,Q' k o->Q k o):KV w0 w sb rb ps Q' s :=
 ⟨h.x.mono (fun k ⟨o,q⟩=>⟨o,hk k o q⟩),fun k o q=>h.v k o (hk k o q)⟩
theorem KV.more (h:KV w0 w sb rb ps Q s) (hq:Quiet w w') {b:Nat} {o:Obj} (hb:w.heap.size <= b) (ho:w'.heap[b]?=some o):KV w0 w' sb rb ps (fun k o'=>Q k o' ∨ (k=b/\o'=o)) s:=by
 refine ⟨(h.x.quietly hq).mono (fun k ⟨o',q⟩=>?_),fun k o' q=>?_⟩
 ·rcases q with q | ⟨rfl,rfl⟩
  ·exact Or.inl ⟨o',q⟩
  ·exact Or.inr ⟨hb,Z2 ho⟩
 ·rcases q with q | ⟨rfl,rfl⟩
  ·exact hq.get (h.v k o' q) (fun x=>x)
  ·exact ho
theorem KV.start (h:BrX w0 w sb rb ps (fun _=>False) s):KV w0 w sb rb ps (fun _ _=>False) s:=⟨h.mono (fun k ⟨o,q⟩=>q),fun k o q=>q.elim⟩
theorem KV.idle (h:KV w0 w sb rb ps Q s):Z0o ⟨w0,fun k=>∃ o,Q k o,w⟩ w sb rb ps s:=h.x.idle
theorem KV.back {ps':Nat} (h:KV w0 w sb rb ps Q s) (hi:Z0o ⟨w0,fun k=>∃ o,Q k o,w⟩ w' sb rb ps' s'):KV w0 w' sb rb ps' Q s':=by
 obtain ⟨h1,h2⟩:=hi.x
 exact ⟨h1,fun k o q=>h2 k o ⟨o,q⟩ (h.v k o q)⟩
theorem KV.quiet (h:KV w0 w sb rb ps Q s):Quiet w0 w:=h.law.quiet
end
theorem Z5C {w w':World} {b:Nat} {o:Obj} (h:w.heap[b]?=some o) (h':w'.heap[b]?=some o) (j:Nat):w'.cell? ⟨b,j,none⟩=w.cell? ⟨b,j,none⟩:=by
 unfold World.cell?
 rw [h,h']
theorem Z1L.le {N N':Nat} {es:List Ent} (h:Z1L N es) (hn:N <= N'):Z1L N' es:=⟨Nat.le_trans h.few hn,h.wf⟩
def Z2d (n:Nat):Obj:=.cells #[.int .u8 2,.int .i64 0,.string (Go.Lap.strOf (List.replicate n 120)),.bool false] 32 (0,0)
theorem Zer {W:World} {b n:Nat} (h:W.heap[b]?=some (Z2d n)):Rd W (fun k=>k=b) 4 (some ⟨b,0,none⟩) 1 (Z0P [Z4E n]):=by
 refine ⟨rfl,fun _=>⟨b,0,rfl,rfl,fun i v hv=>?_⟩⟩
 rw [Nat.zero_add,Z1 h]
 rw [<- hv,ZkU]
 exact List.getElem?_toArray
theorem Ze3 (rows rounds size:Nat) (hrows:rows < 256) (hrounds:rounds < 256) (hsize:size < 256) (A:Option Addr) (cap:Nat) (ls:List Nat) (hb:∀ x ∈ ls,x < 256) (w:World) (hU:U8 w) (hr:Rd w (fun _=>True) 1 A ls.length (Z9 ls)) :
  Calls Tryz.prog 3 #[.int .u8 (rows:Int),.int .u8 (rounds:Int),.int .u8 (size:Int),.slice A ls.length cap] w fun e w'=>e=.returned (.bool true)/\Quiet w w':=by
 obtain ⟨Z8,Z6⟩:∃ Z8:Ending->World->Prop,(fun e w'=>e=.returned (.bool true)/\Quiet w w')=Z8:=⟨_,rfl⟩
 rw [Z6]
 have Ze:=zh Z6
 have HLS:=zh (And.intro hb hr)
 have HU8:=zh hU
 clear Z6 hb hr hU
 obtain ⟨k,hk⟩:∃ k:Nat,1+(rows:Int) % 12=(k:Int):=⟨1+rows % 12,by omega⟩
 have hk8:1 <= k/\k <= 12:=by omega
 obtain ⟨R,hR⟩:∃ R:Nat,1+(rounds:Int) % 20=(R:Int):=⟨1+rounds % 20,by omega⟩
 have hR4:1 <= R/\R <= 20:=by omega
 obtain ⟨n,hn⟩:∃ n:Nat,(size:Int) % 40=(n:Int):=⟨size % 40,by omega⟩
 have hn4:n < 40:=by omega
 obtain ⟨ll,hll⟩:∃ ll,ls.length=ll:=⟨_,rfl⟩
 rw [hll]
 have HLL:=zh hll
 have HR:=zh hR
 have HR4:=zh hR4
 have HK8:=zh hk8
 have HN:=zh hn
 have HN4:=zh hn4
 clear hR hR4 hll hn hn4
 go_enter Tryz.func3,Tryz.ntmps3
 go_wp2_with fail
 refine (Zkn _ HU8.out).mono ?_
 rintro e w0 ⟨rfl,hq0⟩
 have HQ0:=zh hq0
 have HU0:=zh (HU8.out.quietly hq0)
 clear hq0 HU8
 have hw2:IntKind.i64.wrap (2 * (k:Int))=((2 * k:Nat):Int):=by rw [Zp _ (by omega) (by omega)];rfl
 go_wp2_with fail
 (try rw [hk])
 (try rw [hw2])
 refine (Zej (2 * k) (by omega) _).mono ?_
 rintro e w1 ⟨sb,rfl,h1⟩
 have HNB:=zh (Zb6 (ZF.start h1))
 clear h1
 go_wp2_with fail
 refine HNB.out.mono ?_
 rintro e w2 ⟨rb,rfl,h2⟩
 have H2:=zh h2.x.1
 clear h2 HNB
 have hn:=HN.out
 have hmk:=fun W=>Zjo n (by have:=HN4.out;omega) W
 go_wp2_with fail
 obtain ⟨bv,hbv⟩:∃ bv,w2.heap.size=bv:=⟨_,rfl⟩
 have HBV:=zh hbv
 (try rw [hbv])
 have HV0:Hid (Quiet w2 (w2.alloc (.cells (tab n (Z0q (fun _=>0))) 5))/\Bk (w2.alloc (.cells (tab n (Z0q (fun _=>0))) 5)) bv n 5 (fun j=>if j < 0 then 120 else 0)):=by
  refine ⟨(Z0.refl _ _).alloc _,?_⟩
  have h:=Z4 w2 (.cells (tab n (Z0q (fun _=>0))) 5)
  rw [hbv] at h
  exact Bk.ext h (fun j _=>by rw [if_neg (by omega)])
 clear hmk hn
 go_loopw [43,14] (fun c _ wr=>∃ i:Nat,i <= n/\c=.int .i64 (i:Int)/\Quiet w2 wr/\Bk wr bv n 5 (fun j=>if j < i then 120 else 0)) (fun c _ _=>n - (intOf c).toNat)
 case atStart=>exact ⟨0,Nat.zero_le _,rfl,HV0.out⟩
 case round =>
  obtain ⟨i,hi,rfl,hq,hbk⟩:=hrel
  have HQ:=zh hq
  have HBK:=zh hbk
  clear HV0 hbv
  have hn4:=HN4.out
  by_cases hlt:i < n
  ·have hw1:IntKind.i64.wrap ((i:Int)+1)=((i+1:Nat):Int):=by rw [Zp _ (by omega) (by omega)];rfl
   have hc:=hbk.cell hlt
   have hf:=hbk.frozen i
   have hl:=hbk.lt
   have HS:Hid (Quiet w2 (wr.setCell ⟨bv,i,none⟩ (.int .u8 120))/\Bk (wr.setCell ⟨bv,i,none⟩ (.int .u8 120)) bv n 5 (fun j=>if j < i+1 then 120 else 0)):=by
    refine ⟨hq.trans' ((Z0.refl (·=bv) wr).setCell (p:=⟨bv,i,none⟩) (fun _=>rfl) _) (fun k hk e=>?_),(hbk.set i 120).ext (fun j hj=>?_)⟩
    ·have:=HBV.out
     omega
    ·by_cases e:j=i
     ·rw [if_pos e,if_pos (by omega)]
     ·rw [if_neg e]
      by_cases e2:j < i
      ·rw [if_pos e2,if_pos (by omega)]
      ·rw [if_neg e2,if_neg (by omega)]
   clear hq hbk hn4
   go_wp2
   go_roundw
   case rel=>exact ⟨i+1,by omega,by first | rfl | go_num,HS.out⟩
   case measure=>simp [intOf];omega
  ·obtain rfl:n=i:=by omega
   have hcv:=ZkM (hbk.ext (fun j hj=>by rw [if_pos hj]))
   obtain ⟨w3,hw3⟩:∃ w3,wr.alloc (Z2d n)=w3:=⟨_,rfl⟩
   obtain ⟨va,hva⟩:∃ va,wr.heap.size=va:=⟨_,rfl⟩
   have HQV:Hid (∀ k o,(fun k o=>k=va/\o=Z2d n) k o->k=va):=fun k o q=>q.1
   have HX3:Hid (KV w0 w3 sb rb 0 (fun k o=>k=va/\o=Z2d n) (st0 (2 * k))):=by
    have h:=Z4 wr (Z2d n)
    rw [hw3,hva] at h
    have hq3:Quiet w2 w3:=by rw [<- hw3];exact hq.alloc _
    exact ((KV.start H2.out).more hq3 (by rw [<- hva];exact hq.size) h).less (fun k o q=>Or.inr q)
   unfold Z2d at hw3
   have HBG:Hid (Calls Tryz.prog 7 #[ptrV sb] w3 (fun e w'=>e=.returned (.tuple #[.int .u64 1,.int .i64 0])/\KV w0 w' sb rb 0 (fun k o=>k=va/\o=Z2d n) (Z4b (st0 (2 * k))))):=by
    refine (Z7j HX3.out.law (by show 0 < 1000000;omega)).mono ?_
    rintro e w' ⟨rfl,h⟩
    exact ⟨rfl,HX3.out.to h⟩
   clear HBK hbk hq hlt hi hn4
   go_wp2_with fail
   (try rw [hw3])
   (try rw [hva])
   refine HBG.out.mono ?_
   rintro e w4 ⟨rfl,h4⟩
   have H4:=zh h4
   clear h4 HBG HX3 hcv hw3
   have hbx:=Z4 w4 (.cells #[.string ⟨#[97]⟩,.int .u8 2] 39)
   have HMK:Hid (Calls Tryz.prog 8 #[ptrV sb,.int .u64 1,.string ⟨#[116]⟩,.slice (some ⟨w4.heap.size,0,none⟩) 1 1] (w4.alloc (.cells #[.string ⟨#[97]⟩,.int .u8 2] 39)) (fun e w'=>e=.returned (.int .i64 0)/\KV w0 w' sb rb 0 (fun k o=>k=va/\o=Z2d n) (Z5f (Z4b (st0 (2 * k))) ⟨#[116]⟩ ⟨#[97]⟩ 2 1))):=by
    have hX:=H4.out.more (b:=w4.heap.size) ((Z0.refl _ _).alloc _) (Nat.le_refl _) hbx
    refine (ZcU (x:=1) (y:=Z2I [1] 1) (name:=⟨#[116]⟩) (nm:=⟨#[97]⟩) (kd:=2) hX.law (by unfold U64;omega) rfl rfl rfl rfl (by show 0 < 1000000;omega) (by unfold U64;decide) Zen Zeo ⟨by omega,by omega⟩ (Rd.new w4 2 1 (ZZ [(⟨#[97]⟩,2)]) _ (fun k=>k=rb ∨ ∃ o,(k=va/\o=Z2d n) ∨ (k=w4.heap.size/\o=_)) rfl (Or.inr ⟨_,Or.inr ⟨rfl,rfl⟩⟩)) (by omega) (by unfold maxLen;omega)).mono ?_
    rintro e w' ⟨rfl,h⟩
    exact ⟨rfl,(hX.to h).less (fun k o q=>Or.inl q)⟩
   clear hbx
   go_wp2_with fail
   refine HMK.out.mono ?_
   rintro e w5 ⟨rfl,h5⟩
   have HIX:Hid (Calls Tryz.prog 9 #[ptrV sb,.int .u64 1,.string ⟨#[105]⟩,.string ⟨#[116]⟩,.string ⟨#[97]⟩] w5 (fun e w'=>e=.returned (.int .i64 0)/\KV w0 w' sb rb 0 (fun k o=>k=va/\o=Z2d n) (stT 2 (LR 0 ++ [1]) [] (2 * k) 0 [] (snN 0)))):=by
    refine (Z7o h5.law Zep Zeq).mono ?_
    rintro e w' ⟨rfl,h⟩
    exact ⟨rfl,h5.to h⟩
   clear h5 HMK H4
   go_wp2_with fail
   refine HIX.out.mono ?_
   rintro e w6 ⟨rfl,h6⟩
   have H6:=zh h6
   clear h6 HIX
   go_wp2_with fail
   go_loopw [67] (fun c wr=>∃ (len:Nat) (H:List (List (Option Tup))) (left:Nat) (l:List ((Int × Int) × Tup)) (es:List Ent),len <= k/\c=.int .i64 (len:Int)/\KV w0 wr sb rb 0 (fun k o=>k=va/\o=Z2d n) (stT 2 (LR 0 ++ [1]) H left len es (snN 0))/\Zs k len 0 0 (Zq [Z4E n]) H left l/\Z1L len es) (fun c _=>k - (intOf c).toNat)
   case atStart=>exact ⟨0,[],2 * k,[],[],Nat.zero_le _,rfl,H6.out,Zs.start k _,Z1L.start⟩
   case round =>
    clear H6
    rename_i wrO _
    obtain ⟨len,H,left,l,es,hlen,rfl,hX,hH,hE⟩:=hrel
    have HX:=zh hX
    have HH:=zh hH
    have HE:=zh hE
    clear hX hH hE
    have hk9:=HK8.out
    by_cases hlt:len < k
    ·have HIN:Hid (Calls Tryz.prog 10 #[ptrV sb,.int .u64 1,.string ⟨#[116]⟩,.slice (some ⟨va,0,none⟩) 1 1] wr (fun e w'=>e=.returned (.int .i64 0)/\∃ H left l es,KV w0 w' sb rb 0 (fun k o=>k=va/\o=Z2d n) (stT 2 (LR 0 ++ [1]) H left (len+1) es (snN 0))/\Zs k (len+1) 0 0 (Zq [Z4E n]) H left l/\Z1L (len+1) es)):=by
      refine (ZbF (c3:=1) HX.out.law HH.out hlt (by omega) HU0.out (Zd7 n HN4.out) HE.out (Zer (HX.out.v va _ ⟨rfl,rfl⟩)) (by omega) (by unfold maxLen;omega)).mono ?_
      rintro e w' ⟨rfl,H,left,l,es,ht,hh,he,_⟩
      exact ⟨rfl,H,left,l,es,HX.out.to ht,hh,he⟩
     have hw1:IntKind.i64.wrap ((len:Int)+1)=((len+1:Nat):Int):=by rw [Zp _ (by omega) (by omega)];rfl
     go_wp2_with fail
     refine HIN.out.mono ?_
     rintro e w7 ⟨rfl,H,left,l,es,h1,h2,h3⟩
     have H7:=zh (And.intro h1 (And.intro h2 h3))
     clear h1 h2 h3 HIN HX HH HE
     go_wp2
     go_roundw
     case rel=>exact ⟨len+1,H,left,l,es,by omega,by first | rfl | go_num,H7.out⟩
     case measure=>simp [intOf];omega
    ·obtain rfl:k=len:=by omega
     have HCO:Hid (Calls Tryz.prog 11 #[ptrV sb,.int .u64 1] wr (fun e w'=>e=.returned (.int .i64 0)/\KV w0 w' sb rb 0 (fun k o=>k=va/\o=Z2d n) (stQ 2 (0+1) H left k es))):=by
      refine (Z4D (n:=0) HX.out.law (by omega)).mono ?_
      rintro e w' ⟨rfl,h⟩
      exact ⟨rfl,HX.out.to h⟩
     clear HX hlt hlen
     go_wp2_with fail
     refine HCO.out.mono ?_
     rintro e w8 ⟨rfl,h8⟩
     have H8:=zh h8
     clear h8 HCO
     have hR:=HR.out
     go_wp2_with fail
     (try rw [hR])
     clear hR hk
     go_loopw [80,16] (fun c _ wr=>∃ (r:Nat) (H:List (List (Option Tup))) (left:Nat) (l:List ((Int × Int) × Tup)) (es:List Ent) (ps:Nat),r <= R/\c=.int .i64 (r:Int)/\ps <= 3 * r/\KV w0 wr sb rb ps (fun k o=>k=va/\o=Z2d n) (stQ 2 (r+1) H left k es)/\Zs k k r 0 (Zq [Z4E n]) H left l/\Z1L (12 * (r+1)) es) (fun c _ _=>R - (intOf c).toNat)
     case atStart=>exact ⟨0,H,left,l,es,0,Nat.zero_le _,rfl,Nat.zero_le _,H8.out,HH.out,HE.out.le (by omega)⟩
     case round =>
      clear H8 HH HE
      rename_i wrO2 _
      obtain ⟨r,H,left,l,es,ps,hr,rfl,hps,hX,hH,hE⟩:=hrel
      have HX:=zh hX
      have HH:=zh hH
      have HE:=zh hE
      clear hX hH hE
      have hR5:=HR4.out
      by_cases hlt:r < R
      ·obtain ⟨X,hX⟩:∃ X:Int,((r+2:Nat):Int)=X:=⟨_,rfl⟩
       have hw1:IntKind.i64.wrap ((r:Int)+1)=((r+1:Nat):Int):=by rw [Zp _ (by omega) (by omega)];rfl
       have HBG:Hid (Calls Tryz.prog 7 #[ptrV sb] wr (fun e w'=>e=.returned (.tuple #[.int .u64 X,.int .i64 0])/\KV w0 w' sb rb ps (fun k o=>k=va/\o=Z2d n) (stT 2 (LR (r+1) ++ [1]) H left k es (snN (r+1))))):=by
        refine (Zd3 HX.out.law (by omega)).mono ?_
        rintro e w' ⟨rfl,h⟩
        exact ⟨by rw [<- hX],HX.out.to h⟩
       go_wp2_with fail
       refine HBG.out.mono ?_
       rintro e wa ⟨rfl,ha⟩
       have HA:=zh ha
       have hsc:=Ze1 ha.law HH.out (by omega) (by omega) HU0.out (Zd7 n HN4.out)
       rw [hX] at hsc
       have HSC:=zh hsc
       clear ha HBG HX hsc
       go_wp2_with fail
       refine HSC.out.mono ?_
       rintro e wb ⟨v,M,rfl,hW,hM⟩
       have hml:M.length=k:=by
        have e1:=congrArg List.length hM
        rw [List.length_map,List.length_map,HH.out.cnt] at e1
        exact e1
       obtain ⟨ba,cv,rfl,lba,lba2,hbox⟩:=hW.box (by omega)
       obtain ⟨ro,hro⟩:∃ o,wb.heap[ba]?=some o:=⟨_,Array.getElem?_eq_getElem lba2⟩
       have HB:Hid (KV w0 wb sb rb ps (fun k o=>(k=va/\o=Z2d n) ∨ (k=ba/\o=ro)) (stT 2 (LR (r+1) ++ [1]) H left k es (snN (r+1)))):=HA.out.more hW.quiet lba hro
       have HROW:Hid (∀ (i:Nat) (x:(Int × Int) × Tup),l[i]?=some x->∃ (A2:Option Addr) (n2 c2:Nat),∀ W:World,W.heap[ba]?=some ro->W.cell? ⟨ba,i * 4,none⟩=some (.int .u64 (x.2.row:Int))/\W.cell? ⟨ba,i * 4+1,none⟩=some (.int .i64 x.1.1)/\W.cell? ⟨ba,i * 4+2,none⟩=some (.int .i64 x.1.2)/\W.cell? ⟨ba,i * 4+3,none⟩=some (.slice A2 n2 c2)):=by
        intro i x hx
        have hil:=(zi.1 hx).1
        rw [HH.out.cnt] at hil
        obtain ⟨m,hm⟩:∃ m,M[i]?=some m:=⟨_,zg (by omega)⟩
        have hmt:m.told=ZbL x:=by
         have e1:=congrArg (fun z=>z[i]?) hM
         simp only [List.getElem?_map,hm,hx,Option.map_some] at e1
         injection e1 with e1
        obtain ⟨k0,k1,k2,k3⟩:=hbox i m hm
        have e1:m.id=x.2.row:=congrArg Prod.fst hmt
        have e2:m.pg=x.1.1:=congrArg (fun z:RowR=>z.2.1) hmt
        have e3:m.sl=x.1.2:=congrArg (fun z:RowR=>z.2.2.1) hmt
        rw [e1] at k0
        rw [e2] at k1
        rw [e3] at k2
        refine ⟨m.A,m.l.length,m.c,fun W hWb=>⟨?_,?_,?_,?_⟩⟩
        ·rw [Z5C hro hWb];exact k0
        ·rw [Z5C hro hWb];exact k1
        ·rw [Z5C hro hWb];exact k2
        ·rw [Z5C hro hWb];exact k3
       rw [hml]
       clear hW hM hml hbox hro lba lba2 HSC HA
       go_wp2_with fail
       go_loopw [104] (fun c wr=>∃ (j:Nat) (H2:List (List (Option Tup))) (left2:Nat) (l2:List ((Int × Int) × Tup)) (es2:List Ent),j <= k/\c=.int .i64 (j:Int)/\KV w0 wr sb rb ps (fun k o=>(k=va/\o=Z2d n) ∨ (k=ba/\o=ro)) (stT 2 (LR (r+1) ++ [1]) H2 left2 k es2 (snN (r+1)))/\Zs k (k+j) r j (Zq [Z4E n]) H2 left2 l2/\Z1L (12 * (r+1)+j) es2/\(∀ m,j <= m->m < k->l2[m]?=l[m]?)) (fun c _=>k - (intOf c).toNat)
       case atStart=>exact ⟨0,H,left,l,es,Nat.zero_le _,rfl,HB.out,HH.out,HE.out,fun m _ _=>rfl⟩
       case round =>
        clear HB
        rename_i wrO3 _
        obtain ⟨j,H2,left2,l2,es2,hj,rfl,hX2,hH2,hE2,hl2⟩:=hrel
        have HX:=zh hX2
        have HH2:=zh hH2
        have HE2:=zh hE2
        have HL2:=zh hl2
        clear hX2 hH2 hE2 hl2
        by_cases hjk:j < k
        ·obtain ⟨x,hx⟩:∃ x,l[j]?=some x:=⟨_,zg (by rw [HH.out.cnt];omega)⟩
         have hx2:l2[j]?=some x:=by rw [HL2.out j (Nat.le_refl _) hjk];exact hx
         obtain ⟨A2,n2,c2,hcell⟩:=HROW.out j x hx
         obtain ⟨k0,k1,k2,k3⟩:=hcell wr (HX.out.v ba ro (Or.inr ⟨rfl,rfl⟩))
         have lba:=Zf k0
         dsimp only at lba
         have hqr:Quiet wr (wr.alloc (.cells #[.int .u64 (x.2.row:Int),.int .i64 x.1.1,.int .i64 x.1.2,.slice A2 n2 c2] 50)):=(Z0.refl _ _).alloc _
         have hbr:=Z4 wr (.cells #[.int .u64 (x.2.row:Int),.int .i64 x.1.1,.int .i64 x.1.2,.slice A2 n2 c2] 50)
         obtain ⟨r7,hr7⟩:∃ r7,wr.heap.size=r7:=⟨_,rfl⟩
         rw [hr7] at hbr
         have HC:=zh (HX.out.same hqr)
         clear hcell hx
         go_upto_region 32 with fail
         generalize wr.alloc (.cells #[.int .u64 (x.2.row:Int),.int .i64 x.1.1,.int .i64 x.1.2,.slice A2 n2 c2] 50)=wc at *
         have b0:wc.cell? ⟨r7,0,none⟩=some (.int .u64 (x.2.row:Int)):=by rw [Z1 hbr];rfl
         have b1:wc.cell? ⟨r7,1,none⟩=some (.int .i64 x.1.1):=by rw [Z1 hbr];rfl
         have b2:wc.cell? ⟨r7,2,none⟩=some (.int .i64 x.1.2):=by rw [Z1 hbr];rfl
         have b3:wc.cell? ⟨r7,3,none⟩=some (.slice A2 n2 c2):=by rw [Z1 hbr];rfl
         have l7:=Z2 hbr
         have hup:=ZfV (c3:=1) (Ar:=A2) (nr:=n2) (cr:=c2) HC.out.law HH2.out hjk (by omega) (by omega) HU0.out (Zd7 n HN4.out) HE2.out (by omega) hx2 (Zer (HC.out.v va _ (Or.inl ⟨rfl,rfl⟩))) (by omega) (by unfold maxLen;omega)
         rw [hX] at hup
         have HUP:Hid (Calls Tryz.prog 13 #[ptrV sb,.int .u64 X,.string ⟨#[116]⟩,.agg #[.int .u64 (x.2.row:Int),.int .i64 x.1.1,.int .i64 x.1.2,.slice A2 n2 c2],.slice (some ⟨va,0,none⟩) 1 1] wc (fun e w'=>e=.returned (.int .i64 0)/\∃ (H2:List (List (Option Tup))) (left2:Nat) (l2:List ((Int × Int) × Tup)) (es2:List Ent),KV w0 w' sb rb ps (fun k o=>(k=va/\o=Z2d n) ∨ (k=ba/\o=ro)) (stT 2 (LR (r+1) ++ [1]) H2 left2 k es2 (snN (r+1)))/\Zs k (k+(j+1)) r (j+1) (Zq [Z4E n]) H2 left2 l2/\Z1L (12 * (r+1)+(j+1)) es2/\(∀ m,j+1 <= m->m < k->l2[m]?=l[m]?))):=by
          refine hup.mono ?_
          rintro e w' ⟨rfl,H3,left3,l3,es3,ht,hh,he,hl⟩
          exact ⟨rfl,H3,left3,l3,es3,HC.out.to ht,hh,he,fun m a b=>by rw [hl m (by omega) b];exact HL2.out m (by omega) b⟩
         have hwj:IntKind.i64.wrap ((j:Int)+1)=((j+1:Nat):Int):=by rw [Zp _ (by omega) (by omega)];rfl
         clear hup hbr hqr k0 k1 k2 k3 lba hr7 hx2
         go_wp2_with fail
         refine HUP.out.mono ?_
         rintro e wd ⟨rfl,H3,left3,l3,es3,h3⟩
         have H3X:=zh h3
         clear h3 HUP HC HX HH2 HE2 HL2 b0 b1 b2 b3 l7
         go_wp2
         go_roundw
         case rel=>exact ⟨j+1,H3,left3,l3,es3,by omega,by first | rfl | go_num,H3X.out⟩
         case measure=>simp [intOf];omega
        ·obtain rfl:k=j:=by omega
         have HCO:Hid (Calls Tryz.prog 11 #[ptrV sb,.int .u64 X] wr (fun e w'=>e=.returned (.int .i64 0)/\KV w0 w' sb rb ps (fun k o=>k=va/\o=Z2d n) (stQ 2 (r+2) H2 left2 k es2))):=by
          have h0:=Z4D (n:=r+1) HX.out.law (by omega)
          have e0:((r+1+1:Nat):Int)=X:=hX
          rw [e0] at h0
          refine h0.mono ?_
          rintro e w' ⟨rfl,h⟩
          exact ⟨rfl,(HX.out.to h).less (fun k o q=>Or.inl q)⟩
         go_wp2_with fail
         refine HCO.out.mono ?_
         rintro e wc ⟨rfl,hc⟩
         have HC:=zh hc
         have hH24:=HH2.out.left
         obtain ⟨H',es',hs',he',hst⟩:=Zkh HH2.out (by omega) (by omega) (by omega) HE2.out (by omega) hc.idle (by omega)
         have HS':=zh hs'
         have HE':=zh he'
         have HST:=zh hst
         clear hc hs' he' hst HCO HX HL2 HROW hjk
         by_cases hrl:r < ll
         ·obtain ⟨b4,off,eA,_,hcells⟩:=HLS.out.2.cells (by rw [Z0S,HLL.out];omega)
          obtain ⟨y,hy⟩:∃ y,ls[r]?=some y:=⟨_,zg (by rw [HLL.out];exact hrl)⟩
          have hcy:=hcells r (.int .u8 (y:Int)) (by unfold Z9;rw [List.getElem?_map,hy];rfl)
          have hy256:=HLS.out.1 y (List.mem_of_getElem? hy)
          have k5:wc.cell? ⟨b4,off+r,none⟩=some (.int .u8 (y:Int)):=(HQ0.out.trans HC.out.quiet).cell hcy (fun x=>x)
          have l5:=Zf k5
          dsimp only at l5
          obtain ⟨q,hq⟩:∃ q:Nat,(y:Int) % 9=(q:Int):=⟨y % 9,by omega⟩
          have hq9:q <= 8:=by omega
          have HPP:=zh (ZkH (most:=q) HST.out (by omega) (by omega))
          clear hcells hcy hy
          subst eA
          go_wp2_with fail
          (try rw [hq])
          refine HPP.out.mono ?_
          rintro e wd ⟨⟨z0,rfl⟩,hmid⟩
          have HM:Hid (ZbN ⟨w0,fun k=>∃ o,(fun k o=>k=va/\o=Z2d n) k o,wc⟩ wd sb rb ps (stQ 2 (r+2) H' left2 k es')):=zh (hmid)
          go_wp2_with fail
          refine (ZhM HM.out HS'.out (by omega) (by omega) (by omega) (by omega) HE'.out (by omega) (by omega)).mono ?_
          rintro e we ⟨⟨z1,rfl⟩,ps1,hp1,hi1⟩
          have HI1:=zh hi1
          clear hi1 HM
          go_wp2_with fail
          refine (Zae HS'.out (by omega) (by omega) (by omega) (by omega) HE'.out (by omega) HI1.out (by omega)).mono ?_
          rintro e wf ⟨⟨z2,rfl⟩,hi2⟩
          have HF:=zh (HC.out.back hi2)
          have HUS:=zh (Z8a HF.out.law HS'.out)
          clear hi2 HI1
          go_wp2_with fail
          refine HUS.out.mono ?_
          rintro e wg ⟨v,rfl,hi⟩
          have HG:=zh (HF.out.same hi.quiet)
          obtain ⟨bu,cu,rfl,hbu⟩:=Z4v hi
          have lbu:=Zf hbu
          dsimp only at lbu
          clear hi HUS HF
          go_wp2
          go_roundw
          case rel=>exact ⟨r+1,H',left2,l2.drop k,es',ps1+1,by omega,by first | rfl | go_num,by omega,HG.out,HS'.out,HE'.out.le (by omega)⟩
          case measure=>simp [intOf];omega
         ·have HM:Hid (ZbN ⟨w0,fun k=>∃ o,(fun k o=>k=va/\o=Z2d n) k o,wc⟩ wc sb rb ps (stQ 2 (r+2) H' left2 k es')):=zh (Or.inl ⟨_,by omega,HST.out⟩)
          go_wp2_with fail
          refine (ZhM HM.out HS'.out (by omega) (by omega) (by omega) (by omega) HE'.out (by omega) (by omega)).mono ?_
          rintro e we ⟨⟨z1,rfl⟩,ps1,hp1,hi1⟩
          have HI1:=zh hi1
          clear hi1 HM
          go_wp2_with fail
          refine (Zae HS'.out (by omega) (by omega) (by omega) (by omega) HE'.out (by omega) HI1.out (by omega)).mono ?_
          rintro e wf ⟨⟨z2,rfl⟩,hi2⟩
          have HF:=zh (HC.out.back hi2)
          have HUS:=zh (Z8a HF.out.law HS'.out)
          clear hi2 HI1
          go_wp2_with fail
          refine HUS.out.mono ?_
          rintro e wg ⟨v,rfl,hi⟩
          have HG:=zh (HF.out.same hi.quiet)
          obtain ⟨bu,cu,rfl,hbu⟩:=Z4v hi
          have lbu:=Zf hbu
          dsimp only at lbu
          clear hi HUS HF
          go_wp2
          go_roundw
          case rel=>exact ⟨r+1,H',left2,l2.drop k,es',ps1+1,by omega,by first | rfl | go_num,by omega,HG.out,HS'.out,HE'.out.le (by omega)⟩
          case measure=>simp [intOf];omega
      ·obtain rfl:R=r:=by omega
       have Zc:Hid (Z8 (.returned (.bool true)) wr):=by
        rw [<- Ze.out]
        exact ⟨rfl,HQ0.out.trans HX.out.quiet⟩
       go_wp2
       exact Zc.out
theorem Ze4 {W:World} {A:Option Addr} {n:Nat} (h:∀ i,i < n->∃ b off z,A=some ⟨b,off,none⟩/\b < W.heap.size/\W.cell? ⟨b,off+i,none⟩=some (.int .u8 z)/\(Lit.int .u8 z).wf=true) :
  ∃ l:List Nat,l.length=n/\(∀ x ∈ l,x < 256)/\Rd W (· < W.heap.size) 1 A n (Z9 l):=by
 rcases n with _ | n
 ·exact ⟨[],rfl,fun x hx=>(List.not_mem_nil hx).elim,⟨rfl,fun h=>absurd h (by simp [Z9])⟩⟩
 obtain ⟨b,off,_,rfl,hb,_⟩:=h 0 (by omega)
 have h':∀ i,∃ m:Nat,i < n+1->W.cell? ⟨b,off+i,none⟩=some (.int .u8 m)/\m < 256:=by
  intro i
  by_cases hi:i < n+1
  ·obtain ⟨b',off',z,e,_,hc,hz⟩:=h i hi
   obtain ⟨m,rfl,hm⟩:=ZkN hz
   simp only [Option.some.injEq,Addr.mk.injEq] at e
   obtain ⟨rfl,rfl,_⟩:=e
   exact ⟨m,fun _=>⟨hc,hm⟩⟩
  ·exact ⟨0,fun x=>absurd x hi⟩
 obtain ⟨g,hg⟩:=Classical.axiomOfChoice h'
 refine ⟨(List.range (n+1)).map g,by simp,fun x hx=>?_,⟨by simp [Z9],fun _=>⟨b,off,rfl,hb,fun j u hj=>?_⟩⟩⟩
 ·obtain ⟨i,hi,rfl⟩:=List.mem_map.1 hx
  exact (hg i (List.mem_range.1 hi)).2
 ·simp only [Z9,List.map_map,List.getElem?_map] at hj
  by_cases hjn:j < n+1
  ·rw [List.getElem?_range hjn] at hj
   simp at hj
   subst hj
   exact (hg j hjn).1
  ·rw [List.getElem?_eq_none (by simp;omega)] at hj
   simp at hj
theorem ZhR:Tryz.prog.cellsOf 5=1:=by kernel_rfl
open Go.ChangeShapes Go.WideShapes in
theorem Zg1 {H:Type} {enc:TypeId × Value->H} {W:World} {r:Reach} {base:Nat} {v:Value} {d:DataW H} {p:List MemPlace} (hv:Value.okWide Tryz.prog W r base 22 v) (h:DataW.Trod enc Tryz.prog W 0 (fun _=>true) true 22 v d p) :
  ∃ (l:List Nat) (A:Option Addr) (cap:Nat),v=.slice A l.length cap/\l.length <= cap/\cap <= maxLen/\(∀ x ∈ l,x < 256)/\Rd W (· < W.heap.size) 1 A l.length (Z9 l):=by
 obtain ⟨A,n,cap,hvv,h1,h2,h3⟩:=ZbG Tryz.underlying22 ZhR (by omega) hv h
 obtain ⟨l,rfl,hb,hr⟩:=Ze4 (A:=A) (n:=n) (W:=W) (fun i hi=>by
   obtain ⟨b,off,hA,hb,cs',m',x',_,hc,htr⟩:=h3 i hi
   obtain ⟨z,rfl,_,hz⟩:=DataW.trod_int Tryz.underlying5 htr
   refine ⟨b,off,z,hA,hb,?_,hz⟩
   have:=hc 0 (by omega)
   rw [Nat.mul_one,Nat.add_zero] at this
   exact this)
 exact ⟨l,A,cap,hvv,h1,h2,hb,hr⟩
end Go.Proofs.YtobhgnjblniphaaGreatDoor
namespace Go.Proofs.YtobhgnjblniphaaGreatDoor
open Go.ChangeShapes Go.WideShapes Go.ChangeAt Go.RowKit Go.Lap
theorem Zg2:Rows.laid_unicode_utf8_first=Lib.firstData:=by kernel_rfl
theorem Ze5:Rows.laid_unicode_utf8_acceptRanges=Lib.acceptData:=by kernel_rfl
theorem Zko {W:World} (h:laidMetH Tryz.prog Rows.broomSteadyRow.laid W):U8 W:=by
 have hL:laidMet Tryz.prog Rows.broomSteadyRow.laid W:=by
  rw [<- MakeChecks.laidMetH_plain _ _ _ (by kernel_rfl)]
  exact h
 have h1:Lib.VarReads Tryz.prog W "unicode/utf8.acceptRanges" Rows.laid_unicode_utf8_acceptRanges:=Lib.laidMet.reads hL (.head _)
 have h2:Lib.VarReads Tryz.prog W "unicode/utf8.first" Rows.laid_unicode_utf8_first:=Lib.laidMet.reads hL (.tail _ (.head _))
 rw [Ze5] at h1
 rw [Zg2] at h2
 exact utf8Tabs_of_readsT (U8Types.of196 Tryz.validLay) ⟨by kernel_rfl,by kernel_rfl,by kernel_rfl,by kernel_rfl,by kernel_rfl,by kernel_rfl,by kernel_rfl⟩ h2 h1
theorem Z8I {H:Type} {enc:TypeId × Value->H} {r:Reach} {base:Nat} {d0 d1 d2 d3:DataW H} {p0 p1 p2 p3:List MemPlace} (v0 v1 v2 v3:Value) (W:World) (hU:laidMetH Tryz.prog Rows.broomSteadyRow.laid W)
  (o0:Value.okWide Tryz.prog W r base 5 v0) (h0:DataW.Trod enc Tryz.prog W 0 (fun _=>true) true 5 v0 d0 p0)
  (o1:Value.okWide Tryz.prog W r base 5 v1) (h1:DataW.Trod enc Tryz.prog W 0 (fun _=>true) true 5 v1 d1 p1)
  (o2:Value.okWide Tryz.prog W r base 5 v2) (h2:DataW.Trod enc Tryz.prog W 0 (fun _=>true) true 5 v2 d2 p2)
  (o3:Value.okWide Tryz.prog W r base 22 v3) (h3:DataW.Trod enc Tryz.prog W 0 (fun _=>true) true 22 v3 d3 p3) :
  Calls Tryz.prog 3 #[v0,v1,v2,v3] W fun e w'=>e=.returned (.bool true)/\Below W.heap.size W w':=by
 obtain ⟨x0,rfl,_,_,wx0⟩:=open_int Tryz.underlying5 o0 h0
 have hx0:=bounds_u8 wx0
 obtain ⟨n0,rfl⟩:∃ n:Nat,x0=n:=⟨x0.toNat,by omega⟩
 obtain ⟨x1,rfl,_,_,wx1⟩:=open_int Tryz.underlying5 o1 h1
 have hx1:=bounds_u8 wx1
 obtain ⟨n1,rfl⟩:∃ n:Nat,x1=n:=⟨x1.toNat,by omega⟩
 obtain ⟨x2,rfl,_,_,wx2⟩:=open_int Tryz.underlying5 o2 h2
 have hx2:=bounds_u8 wx2
 obtain ⟨n2,rfl⟩:∃ n:Nat,x2=n:=⟨x2.toNat,by omega⟩
 obtain ⟨l,A,cap,rfl,_,_,hb,hr⟩:=Zg1 o3 h3
 refine (Ze3 n0 n1 n2 (by omega) (by omega) (by omega) A cap l hb W (Zko hU) (hr.mono (fun _ _=>trivial))).mono fun e W' ⟨he,hq⟩=>⟨he,hq.os,hq.tape,hq.output,hq.size,fun k hk=>hq.block k hk (fun x=>x)⟩
end Go.Proofs.YtobhgnjblniphaaGreatDoor
