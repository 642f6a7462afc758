/- row.Fits of any row. row.Bytes of any row: plain facts, and what its rounds leave. row.Bytes of any row. A number out of its bytes: plain facts for row.take. row.take: a number. row.take: a truth value. row.take: a text. row.take of any value. row.Read of any row's bytes. A version that is got and put into a variable: what is left; rows as they are told. The rows that store.rows tells, by their IDs: the order, and the sort. store.rows. store.version of a version that is there. store.put where there is no index. store.Insert of a row of one small number. The book's indexes: told, Keep. key. No condition. -/
import Derived.Test.YtobhgnjblniphaaGreatDoorBs3
import Derived.Lib.AppendStr
set_option linter.unusedVariables false
set_option linter.unusedSimpArgs false
set_option maxRecDepth 100000
set_option maxHeartbeats 8000000
namespace Go.Lap
theorem Z9r {v:RV} (h:Zt v=true):sizeR v <= 61:=by
 unfold Zt Z4c at h
 have:v.s.size <= 60:=by
  simp only [Bool.and_eq_true,decide_eq_true_eq] at h
  exact h.2.1.1
 unfold sizeR
 split <;> omega
theorem Z80 {l:List RV} (h:∀ v ∈ l,Zt v=true):(l.map sizeR).sum <= 61 * l.length:=by
 induction l with
 | nil=>exact Nat.le_refl _
 | cons a l ih =>
  have h1:=Z9r (h a (List.mem_cons_self ..))
  have h2:=ih (fun v hv=>h v (List.mem_cons_of_mem _ hv))
  rw [List.map_cons,List.sum_cons,List.length_cons]
  omega
theorem Zfl {l:List RV} {k:Nat} {v:RV} (h:l[k]?=some v):((l.take (k+1)).map sizeR).sum=((l.take k).map sizeR).sum+sizeR v:=by
 rw [List.take_add_one,h,Option.toList_some,List.map_append,List.sum_append]
 simp
theorem ZiP {ks:List Nat} {l:List RV} {k kd:Nat} {v:RV} (h1:ks[k]?=some kd) (h2:l[k]?=some v):((ks.zip l).take (k+1)).any Z2y=(((ks.zip l).take k).any Z2y || Z2y (kd,v)):=by
 have:(ks.zip l)[k]?=some (kd,v):=by rw [List.getElem?_zip_eq_some];exact ⟨h1,h2⟩
 rw [List.take_add_one,this,Option.toList_some,List.any_append]
 simp
def leI (i:Int) (n:Nat):List Nat:=(List.range n).map (fun k=>((i / 2 ^ (8 * k)) % 256).toNat)
def Z0m (v:RV):List Nat:=match v.k with
 | 0=>[]
 | 1=>leI v.i 8
 | 2=>v.s.size :: v.s.data.toList.map (fun b=>b.toNat)
 | _=>[if v.b then 1 else 0]
def nullN (l:List RV):Nat:=((List.range l.length).map (fun i=>if (l.getD i Z7L).k=0 then 2 ^ i else 0)).sum
def Zq (l:List RV):List Nat:=nullN l :: l.flatMap Z0m
theorem ZiQ (i:Int) (k:Nat):leI i (k+1)=leI i k ++ [((i / 2 ^ (8 * k)) % 256).toNat]:=by simp [leI,List.range_succ]
theorem Z2Z (i:Int) (k:Nat):(leI i k).length=k:=by simp [leI]
theorem Z4K {l:List RV} {k:Nat} {v:RV} (h:l[k]?=some v):nullN (l.take (k+1))=nullN (l.take k)+if v.k=0 then 2 ^ k else 0:=by
 have hl:=(zi.1 h).1
 unfold nullN
 rw [List.length_take,List.length_take,Nat.min_eq_left (by omega),Nat.min_eq_left (by omega),List.range_succ,List.map_append,List.sum_append]
 congr 1
 ·congr 1
  apply List.map_congr_left
  intro i hi
  rw [List.mem_range] at hi
  rw [List.getD_eq_getElem?_getD,List.getD_eq_getElem?_getD,List.getElem?_take_of_lt (by omega),List.getElem?_take_of_lt hi]
 ·simp only [List.map_cons,List.map_nil,List.sum_cons,List.sum_nil,Nat.add_zero]
  rw [List.getD_eq_getElem?_getD,List.getElem?_take_of_lt (by omega),h]
  rfl
theorem Z3s (l:List RV):∀ k,k <= l.length->nullN (l.take k) < 2 ^ k
 | 0,_=>by show 0 < 1;omega
 | k+1,hk=>by
  obtain ⟨v,hv⟩:∃ v,l[k]?=some v:=⟨_,zg (by omega)⟩
  have:=Z3s l k (by omega)
  rw [Z4K hv,Nat.pow_succ]
  split <;> omega
theorem Zfm {l:List RV} {k:Nat} {v:RV} (h:l[k]?=some v):(l.take (k+1)).flatMap Z0m=(l.take k).flatMap Z0m ++ Z0m v:=by
 rw [List.take_add_one,h,Option.toList_some,List.flatMap_append]
 simp
theorem Zhh {v:RV} (h:Zt v=true):(Z0m v).length=sizeR v:=by
 have hk:v.k=0 ∨ v.k=1 ∨ v.k=2 ∨ v.k=3:=by
  unfold Zt Z1y at h
  match hv:v.k with
  | 0=>exact Or.inl rfl
  | 1=>exact Or.inr (Or.inl rfl)
  | 2=>exact Or.inr (Or.inr (Or.inl rfl))
  | 3=>exact Or.inr (Or.inr (Or.inr rfl))
  | k+4=>rw [hv] at h;simp at h
 unfold Z0m sizeR
 rcases hk with e | e | e | e
 ·rw [e];rfl
 ·rw [e];simp [Z2Z]
 ·rw [e]
  show (v.s.size :: v.s.data.toList.map (fun b=>b.toNat)).length=1+v.s.size
  rw [List.length_cons,List.length_map,Array.length_toList]
  show v.s.data.size+1=1+v.s.data.size
  omega
 ·rw [e];rfl
theorem ZaV {l:List RV} (h:∀ v ∈ l,Zt v=true):(Zq l).length=1+(l.map sizeR).sum:=by
 unfold Zq
 rw [List.length_cons,Nat.add_comm]
 congr 1
 induction l with
 | nil=>rfl
 | cons a l ih =>
  rw [List.flatMap_cons,List.length_append,Zhh (h a (List.mem_cons_self ..)),ih (fun v hv=>h v (List.mem_cons_of_mem _ hv)),List.map_cons,List.sum_cons]
theorem ZdE {P:Program} (w:World) {t u e:TypeId} {g cap n:Nat} {xs:List Value} (ht:P.underlying t=some (.slice e)) (hu:P.underlying u=some .string) (hi:(P.info? e).map (fun i=>(i.zero,i.size,i.bytes))=some (some (.int .u8 0),1,1)) (ty:TypeId)
  (hown:w.ownsRow 0 e 1 (.slice (some ⟨g,0,none⟩) n cap) n xs) (s:ByteArray) (h63:n+s.size <= 100000000) :
  ∃ v' w',(Builtin.append_ #[t,u] ty #[.slice (some ⟨g,0,none⟩) n cap,.string s]).run P w=.ok v' w'/\ZT w w' e 1 (.slice (some ⟨g,0,none⟩) n cap) v' (n+s.size) (xs ++ Lib.strCells s):=by
 obtain ⟨i,hi1,hz,hs,hb⟩:=info_parts hi
 obtain ⟨v',w',hr,h1,h2,_⟩:=Lib.run_append_own_string (P:=P) w 0 t u ty e i ht hu hi1 hz hs hb _ n xs hown s (by unfold maxLen;omega) (by omega) (Nat.zero_le _)
 refine ⟨v',w',hr,h1,(Z0.refl _ _).grown h2 (fun k e _=>e),?_⟩
 rcases hown.2 with ⟨e1,_⟩ | ⟨g2,c2,cur,e1,hbg,hg,hnc,hcm,hcs,htk⟩
 ·cases e1
 ·injection e1 with a1 a2 a3
  injection a1 with a1
  injection a1 with a1 _ _
  subst a1 a3
  by_cases hroom:n+s.size <= cap
  ·have h3:=Lib.run_append_room_string (P:=P) w t u ty e i ht hu hi1 hs g n cap cur hg s hroom (by rw [hcs];omega)
   rw [hr] at h3
   injection h3 with h3 _
   left
   rw [h3]
   rfl
  ·have holds:∀ j u,xs[j]?=some u->w.cell? ((⟨g,0,none⟩:Addr).add j)=some u:=hown.cells (g:=g) rfl
   have h3:=Lib.run_append_grow_string (P:=P) w t u ty e i (.int .u8 0) ht hu hi1 hz ⟨g,0,none⟩ n cap xs (by rw [hs];exact hown.1) holds s (by omega) (by omega) (by rw [hb];exact growslice_fits (by omega) (by omega))
   rw [hr] at h3
   injection h3 with h3 _
   right
   rw [h3]
   rfl
theorem Z2T {P:Program} {w:World} {t u e:TypeId} {ops:Array Oper} {o:Oper} {a:Act} {K:Act->World->Prop} {Q:Exit->Act->World->Prop} {F:Prop} (ht:P.underlying t=some (.slice e)) (hu:P.underlying u=some .string) (hi:(P.info? e).map (fun i=>(i.zero,i.size,i.bytes))=some (some (.int .u8 0),1,1)) (hgd:o.guard=none) (s x:Operand)
  (ho:o.op=.call { callee:=.builtin .append,args:=#[s,x],argTypes:=#[t,u] })
  {g cap n:Nat} {xs:List Value} (hs:a.eval s=.slice (some ⟨g,0,none⟩) n cap) (hown:w.ownsRow 0 e 1 (.slice (some ⟨g,0,none⟩) n cap) n xs) {b:ByteArray} (hx:a.eval x=.string b) (h63:n+b.size <= 100000000)
  (h:∀ v' w',ZT w w' e 1 (.slice (some ⟨g,0,none⟩) n cap) v' (n+b.size) (xs ++ Lib.strCells b)->K (a.put o.dst v') w') :
  if Region.wanted o (yielded ops a.tmps)=true then Oper.wp P o a w K Q else F:=by
 have hw:Region.wanted o (yielded ops a.tmps)=true:=by simp [Region.wanted,hgd]
 rw [if_pos hw]
 obtain ⟨v',w',hrun,h2⟩:=ZdE (P:=P) w ht hu hi o.type hown b h63
 unfold Oper.wp execOp
 simp only [ho,resolve,invoke,builtin,Sem.run_bind,Sem.run_pure,Result.andThen_ok,List.map_toArray,List.map_cons,List.map_nil,hs,hx,hrun]
 exact h v' w' h2
theorem Zhj {l:List RV} {k:Nat}:∀ j,k <= j->j <= l.length->nullN (l.take j) % 2 ^ k=nullN (l.take k) % 2 ^ k:=by
 intro j
 induction j with
 | zero =>
  intro h _
  obtain rfl:k=0:=by omega
  rfl
 | succ j ih =>
  intro h hj
  rcases Nat.lt_or_ge j k with x | x
  ·obtain rfl:k=j+1:=by omega
   rfl
  ·have hl:j < l.length:=by omega
   rw [Z4K (zg hl),<- ih x (by omega)]
   split
   ·obtain ⟨d,rfl⟩:∃ d,j=k+d:=⟨j - k,by omega⟩
    rw [Nat.pow_add,Nat.add_mul_mod_self_left]
   ·rfl
theorem Zhk {l:List RV} {k:Nat} {v:RV} (h:l[k]?=some v):nullN l / 2 ^ k % 2=if v.k=0 then 1 else 0:=by
 have hl:=(zi.1 h).1
 have h1:=Zhj (l:=l) (k:=k+1) l.length (by omega) (Nat.le_refl _)
 rw [List.take_length] at h1
 have h2:=Z4K h
 have h3:=Z3s l k (by omega)
 have h4:=Z3s l (k+1) (by omega)
 rw [Nat.mod_eq_of_lt h4,h2] at h1
 have hp:0 < 2 ^ k:=Nat.pow_pos (by decide)
 have e:nullN l / 2 ^ k % 2=nullN l % 2 ^ (k+1) / 2 ^ k:=by
  rw [Nat.pow_succ,Nat.mod_mul_right_div_self]
 rw [e,h1]
 split
 ·rw [Nat.add_div_right _ hp,Nat.div_eq_of_lt h3]
 ·rw [Nat.add_zero,Nat.div_eq_of_lt h3]
theorem Zhl (l:List RV):nullN l / 2 ^ l.length=0:=by
 have:=Z3s l l.length (Nat.le_refl _)
 rw [List.take_length] at this
 exact Nat.div_eq_of_lt this
theorem ZjY:∀ n:Fin 256,Go.bits Go.BinOp.and Go.IntKind.u8 ((n.val:Nat):Int) 1=((n.val % 2:Nat):Int):=by decide +kernel
theorem Zfp {l:List RV} {k:Nat} {v:RV} (h:l[k]?=some v):(l.drop k).flatMap Z0m=Z0m v ++ (l.drop (k+1)).flatMap Z0m:=by
 have hl:=(zi.1 h)
 rw [List.drop_eq_getElem_cons hl.1,List.flatMap_cons,hl.2]
structure Z0G where
 id:Nat
 pg:Int
 sl:Int
 l:List RV
 A:Option Addr
 c:Nat
instance:Inhabited Z0G:=⟨⟨0,0,0,[],none,0⟩⟩
def Z4C (x:Z0G):List Value:=[.int .u64 (x.id:Int),.int .i64 x.pg,.int .i64 x.sl,.slice x.A x.l.length x.c]
def Z8t (x y:Z0G):Int:=if x.id < y.id then -1 else if y.id < x.id then 1 else 0
abbrev rowsV (l:List Z0G):List Value:=l.flatMap Z4C
abbrev RowR:=Nat × Int × Int × List Nat
def Z0G.told (x:Z0G):RowR:=(x.id,x.pg,x.sl,Zq x.l)
theorem ZiV (x:Z0G):(Z4C x).length=4:=rfl
theorem ZcH (x:Z0G):∀ v ∈ Z4C x,v.oneCell'=true:=by
 intro v hv
 simp [Z4C] at hv
 rcases hv with rfl | rfl | rfl | rfl <;> rfl
theorem ZcI (l m:List Z0G):rowsV (l ++ m)=rowsV l ++ rowsV m:=List.flatMap_append
theorem ZbK (x y:Z0G):Go.Proofs.ltOf Z8t x y=decide (x.id < y.id):=by
 unfold Go.Proofs.ltOf Z8t
 rw [decide_eq_decide]
 split
 ·omega
 ·split <;> omega
theorem ZkB:Go.Sort.SWO (Go.Proofs.ltOf Z8t) where
 irrefl x:=by rw [ZbK];simp
 trans x y z h1 h2:=by rw [ZbK] at *;simp at *;omega
 ntrans x y z h1 h2:=by rw [ZbK] at *;simp at *;omega
def Z5d (e:IE):List Value:=[.int .u64 (e.id:Int),.string e.name,.int .u64 (e.table:Int),.int .i64 (e.column:Int),.int .u64 (e.xmin:Int),.int .u64 (e.xmax:Int)]
abbrev idxV (l:List IE):List Value:=l.flatMap Z5d
def ZQ (L:List Nat) (id:Nat) (I:List IE):List IE:=I.filter (fun x=>decide (x.table=id) && !decide (stateL L x.xmin=3))
theorem Z5L:∀ (l:List IE),(idxV l).length=l.length * 6
 | []=>rfl
 | x :: l=>by unfold idxV;rw [List.flatMap_cons,List.length_append];have:=Z5L l;unfold idxV at this;rw [this,List.length_cons];show 6+_=_;omega
theorem Z81 (l m:List IE):idxV (l ++ m)=idxV l ++ idxV m:=List.flatMap_append
theorem Zeg (e:IE):∀ u ∈ Z5d e,u.oneCell'=true:=by
 intro u hu
 simp [Z5d] at hu
 rcases hu with rfl | rfl | rfl | rfl | rfl | rfl <;> rfl
theorem Zfs {L:List Nat} {id:Nat} {I:List IE} {k:Nat} {e:IE} (h:I[k]?=some e):ZQ L id (I.take (k+1))=ZQ L id (I.take k) ++ (if (decide (e.table=id) && !decide (stateL L e.xmin=3))=true then [e] else []):=by
 unfold ZQ
 rw [List.take_add_one,h,Option.toList_some,List.filter_append]
 congr 1
 rw [List.filter_cons,List.filter_nil]
def beZ (i:Int):Nat:=(i+9223372036854775808).toNat
def beI (i:Int) (n:Nat):List Nat:=(List.range n).map (fun k=>beZ i / 2 ^ (8 * (7 - k)) % 256)
def ZW (v:RV):List Nat:=match v.k with
 | 0=>[1]
 | 1=>3 :: beI v.i 8
 | 2=>4 :: v.s.data.toList.map (fun b=>b.toNat) ++ [0]
 | _=>[2,if v.b then 1 else 0]
theorem Zft (i:Int) (k:Nat):(beI i k).length=k:=by simp [beI]
theorem Zk3 (v:RV):∀ x ∈ ZW v,x < 256:=by
 intro x hx
 unfold ZW at hx
 split at hx
 ·simp at hx;omega
 ·rcases List.mem_cons.1 hx with e | e
  ·omega
  ·obtain ⟨k,_,rfl⟩:=List.mem_map.1 e
   exact Nat.mod_lt _ (by decide)
 ·rcases List.mem_append.1 hx with e | e
  ·rcases List.mem_cons.1 e with e | e
   ·omega
   ·obtain ⟨b,_,rfl⟩:=List.mem_map.1 e
    exact UInt8.toNat_lt b
  ·simp at e;omega
 ·simp at hx
  rcases hx with e | e
  ·omega
  ·split at e <;> omega
theorem Zj0 {v:RV} (h:v.s.size <= 60):(ZW v).length <= 62/\0 < (ZW v).length:=by
 unfold ZW
 split
 ·simp
 ·simp [Zft]
 ·have:(v.s.data.toList.map (fun b=>b.toNat)).length=v.s.size:=by
   rw [List.length_map,Array.length_toList]
   rfl
  simp only [List.cons_append,List.length_cons,List.length_append,this,List.length_nil]
  omega
 ·simp
def Z8w (n s:Nat):Nat:=if s=0 then 128 else if s=7 then n else 0
def Z2L (n k:Nat):List Nat:=(List.range k).map (Z8w n)
def Zfu (n:Nat):List Nat:=3 :: Z2L n 8
theorem Zfv (n k:Nat):Z2L n (k+1)=Z2L n k ++ [Z8w n k]:=by simp [Z2L,List.range_succ]
theorem ZcL (n k:Nat):(Z2L n k).length=k:=by simp [Z2L]
theorem Zk5 {n:Nat} (hn:n < 256) (s:Nat):Z8w n s < 256:=by unfold Z8w;split <;> (try split) <;> omega
theorem ZcM {n j:Nat} (hn:n < 256) (hj:j < 8):((9223372036854775808+n:Nat):Int) / 2 ^ (8 * j) % 256=((Z8w n (7 - j):Nat):Int):=by
 unfold Z8w
 rcases j with _ | _ | _ | _ | _ | _ | _ | _ | j
 all_goals first | omega | (simp;omega)
end Go.Lap
namespace Go.Proofs.YtobhgnjblniphaaGreatDoor
open Go.RowKit Go.Lap
theorem ZcC {w:World} {S S2:Nat->Prop} {A A2:Option Addr} {c c2 n m:Nat} {ks:List Nat} {l:List RV} (hk:Rd w S 1 A n (Z24 ks)) (hn:ks.length=n) (hv:Rd w S2 4 A2 m (Z0P l)) (hl:l.length=m) (hc:n <= c) (hm:c <= maxLen) (hc2:m <= c2) (hm2:c2 <= maxLen) (hs:∀ v ∈ l,v.s.size <= 1000000) (hT:U8 w) :
  Calls Tryz.prog 78 #[.slice A n c,.slice A2 m c2] w fun e w'=>e=.returned (.int .i64 (fitsR ks l:Int))/\Quiet w w':=by
 have HR:=zh (Z6C hk hn hc hm)
 have HK:=zh hk
 have HV:=zh hv
 have HN:=zh (And.intro hn hl)
 have HS:=zh hs
 have HT:=zh hT
 obtain ⟨Z8,Z6⟩:∃ Z8:Ending->World->Prop,(fun e w'=>e=.returned (.int .i64 (fitsR ks l:Int))/\Quiet w w')=Z8:=⟨_,rfl⟩
 rw [Z6]
 have Zc:Hid (∀ (r:Nat) W,fitsR ks l=r->Quiet w W->Z8 (.returned (.int .i64 (r:Int))) W):=fun r W h1 h2=>by
  rw [<- Z6,<- h1]
  exact ⟨rfl,h2⟩
 unfold maxLen at hm hm2
 clear Z6 hk hn hv hl hs hT
 rcases hrk:Z36 ks with _ | _
 ·rw [hrk] at HR
  have HF:Hid (fitsR ks l=1):=by
   show fitsR ks l=1
   unfold fitsR
   rw [if_pos (Or.inl hrk)]
  clear hrk
  go_enter Tryz.func78,Tryz.ntmps78
  go_wp2_with fail
  refine HR.out.mono ?_
  rintro e w1 ⟨rfl,rfl⟩
  go_wp2
  exact Zc.out 1 _ HF.out (Z0.refl _ _)
 ·have hn8:n <= 8:=by
   unfold Z36 at hrk
   simp only [Bool.and_eq_true,decide_eq_true_eq] at hrk
   rw [<- HN.out.1]
   exact hrk.1.2
  rw [hrk] at HR
  by_cases hmn:m=n
  ·subst hmn
   have HRK:=zh hrk
   clear hrk
   go_enter Tryz.func78,Tryz.ntmps78
   go_wp2_with fail
   refine HR.out.mono ?_
   rintro e w1 ⟨rfl,rfl⟩
   go_wp2
   go_loopw [22,6] (fun i _ wr=>∃ k:Nat,k <= m/\i=.int .i64 (k:Int)/\Quiet w wr/\∀ v ∈ l.take k,Zt v=true) (fun i _ _=>m - (intOf i).toNat)
   case atStart=>exact ⟨0,Nat.zero_le _,rfl,Z0.refl _ _,fun v h=>by simp at h⟩
   case round =>
    obtain ⟨k,hk,rfl,hq,hall⟩:=hrel
    have HQ:=zh hq
    have HALL:=zh hall
    clear hall
    by_cases hlt:k < m
    ·obtain ⟨v,hv⟩:∃ v,l[k]?=some v:=⟨_,zg (by rw [HN.out.2];exact hlt)⟩
     obtain ⟨b2,off2,rfl,_,v0,v1,v2,v3⟩:=Z7b (HV.out.kept hq (fun _ _ x=>x)) hv
     have HVV:=zh hv
     have hsz:=HS.out v (List.mem_of_getElem? hv)
     have HCR:Hid (∀ W,Quiet w W->Calls Tryz.prog 116 #[.agg #[.int .u8 (v.k:Int),.int .i64 v.i,.string v.s,.bool v.b]] W (Z0a W (Zt v))):=fun W hq=>Z2j v hsz W (HT.out.quietly hq)
     have l2:=Zf v0
     dsimp only at l2
     clear hq hv hsz
     go_wp2_with fail
     refine (HCR.out _ (HQ.out.alloc _)).mono ?_
     rintro e w2 ⟨rfl,hq2⟩
     have HQ2:=zh ((HQ.out.alloc _).trans hq2)
     rcases hr:Zt v with _ | _
     ·have HF:Hid (fitsR ks l=3):=by
       show fitsR ks l=3
       unfold fitsR
       rw [if_neg (by rw [HRK.out,HN.out.1,HN.out.2];simp),if_pos (List.any_eq_true.2 ⟨v,List.mem_of_getElem? HVV.out,by rw [hr];rfl⟩)]
      clear hr v0 v1 v2 v3 l2 hq2
      go_wp2
      exact Zc.out 3 _ HF.out HQ2.out
     ·have HA2:Hid (∀ u ∈ l.take (k+1),Zt u=true):=fun u hu=>by
       rw [List.take_add_one,HVV.out,Option.toList_some] at hu
       rcases List.mem_append.1 hu with a | a
       ·exact HALL.out u a
       ·rw [List.mem_singleton] at a
        rw [a]
        exact hr
      clear hr v0 v1 v2 v3 l2 hq2
      go_wp2
      go_roundw
      case rel=>exact ⟨k+1,by omega,by go_num,HQ2.out,HA2.out⟩
      case measure=>simp [intOf];omega
    ·obtain rfl:k=m:=by omega
     have HALL2:Hid (∀ v ∈ l,Zt v=true):=fun v hv=>HALL.out v (by rw [List.take_of_length_le (by rw [HN.out.2];exact Nat.le_refl _)];exact hv)
     clear hlt hq HALL
     go_wp2
     go_loopw [32,7,8] (fun i z _ wr=>∃ j:Nat,j <= k/\i=.int .i64 (j:Int)/\z=.int .i64 ((1+((l.take j).map sizeR).sum:Nat):Int)/\Quiet w wr/\((ks.zip l).take j).any Z2y=false) (fun i _ _ _=>k - (intOf i).toNat)
     case atStart=>exact ⟨0,Nat.zero_le _,rfl,rfl,HQ.out,rfl⟩
     case round =>
      obtain ⟨j,hj,rfl,rfl,hq,hno⟩:=hrel
      have HQ2:=zh hq
      have HNO:=zh hno
      obtain ⟨N,hN⟩:∃ N,1+((l.take j).map sizeR).sum=N:=⟨_,rfl⟩
      have hNb:N <= 600:=by
       have h1:=Z80 (l:=l.take j) (fun v hv=>HALL2.out v (List.mem_of_mem_take hv))
       rw [List.length_take,HN.out.2] at h1
       omega
      rw [hN]
      have HNN:=zh hN
      clear hno hN
      by_cases hlt:j < k
      ·obtain ⟨v,hv⟩:∃ v,l[j]?=some v:=⟨_,zg (by rw [HN.out.2];exact hlt)⟩
       obtain ⟨b2,off2,rfl,_,v0,v1,v2,v3⟩:=Z7b (HV.out.kept hq (fun _ _ x=>x)) hv
       obtain ⟨b,off,u,rfl,_,hu,hcell⟩:=(HK.out.kept hq (fun _ _ x=>x)).get hlt
       obtain ⟨kd,hkd,rfl⟩:=Z7a hu
       have hty:=ZiP hkd hv
       rw [HNO.out,Bool.false_or] at hty
       have HTY:=zh hty
       have HSZ:Hid (1+((l.take (j+1)).map sizeR).sum=N+sizeR v):=by
        show _=_
        rw [Zfl hv,<- HNN.out]
        omega
       have hvr:=Z9r (HALL2.out v (List.mem_of_getElem? hv))
       have HRS:Hid (∀ W,Calls Tryz.prog 117 #[.agg #[.int .u8 (v.k:Int),.int .i64 v.i,.string v.s,.bool v.b]] W (fun e w'=>e=.returned (.int .i64 (sizeR v:Int))/\Quiet W w')):=fun W=>ZcB v (HS.out v (List.mem_of_getElem? hv)) W
       have HMEM:Hid (Z2y (kd,v)=true->fitsR ks l=8):=fun h=>by
        unfold fitsR
        rw [if_neg (by rw [HRK.out,HN.out.1,HN.out.2];simp),if_neg (by rw [List.any_eq_true];rintro ⟨x,hx,hx2⟩;rw [HALL2.out x hx] at hx2;cases hx2),if_pos (List.any_eq_true.2 ⟨(kd,v),List.mem_of_getElem? (i:=j) (by rw [List.getElem?_zip_eq_some];exact ⟨hkd,hv⟩),h⟩)]
       have l1:=Zf hcell
       have l2:=Zf v0
       dsimp only at l1 l2
       obtain ⟨sz,hsz⟩:∃ sz,sizeR v=sz:=⟨_,rfl⟩
       rw [hsz] at HSZ hvr HRS
       have hw1:IntKind.i64.wrap ((N:Int)+(sz:Int))=((N+sz:Nat):Int):=by rw [IntKind.wrap_i64];omega
       clear hq hv hu hkd hty hsz
       by_cases hk0:v.k=0
       ·have e0:((v.k:Int) != 0)=false:=by simp [hk0]
        have HB:Hid (Z2y (kd,v)=false):=by
         show Z2y (kd,v)=false
         unfold Z2y
         simp [hk0]
        clear hk0
        go_wp2_with fail
        go_quiet (fail)
        go_wp2_with fail
        refine (HRS.out _).mono ?_
        rintro e w2 ⟨rfl,hq2⟩
        have HQ3:=zh (((HQ2.out.alloc _).drewN _).trans hq2)
        clear hq2 v0 v1 v2 v3 hcell l1 l2
        go_wp2
        go_roundw
        case rel=>exact ⟨j+1,by omega,by go_num,by rw [HSZ.out];rfl,HQ3.out,by rw [HTY.out];exact HB.out⟩
        case measure=>simp [intOf];omega
       ·have e0:((v.k:Int) != 0)=true:=by simp;omega
        by_cases hkd:v.k=kd
        ·have e1:((v.k:Int) != (kd:Int))=false:=by simp [hkd]
         have HB:Hid (Z2y (kd,v)=false):=by
          show Z2y (kd,v)=false
          unfold Z2y
          simp [hkd]
         clear hk0 hkd
         go_wp2_with fail
         go_quiet (fail)
         go_wp2_with fail
         refine (HRS.out _).mono ?_
         rintro e w2 ⟨rfl,hq2⟩
         have HQ3:=zh (((HQ2.out.alloc _).drewN _).trans hq2)
         clear hq2 v0 v1 v2 v3 hcell l1 l2
         go_wp2
         go_roundw
         case rel=>exact ⟨j+1,by omega,by go_num,by rw [HSZ.out];rfl,HQ3.out,by rw [HTY.out];exact HB.out⟩
         case measure=>simp [intOf];omega
        ·have e1:((v.k:Int) != (kd:Int))=true:=by simp;omega
         have HB:Hid (fitsR ks l=8):=HMEM.out (by unfold Z2y;simp [hk0,hkd])
         clear hk0 hkd HMEM
         go_wp2_with fail
         go_quiet (fail)
         go_wp2
         exact Zc.out 8 _ HB.out ((HQ2.out.alloc _).drewN _)
      ·obtain rfl:j=k:=by omega
       have hty:((ks.zip l)).any Z2y=false:=by
        have:=HNO.out
        rw [List.take_of_length_le (by rw [List.length_zip,HN.out.1,HN.out.2];omega)] at this
        exact this
       have hsum:1+(l.map sizeR).sum=N:=by
        have:=HNN.out
        rw [List.take_of_length_le (by rw [HN.out.2];exact Nat.le_refl _)] at this
        exact this
       have HFF:Hid (fitsR ks l=if 200 < N then 2 else 0):=by
        show _=_
        unfold fitsR
        rw [if_neg (by rw [HRK.out,HN.out.1,HN.out.2];simp),if_neg (by rw [List.any_eq_true];rintro ⟨x,hx,hx2⟩;rw [HALL2.out x hx] at hx2;cases hx2),if_neg (by rw [hty];decide),hsum]
       clear hty hsum hlt
       by_cases hbig:200 < N
       ·have hbz:(200:Int) < (N:Int):=by omega
        go_wp2
        exact Zc.out 2 _ (by rw [HFF.out,if_pos hbig]) HQ2.out
       ·have hbz:¬ (200:Int) < (N:Int):=by omega
        go_wp2
        exact Zc.out 0 _ (by rw [HFF.out,if_neg hbig]) HQ2.out
  ·have hmz:((m:Int) == (n:Int))=false:=by simp;omega
   have HF:Hid (fitsR ks l=1):=by
    show fitsR ks l=1
    unfold fitsR
    rw [if_pos (Or.inr (by rw [HN.out.1,HN.out.2];exact hmn))]
   clear hrk hmn
   go_enter Tryz.func78,Tryz.ntmps78
   go_wp2_with fail
   refine HR.out.mono ?_
   rintro e w1 ⟨rfl,rfl⟩
   go_wp2
   exact Zc.out 1 _ HF.out (Z0.refl _ _)
theorem ZiR:∀ (n:Fin 256) (j:Fin 8),n.val < 2 ^ j.val->bits .or .u8 ((n.val:Nat):Int) ((2 ^ j.val:Nat):Int)=((n.val+2 ^ j.val:Nat):Int):=by decide +kernel
theorem ZjX {n j:Nat} (hj:j < 8) (h:n < 2 ^ j):bits .or .u8 (n:Int) ((2 ^ j:Nat):Int)=((n+2 ^ j:Nat):Int):=by
 have h2:2 ^ j <= 2 ^ 7:=Nat.pow_le_pow_right (by omega) (by omega)
 exact ZiR ⟨n,by omega⟩ ⟨j,hj⟩ h
theorem ZH.set0 {w wr:World} {g n c a b:Nat} {t:List Nat} (h:ZH w wr (.slice (some ⟨g,0,none⟩) n c) (a :: t)):ZH w (wr.setCell ⟨g,0,none⟩ (.int .u8 (b:Int))) (.slice (some ⟨g,0,none⟩) n c) (b :: t):=by
 have hg:=h.new g rfl
 obtain ⟨hq,hnew,hown⟩:=h
 refine ⟨hq.trans' ((Z0.refl (fun k=>k=g) wr).setCell (p:=⟨g,0,none⟩) (fun _=>rfl) _) (fun k hk e=>by omega),hnew,?_⟩
 rcases hown.2 with ⟨e,_⟩ | ⟨g2,c2,cur,e,hz,hh,h1,h2,h3,h4⟩
 ·cases e
 ·injection e with e1 e2 e3
  injection e1 with e1
  injection e1 with e1 _ _
  subst e1 e3
  refine ⟨by simp [Z9],Or.inr ⟨g,c,_,by rw [e2];rfl,hz,Zg hh _ _,h1,h2,?_,?_⟩⟩
  ·rw [<- h3]
   simp
  ·have hl:(b :: t).length * 1=t.length+1:=by simp
   have hl2:(a :: t).length * 1=t.length+1:=by simp
   rw [hl2] at h4
   rw [hl]
   obtain ⟨cl⟩:=cur
   rcases cl with _ | ⟨x,cl⟩
   ·simp [Z9] at h4
   ·simp only [List.setIfInBounds_toArray,List.set_cons_zero,List.take_succ_cons,Z9,List.map_cons,List.cons.injEq] at h4 ⊢
    exact ⟨trivial,h4.2⟩
theorem ZH.more {w wr w1 w4:World} {v v':Value} {l:List Nat} {x:Nat} (h:ZH w wr v l) (hq:Quiet wr w1) (hg:ZT w1 w4 5 1 v v' (l.length+1) (Z9 l ++ Z9 [x])):ZH w w4 v' (l ++ [x]):=by
 have hsz:=h.quiet.size
 have hs1:=hq.size
 refine ⟨(h.quiet.trans hq).trans' hg.only (fun k hk e=>by have:=h.new k e;omega),fun k e=>?_,?_⟩
 ·rcases hg.loc with y | y
  ·rw [y] at e;exact h.new k e
  ·rw [y] at e;injection e with e;omega
 ·rw [List.length_append,show Z9 (l ++ [x])=Z9 l ++ Z9 [x] by simp [Z9]]
  exact hg.own
theorem ZH.text {w wr w1 w4:World} {v v':Value} {l:List Nat} {s:ByteArray} (h:ZH w wr v l) (hq:Quiet wr w1) (hg:ZT w1 w4 5 1 v v' (l.length+s.size) (Z9 l ++ Lib.strCells s)):ZH w w4 v' (l ++ s.data.toList.map (fun b=>b.toNat)):=by
 have hsz:=h.quiet.size
 have hs1:=hq.size
 refine ⟨(h.quiet.trans hq).trans' hg.only (fun k hk e=>by have:=h.new k e;omega),fun k e=>?_,?_⟩
 ·rcases hg.loc with y | y
  ·rw [y] at e;exact h.new k e
  ·rw [y] at e;injection e with e;omega
 ·have e1:Z9 (l ++ s.data.toList.map (fun b=>b.toNat))=Z9 l ++ Lib.strCells s:=by
   unfold Z9 Lib.strCells
   rw [List.map_append,List.map_map]
   rfl
  have e2:(l ++ s.data.toList.map (fun b=>b.toNat)).length=l.length+s.size:=by
   rw [List.length_append,List.length_map,Array.length_toList]
   rfl
  rw [e1,e2]
  exact hg.own
theorem ZH.unfrozen0 {w wr:World} {g n c a:Nat} {t:List Nat} (h:ZH w wr (.slice (some ⟨g,0,none⟩) n c) (a :: t)):wr.frozen? ⟨g,0,none⟩=false:=by
 obtain ⟨cc,hh⟩:=Zh h.own (k:=g) rfl
 exact Z7 hh 0
def Z7d (w:World) (ks:List Nat) (l:List RV) (e:Ending) (w':World):Prop :=
 if fitsR ks l=0 then ∃ v,e=.returned (.tuple #[v,.int .i64 0])/\ZH w w' v (Zq l) else e=.returned (.tuple #[.slice none 0 0,.int .i64 (fitsR ks l:Int)])/\Quiet w w'
theorem Z4L {ks:List Nat} {l:List RV} (h:fitsR ks l=0):(∀ v ∈ l,Zt v=true)/\l.length <= 8/\1+(l.map sizeR).sum <= 200:=by
 unfold fitsR at h
 split at h
 ·cases h
 ·rename_i h1
  split at h
  ·cases h
  ·rename_i h2
   split at h
   ·cases h
   ·split at h
    ·cases h
    ·rename_i h3
     have hr:Z36 ks=true:=by
      rcases e:Z36 ks with _ | _
      ·exact absurd (Or.inl e) h1
      ·rfl
     have hl:l.length=ks.length:=Classical.byContradiction fun x=>h1 (Or.inr x)
     refine ⟨fun v hv=>?_,?_,by omega⟩
     ·rcases e:Zt v with _ | _
      ·exact absurd (List.any_eq_true.2 ⟨v,hv,by rw [e];rfl⟩) h2
      ·rfl
     ·unfold Z36 at hr
      simp only [Bool.and_eq_true,decide_eq_true_eq] at hr
      omega
theorem ZdF {v:RV} (h:Zt v=true):v.k=0 ∨ v.k=1 ∨ v.k=2 ∨ v.k=3:=by
 unfold Zt Z1y at h
 match hv:v.k with
 | 0=>exact Or.inl rfl
 | 1=>exact Or.inr (Or.inl rfl)
 | 2=>exact Or.inr (Or.inr (Or.inl rfl))
 | 3=>exact Or.inr (Or.inr (Or.inr rfl))
 | k+4=>rw [hv] at h;simp at h
theorem Zbq {w:World} {S S2:Nat->Prop} {A A2:Option Addr} {c c2 n m:Nat} {ks:List Nat} {l:List RV} (hk:Rd w S 1 A n (Z24 ks)) (hn:ks.length=n) (hv:Rd w S2 4 A2 m (Z0P l)) (hl:l.length=m) (hc:n <= c) (hm:c <= maxLen) (hc2:m <= c2) (hm2:c2 <= maxLen) (hs:∀ v ∈ l,v.s.size <= 1000000) (hT:U8 w) :
  Calls Tryz.prog 37 #[.slice A n c,.slice A2 m c2] w (Z7d w ks l):=by
 have HF:=zh (ZcC hk hn hv hl hc hm hc2 hm2 hs hT)
 have HV:=zh hv
 have HL:=zh hl
 obtain ⟨Z8,Z6⟩:∃ Z8,Z7d w ks l=Z8:=⟨_,rfl⟩
 rw [Z6]
 have Ze:=zh Z6
 unfold maxLen at hm hm2
 clear Z6 hk hn hv hl hs hT hc
 rcases Nat.eq_zero_or_pos (fitsR ks l) with hz | hz
 ·obtain ⟨hall,hl8,hsum⟩:=Z4L hz
  rw [hz] at HF
  have HALL:=zh hall
  have hm8:m <= 8:=by rw [<- HL.out];exact hl8
  have HSUM:=zh hsum
  have HZ:=zh hz
  clear hall hl8 hsum hz
  go_enter Tryz.func37,Tryz.ntmps37
  go_wp2_with fail
  refine HF.out.mono ?_
  rintro e w1 ⟨rfl,hq1⟩
  have HFR:Hid (ZH w (w1.alloc (.cells #[.int .u8 0] 5)) (.slice (some ⟨w1.heap.size,0,none⟩) 1 1) (Zq (l.take 0))):=⟨hq1.alloc _,fun k e=>by injection e with e;simp only at e;have:=hq1.size;omega,Zix _ _ _⟩
  clear hq1 HF
  go_wp2_with fail
  go_loopw [21,7] (fun i o wr=>∃ (j:Nat) (v':Value),j <= m/\i=.int .i64 (j:Int)/\o=v'/\ZH w wr v' (Zq (l.take j))) (fun i _ _=>m - (intOf i).toNat)
  case atStart=>exact ⟨0,_,Nat.zero_le _,rfl,rfl,HFR.out⟩
  case round =>
   obtain ⟨j,vo,hj,rfl,hvv,hfr⟩:=hrel
   have HFR2:=zh hfr
   by_cases hlt:j < m
   ·obtain ⟨v,hv⟩:∃ v,l[j]?=some v:=⟨_,zg (by rw [HL.out];exact hlt)⟩
    obtain ⟨b2,off2,rfl,_,v0,v1,v2,v3⟩:=Z7b (HV.out.kept hfr.quiet (fun _ _ x=>x)) hv
    have l2:=Zf v0
    dsimp only at l2
    have hrt:=HALL.out v (List.mem_of_getElem? hv)
    have hnl:=Z3s l j (by rw [HL.out];omega)
    have hnt:=Z4K hv
    have hft:=Zfm hv
    obtain ⟨nb,hnb⟩:∃ nb,nullN (l.take j)=nb:=⟨_,rfl⟩
    obtain ⟨fl,hfl⟩:∃ fl,(l.take j).flatMap Z0m=fl:=⟨_,rfl⟩
    have hrj:Zq (l.take j)=nb :: fl:=by unfold Zq;rw [hnb,hfl]
    rw [hnb] at hnl hnt
    rw [hfl] at hft
    rw [hrj] at hfr
    have hlen:(Zq (l.take j)).length <= 600:=by
     rw [ZaV (fun u hu=>HALL.out u (List.mem_of_mem_take hu))]
     have h1:=Z80 (l:=l.take j) (fun u hu=>HALL.out u (List.mem_of_mem_take hu))
     rw [List.length_take,HL.out] at h1
     omega
    rw [hrj,List.length_cons] at hlen
    have HNX:Hid (Zq (l.take (j+1))=(nb+if v.k=0 then 2 ^ j else 0) :: (fl ++ Z0m v)):=by
     show _=_
     unfold Zq
     rw [hnt,hft]
    have hal:=Z4 wr (.cells #[.int .u8 (v.k:Int),.int .i64 v.i,.string v.s,.bool v.b] 32)
    have hqa:Quiet wr (wr.alloc (.cells #[.int .u8 (v.k:Int),.int .i64 v.i,.string v.s,.bool v.b] 32)):=(Z0.refl _ _).alloc _
    have hfb:=hfr.quietly hqa
    obtain ⟨g,cap,hvo⟩:∃ g cap,vo=.slice (some ⟨g,0,none⟩) (fl.length+1) cap:=by
     rcases ZB hfr.own with ⟨_,e⟩ | ⟨g,cap,e,_⟩
     ·simp at e
     ·exact ⟨g,cap,e⟩
    obtain ⟨bx,hbx⟩:∃ bx,wr.heap.size=bx:=⟨_,rfl⟩
    have hgb:g < bx:=by
     have:=hfr.own
     rw [hvo] at this
     obtain ⟨cc,hh⟩:=Zh this (k:=g) rfl
     rw [<- hbx]
     exact Z2 hh
    subst hvo
    subst hvv
    rw [hbx] at hal
    have HAL:=zh hal
    have HFB:=zh hfb
    have HV2:=zh hv
    rcases ZdF hrt with h0 | h1 | h2 | h3
    ·have HNX2:Hid (Zq (l.take (j+1))=(nb+2 ^ j) :: fl):=by
      show _=_
      rw [HNX.out,h0,if_pos rfl]
      unfold Z0m
      rw [h0]
      show (nb+2 ^ j) :: (fl ++ [])=_
      rw [List.append_nil]
     rw [h0] at v0 HAL HFB hal
     have hor:=ZjX (n:=nb) (j:=j) (by omega) hnl
     clear hal hfb hfr hnt hft hrt hv hnb hfl hrj hqa
     go_wp2_with fail
     (try rw [hbx])
     generalize wr.alloc (.cells #[.int .u8 ((0:Nat):Int),.int .i64 v.i,.string v.s,.bool v.b] 32)=wb at *
     have HS14:Hid (∀ W,Quiet wb W->(fun w'=>w'.cell? ⟨g,0,none⟩=some (.int .u8 (nb:Int))) W):=fun W hq=>by
      have:=(HFB.out.quietly hq).own.cells (by rfl) 0 (.int .u8 (nb:Int)) rfl
      rw [Zl,Nat.zero_add] at this
      exact this
     clear v0 v1 v2 v3 l2 HAL
     refine Z0M (S:=(fun w'=>w'.cell? ⟨g,0,none⟩=some (.int .u8 (nb:Int)))) (by kernel_rfl) (by kernel_rfl) (by simp) (HS14.out _ (Z0.refl _ _).drew) (fun Z3=>?_)
     simp only [List.pop_toArray,List.dropLast,List.size_toArray,List.length_cons,List.length_nil,Nat.reduceAdd,Nat.reduceSub]
     have q0:Quiet wb wb.drew:=(Z0.refl _ _).drew
     generalize wb.drew=d0 at q0 Z3 ⊢
     refine zT 0 ?_
     refine zT 1 ?_
     refine zT 2 ?_
     refine zT 3 ?_
     refine zT 4 ?_
     refine zT 5 ?_
     refine zT 6 ?_
     refine zD ?_
     refine Z21 (o:=?_) ?_ ?_
     rotate_left 1
     (focus (simp only [zGA,zGZ,zGS] <;> rfl))
     intro K hK
     have g0:=HS14.out _ q0
     have gf:d0.frozen? ⟨g,0,none⟩=false:=(HFB.out.quietly q0).unfrozen0
     have gl:=Zf g0
     dsimp only at gl
     go_simp
     refine hK.out _ _ ?_
     clear hK K
     (try dsimp only [Act.put])
     have HNEW:Hid (ZH w (d0.setCell ⟨g,0,none⟩ (.int .u8 (bits .or .u8 (nb:Int) (2 ^ j % 256)))) (.slice (some ⟨g,0,none⟩) (fl.length+1) cap) (Zq (l.take (j+1)))):=by
      show ZH _ _ _ _
      have hp:2 ^ j <= 2 ^ 7:=Nat.pow_le_pow_right (by omega) (by omega)
      have e1:(2:Int) ^ j % 256=((2 ^ j:Nat):Int):=by
       have e0:(2:Int) ^ j=((2 ^ j:Nat):Int):=by push_cast;rfl
       rw [e0]
       omega
      rw [HNX2.out,e1,hor]
      exact (HFB.out.quietly q0).set0
     clear q0 Z3
     go_wp2
     go_roundw
     case rel=>exact ⟨j+1,_,by omega,by go_num,rfl,HNEW.out⟩
     case measure=>simp [intOf];omega
    ·have HNX2:Hid (Zq (l.take (j+1))=nb :: (fl ++ leI v.i 8)):=by
      show _=_
      rw [HNX.out,h1,if_neg (by omega)]
      unfold Z0m
      rw [h1]
      rfl
     rw [h1] at v0 HAL HFB hal
     have hi0:=Z1 HAL.out 1
     simp only [zGA,zGS,zGZ] at hi0
     have HI0:=zh hi0
     clear hal hfb hfr hnt hft hrt hv hnb hfl hrj hqa hi0
     go_wp2_with fail
     (try rw [hbx])
     generalize wr.alloc (.cells #[.int .u8 ((1:Nat):Int),.int .i64 v.i,.string v.s,.bool v.b] 32)=wb at *
     clear v0 v1 v2 v3 l2
     go_loopw [45,7,10] (fun i o _ wx=>∃ (k:Nat) (v':Value),k <= 8/\i=.int .i64 (k:Int)/\o=v'/\ZH w wx v' (nb :: (fl ++ leI v.i k))/\wx.cell? ⟨bx,1,none⟩=some (.int .i64 v.i)/\(∀ j,v'.ownBlock=some j->j ≠ bx)) (fun i _ _ _=>8 - (intOf i).toNat)
     case atStart=>exact ⟨0,_,Nat.zero_le _,rfl,rfl,by rw [show fl ++ leI v.i 0=fl from List.append_nil _];exact HFB.out,HI0.out,fun j e=>by injection e with e;simp only at e;omega⟩
     case round =>
      obtain ⟨k,v',hk,rfl,hvv,hW,hN,hb⟩:=hrel
      subst hvv
      by_cases hlt2:k < 8
      ·obtain ⟨x,hx⟩:∃ x:Nat,((v.i / 2 ^ (8 * k)) % 256).toNat=x:=⟨_,rfl⟩
       have hxi:(v.i / 2 ^ (8 * k)) % 256=(x:Int):=by rw [<- hx];exact (Int.toNat_of_nonneg (Int.emod_nonneg _ (by omega))).symm
       have HS:=zh (ZiQ v.i k)
       rw [hx] at HS
       have hl:(nb :: (fl ++ leI v.i k)).length=fl.length+k+1:=by rw [List.length_cons,List.length_append,Z2Z]
       have HRD:Hid (Rd (wr.alloc (.cells #[.int .u8 (x:Int)] 5)) (fun _=>True) 1 (some ⟨wr.heap.size,0,none⟩) 1 (Z9 [x])):=Rd.new wr 1 1 (Z9 [x]) _ _ rfl trivial
       have HR1:=zh (Z5 hW.own ((Z0.refl (fun _=>False) wr).alloc (.cells #[.int .u8 (x:Int)] 5)) (fun _ _ x=>x))
       have HW:=zh hW
       have HB:=zh hb
       have HL2:=zh hl
       have hbw:=Zf hN
       dsimp only at hbw
       clear hW hb hl hx
       go_wp2_with (at_builtin;refine app Z17 rfl (.tmp 48) (.tmp 55) rfl rfl HR1.out rfl HRD.out (Z0A [x]) (by rw [HL2.out];unfold maxLen;omega) (by rw [HL2.out];omega) ?_)
       intro v4 w4 hg4
       have hlx:fl.length+(leI v.i k).length+1+1=(nb :: (fl ++ leI v.i k)).length+1:=by rw [List.length_cons,List.length_append]
       rw [hlx] at hg4
       have HST:=zh (HW.out.step hg4)
       have hN4:w4.cell? ⟨bx,1,none⟩=some (.int .i64 v.i):=hg4.only.cell (((Z0.refl (fun _=>False) wr).alloc (.cells #[.int .u8 (x:Int)] 5)).cell hN (fun x=>x)) (fun e=>HB.out _ e rfl)
       have HB4:Hid (∀ j,v4.ownBlock=some j->j ≠ bx):=fun j e=>by
        rcases hg4.loc with y | y
        ·rw [y] at e;exact HB.out j e
        ·rw [y] at e;injection e with e;simp only [World.size_alloc] at e;omega
       rw [List.cons_append,List.append_assoc,<- HS.out] at HST
       clear hg4 HR1 HRD HW HB HS hxi hN
       go_wp2
       go_roundw
       case rel=>exact ⟨k+1,_,by omega,by go_num,rfl,HST.out,hN4,HB4.out⟩
       case measure=>simp [intOf];omega
      ·obtain rfl:k=8:=by omega
       have HNEW:Hid (∃ v',u7=v'/\ZH w wr v' (Zq (l.take (j+1)))):=⟨_,rfl,by rw [HNX2.out];exact hW⟩
       clear hW hN hb
       go_wp2
       go_roundw
       case rel =>
        obtain ⟨v',e1,e2⟩:=HNEW.out
        exact ⟨j+1,v',by omega,by go_num,e1,e2⟩
       case measure=>simp [intOf];omega
    ·have HNX2:Hid (Zq (l.take (j+1))=nb :: (fl ++ (v.s.size :: v.s.data.toList.map (fun b=>b.toNat)))):=by
      show _=_
      rw [HNX.out,h2,if_neg (by omega)]
      unfold Z0m
      rw [h2]
      rfl
     have hsz:v.s.size <= 60:=by
      unfold Zt Z4c at hrt
      simp only [Bool.and_eq_true,decide_eq_true_eq] at hrt
      exact hrt.2.1.1
     rw [h2] at v0 HAL HFB hal
     clear hal hfb hfr hnt hft hrt hv hnb hfl hrj hqa
     go_wp2_with fail
     (try rw [hbx])
     generalize wr.alloc (.cells #[.int .u8 ((2:Nat):Int),.int .i64 v.i,.string v.s,.bool v.b] 32)=wb at *
     have HS22:Hid (∀ W,Z0 (fun k=>k ≠ bx) wb W->(fun w'=>w'.cell? ⟨bx,2,none⟩=some (.string v.s)) W):=fun W ho=>by
      show W.cell? ⟨bx,2,none⟩=_
      rw [Z1 (ho.get HAL.out (fun e=>e rfl))]
      rfl
     have hw8:IntKind.u8.wrap (v.s.size:Int)=(v.s.size:Int):=by rw [IntKind.wrap_u8];omega
     clear v0 v1 v2 v3 l2
     refine zH HS22 ((Z0.refl _ _).drew) (fun Z3=>?_)
     have q0:Quiet wb wb.drew:=(Z0.refl _ _).drew
     generalize wb.drew=d0 at q0 Z3 ⊢
     refine zT 0 ?_
     refine zT 1 ?_
     refine zT 2 ?_
     refine zT 3 ?_
     refine zT 4 ?_
     refine zT 7 ?_
     refine zT 8 ?_
     refine zR 5 ?_
     intro K hK
     go_simp
     refine hK.out _ _ ?_ (fun Z3=>?_)
     ·exact HS22.out _ ((q0.alloc _).mono (fun _ _ x=>x.elim))
     clear hK K
     (try simp only [Act.put,zPA,zPZ,zPS])
     have HR1:=zh (Z5 (HFB.out.quietly q0).own ((Z0.refl (fun _=>False) d0).alloc (.cells #[.int .u8 (v.s.size:Int)] 5)) (fun _ _ x=>x))
     have HRD:Hid (Rd (d0.alloc (.cells #[.int .u8 (v.s.size:Int)] 5)) (fun _=>True) 1 (some ⟨d0.heap.size,0,none⟩) 1 (Z9 [v.s.size])):=Rd.new d0 1 1 (Z9 [v.s.size]) _ _ rfl trivial
     refine zR 6 ?_
     intro K hK
     refine Z0B Z17 rfl (.tmp 60) (.tmp 65) rfl rfl HR1.out rfl HRD.out (Z0A [v.s.size]) (by simp only [List.length_cons];unfold maxLen;omega) (by simp only [List.length_cons];omega) ?_
     intro v2 d2 hg2
     have hf2:=(HFB.out.quietly q0).step hg2
     have ho2:Z0 (fun k=>k ≠ bx) wb d2:=((q0.alloc _).mono (T:=fun k=>k ≠ bx) (fun _ _ x=>x.elim)).trans' hg2.only (fun k hk e=>by injection e with e;simp only at e;omega)
     refine hK.out _ _ ?_ (fun Z3=>?_)
     ·exact HS22.out _ ho2
     clear hK K
     (try simp only [Act.put,zPA,zPZ,zPS])
     obtain ⟨g2,cap2,hv2⟩:∃ g2 cap2,v2=.slice (some ⟨g2,0,none⟩) (fl.length+1+1) cap2:=by
      rcases ZB hf2.own with ⟨_,e⟩ | ⟨g2,cap2,e,_⟩
      ·simp at e
      ·exact ⟨g2,cap2,by rw [e];simp⟩
     subst hv2
     have hbl:=Z2 (q0.get HAL.out (fun x=>x))
     have hg2n:g2 ≠ bx:=by
      rcases hg2.loc with y | y
      ·injection y with y;simp only at y;omega
      ·injection y with y;simp only [World.size_alloc] at y;omega
     refine zR 9 ?_
     intro K hK
     refine Z2T (P:=Tryz.prog) (e:=5) Tryz.underlying22 Tryz.underlying9 (by kernel_rfl) rfl (.tmp 66) (.tmp 68) rfl rfl (by have:=hf2.own;simpa using this) rfl (by omega) ?_
     intro v3 d3 hg3
     have hst:=hf2.text (Z0.refl _ _) (by simpa using hg3)
     have ho3:Z0 (fun k=>k ≠ bx) wb d3:=ho2.trans' hg3.only (fun k hk e=>by injection e with e;simp only at e;omega)
     refine hK.out _ _ ?_ (fun Z3=>?_)
     ·exact HS22.out _ ho3
     clear hK K
     (try simp only [Act.put,zPA,zPZ,zPS])
     refine zT 10 ?_
     refine zD ?_
     have HNEW:Hid (ZH w d3 v3 (Zq (l.take (j+1)))):=by
      show ZH _ _ _ _
      rw [HNX2.out]
      have e1:nb :: fl ++ [v.s.size] ++ v.s.data.toList.map (fun b=>b.toNat)=nb :: (fl ++ (v.s.size :: v.s.data.toList.map (fun b=>b.toNat))):=by simp
      rw [<- e1]
      exact hst
     clear Z3 hst
     go_wp2
     go_roundw
     case rel=>exact ⟨j+1,_,by omega,by go_num,rfl,HNEW.out⟩
     case measure=>simp [intOf];omega
    ·have HNX2:Hid (Zq (l.take (j+1))=nb :: (fl ++ [if v.b then 1 else 0])):=by
      show _=_
      rw [HNX.out,h3,if_neg (by omega)]
      unfold Z0m
      rw [h3]
      rfl
     rw [h3] at v0 HAL HFB hal
     clear hal hfb hfr hnt hft hrt hv hnb hfl hrj hqa
     obtain ⟨bv,hbv⟩:∃ bv,v.b=bv:=⟨_,rfl⟩
     rw [hbv] at HNX2 v3 HAL HFB
     have hlx:(nb :: fl).length=fl.length+1:=rfl
     obtain ⟨vo,hvo⟩:∃ vo,Value.slice (some ⟨g,0,none⟩) (fl.length+1) cap=vo:=⟨_,rfl⟩
     rw [hvo] at HFB ⊢
     clear hvo
     cases bv with
     | true =>
      have HRD:Hid (∀ W:World,Rd (W.alloc (.cells #[.int .u8 1] 5)) (fun _=>True) 1 (some ⟨W.heap.size,0,none⟩) 1 (Z9 [1])):=fun W=>Rd.new W 1 1 (Z9 [1]) _ _ rfl trivial
      go_upto_region 12 with fail
      (try rw [hbx])
      generalize wr.alloc (.cells #[.int .u8 ((3:Nat):Int),.int .i64 v.i,.string v.s,.bool true] 32)=wb at *
      have HR1:=zh (Z5 HFB.out.own ((Z0.refl (fun _=>False) wb).alloc (.cells #[.int .u8 1] 5)) (fun _ _ x=>x))
      clear v0 v1 v2 v3 l2
      go_wp2_with (at_builtin;refine app Z17 rfl (.tmp 30) (.tmp 32) rfl rfl HR1.out rfl (HRD.out _) (Z0A [1]) (by rw [hlx];unfold maxLen;omega) (by rw [hlx];omega) ?_)
      intro v4 w4 hg4
      have HNEW:Hid (ZH w w4 v4 (Zq (l.take (j+1)))):=by
       show ZH _ _ _ _
       rw [HNX2.out]
       exact HFB.out.step hg4
      clear hg4 HR1 HRD
      go_wp2
      go_roundw
      case rel=>exact ⟨j+1,_,by omega,by go_num,rfl,HNEW.out⟩
      case measure=>simp [intOf];omega
     | false =>
      have HRD:Hid (∀ W:World,Rd (W.alloc (.cells #[.int .u8 0] 5)) (fun _=>True) 1 (some ⟨W.heap.size,0,none⟩) 1 (Z9 [0])):=fun W=>Rd.new W 1 1 (Z9 [0]) _ _ rfl trivial
      go_upto_region 12 with fail
      (try rw [hbx])
      generalize wr.alloc (.cells #[.int .u8 ((3:Nat):Int),.int .i64 v.i,.string v.s,.bool false] 32)=wb at *
      have HR1:=zh (Z5 HFB.out.own ((Z0.refl (fun _=>False) wb).alloc (.cells #[.int .u8 0] 5)) (fun _ _ x=>x))
      clear v0 v1 v2 v3 l2
      go_wp2_with (at_builtin;refine app Z17 rfl (.tmp 30) (.tmp 32) rfl rfl HR1.out rfl (HRD.out _) (Z0A [0]) (by rw [hlx];unfold maxLen;omega) (by rw [hlx];omega) ?_)
      intro v4 w4 hg4
      have HNEW:Hid (ZH w w4 v4 (Zq (l.take (j+1)))):=by
       show ZH _ _ _ _
       rw [HNX2.out]
       exact HFB.out.step hg4
      clear hg4 HR1 HRD
      go_wp2
      go_roundw
      case rel=>exact ⟨j+1,_,by omega,by go_num,rfl,HNEW.out⟩
      case measure=>simp [intOf];omega
   ·obtain rfl:j=m:=by omega
    have Zc:Hid (∀ W,Quiet wr W->Z8 (.returned (.tuple #[u7,.int .i64 0])) W):=fun W hq=>by
     rw [<- Ze.out]
     unfold Z7d
     rw [if_pos HZ.out]
     refine ⟨_,rfl,?_⟩
     rw [hvv]
     have:=hfr.quietly hq
     rw [List.take_of_length_le (by rw [HL.out];exact Nat.le_refl _)] at this
     exact this
    clear hfr hvv hlt
    go_wp2
    exact Zc.out _ (Z0.refl _ _)
 ·have Zc:Hid (∀ W,Quiet w W->Z8 (.returned (.tuple #[.slice none 0 0,.int .i64 (fitsR ks l:Int)])) W):=fun W hq=>by
   rw [<- Ze.out]
   unfold Z7d
   rw [if_neg (by omega)]
   exact ⟨rfl,hq⟩
  obtain ⟨F,hF⟩:∃ F,fitsR ks l=F:=⟨_,rfl⟩
  rw [hF] at HF Zc hz
  have hFz:((F:Int) != 0)=true:=by simp;omega
  clear hF hz
  go_enter Tryz.func37,Tryz.ntmps37
  go_wp2_with fail
  refine HF.out.mono ?_
  rintro e w1 ⟨rfl,hq1⟩
  have HQ1:=zh hq1
  clear hq1
  go_wp2
  exact Zc.out _ HQ1.out
def soI (i:Int) (k:Nat):Int:=IntKind.i64.wrap (i % 2 ^ (8 * k))
theorem ZiS (i:Int):soI i 0=0:=by
 unfold soI
 rw [IntKind.wrap_i64]
 simp
theorem Zee {i:Int} (h1:-9223372036854775808 <= i) (h2:i <= 9223372036854775807):soI i 8=i:=by
 unfold soI
 rw [IntKind.wrap_i64]
 show (i % 18446744073709551616+_) % _ - _=i
 omega
theorem ZkA {k:Nat} (hk:k < 8):2 ^ (8 * k) <= 72057594037927936:=by
 have:2 ^ (8 * k) <= 2 ^ 56:=Nat.pow_le_pow_right (by omega) (by omega)
 simpa using this
theorem Zfn {m:Nat} (hm:m < 18446744073709551616):(BitVec.ofInt 64 (IntKind.i64.wrap (m:Int))).toNat=m:=by
 rw [BitVec.toNat_ofInt,IntKind.wrap_i64]
 have e:((2 ^ 64:Nat):Int)=18446744073709551616:=by decide
 rw [e]
 omega
theorem Zfo {a m:Nat} (ha:a < 18446744073709551616) (hm:m < 18446744073709551616):bits .or .i64 (a:Int) (IntKind.i64.wrap (m:Int))=IntKind.i64.wrap ((a ||| m:Nat):Int):=by
 have h1:(BitVec.ofInt 64 (a:Int)).toNat=a:=by
  rw [BitVec.ofInt_natCast,BitVec.toNat_ofNat];exact Nat.mod_eq_of_lt (by omega)
 show IntKind.i64.wrap ((BitVec.ofInt 64 (a:Int) ||| BitVec.ofInt 64 (IntKind.i64.wrap (m:Int))).toNat:Int)=_
 rw [BitVec.toNat_or,h1,Zfn hm]
theorem ZiT {a x k:Nat} (hk:k < 8) (ha:a < 2 ^ (8 * k)) (hx:x < 256):bits .or .i64 (a:Int) (IntKind.i64.wrap ((x:Int) * ((2 ^ (8 * k):Nat):Int)))=IntKind.i64.wrap ((a+x * 2 ^ (8 * k):Nat):Int):=by
 have hp:=ZkA hk
 obtain ⟨p,hpe⟩:∃ p,2 ^ (8 * k)=p:=⟨_,rfl⟩
 have hor:a ||| x * 2 ^ (8 * k)=a+x * 2 ^ (8 * k):=by
  have:=Nat.two_pow_add_eq_or_of_lt ha x
  rw [Nat.or_comm,Nat.mul_comm,<- this,Nat.add_comm]
 rw [hpe] at hor ha hp ⊢
 have hm:x * p <= 255 * 72057594037927936:=Nat.mul_le_mul (by omega) hp
 obtain ⟨m,hme⟩:∃ m,x * p=m:=⟨_,rfl⟩
 have e1:(x:Int) * (p:Int)=(m:Int):=by rw [<- hme];push_cast;rfl
 rw [e1]
 rw [hme] at hor hm ⊢
 rw [Zfo (by omega) (by omega),hor]
theorem Zhi (i p:Int) (hp:0 < p):i % (p * 256)=i % p+(i / p) % 256 * p:=by
 have h1:=Int.emod_nonneg i (by omega:p ≠ 0)
 have h2:=Int.emod_lt_of_pos i hp
 have h3:=Int.emod_nonneg (i / p) (by omega:(256:Int) ≠ 0)
 have h4:=Int.emod_lt_of_pos (i / p) (by omega:(0:Int) < 256)
 have e1:=Int.emod_add_mul_ediv i p
 have e2:=Int.emod_add_mul_ediv (i / p) 256
 obtain ⟨q,hq⟩:∃ q,i / p=q:=⟨_,rfl⟩
 obtain ⟨r,hr⟩:∃ r,i % p=r:=⟨_,rfl⟩
 obtain ⟨s,hs⟩:∃ s,q % 256=s:=⟨_,rfl⟩
 obtain ⟨t,ht⟩:∃ t,q / 256=t:=⟨_,rfl⟩
 rw [hq] at e1 e2 h3 h4 ⊢
 rw [hr] at e1 h1 h2 ⊢
 rw [hs,ht] at e2
 rw [hs] at h3 h4 ⊢
 have e3:i=(r+s * p)+p * 256 * t:=by
  rw [<- e1,<- e2,Int.mul_add,Int.mul_comm p s,Int.mul_assoc,Int.add_assoc]
 rw [e3,Int.add_mul_emod_self_left]
 refine Int.emod_eq_of_lt ?_ ?_
 ·exact Int.add_nonneg h1 (Int.mul_nonneg h3 (by omega))
 ·have:s * p <= 255 * p:=Int.mul_le_mul_of_nonneg_right (by omega) (by omega)
  rw [Int.mul_comm p 256]
  omega
theorem ZiU (i:Int) {k x:Nat} (hk:k < 8) (hx:((i / 2 ^ (8 * k)) % 256).toNat=x):bits .or .i64 (soI i k) (IntKind.i64.wrap ((x:Int) * ((2 ^ (8 * k):Nat):Int)))=soI i (k+1):=by
 have hp:=ZkA hk
 have hpos:0 < 2 ^ (8 * k):=Nat.pow_pos (by omega)
 have e8:(2:Int) ^ (8 * (k+1))=(2:Int) ^ (8 * k) * 256:=by
  rw [show 8 * (k+1)=8 * k+8 by omega,Int.pow_add]
  rfl
 have ec:(2:Int) ^ (8 * k)=((2 ^ (8 * k):Nat):Int):=by push_cast;rfl
 obtain ⟨p,hpe⟩:∃ p,2 ^ (8 * k)=p:=⟨_,rfl⟩
 have hm0:=Int.emod_nonneg i (by omega:(p:Int) ≠ 0)
 have hm1:=Int.emod_lt_of_pos i (by omega:(0:Int) < (p:Int))
 obtain ⟨a,ha⟩:∃ a:Nat,i % (p:Int)=(a:Int):=⟨(i % (p:Int)).toNat,by omega⟩
 have hxi:(i / (p:Int)) % 256=(x:Int):=by
  rw [ec,hpe] at hx
  have:=Int.emod_nonneg (i / (p:Int)) (by omega:(256:Int) ≠ 0)
  omega
 have hx256:x < 256:=by
  have:=Int.emod_lt_of_pos (i / (p:Int)) (by omega:(0:Int) < 256)
  omega
 have e0:soI i k=(a:Int):=by
  unfold soI
  rw [ec,hpe,ha,IntKind.wrap_i64]
  rw [hpe] at hp
  omega
 have e1:soI i (k+1)=IntKind.i64.wrap ((a+x * 2 ^ (8 * k):Nat):Int):=by
  unfold soI
  rw [e8,ec,hpe,Zhi i p (by omega),ha,hxi]
  congr 1
 rw [e0,e1]
 exact ZiT hk (by rw [hpe];omega) hx256
def Z6n (w:World) (S:Nat->Prop) (v:RV) (t:List Nat) (e:Ending) (w':World):Prop :=
 ∃ A c,e=.returned (.tuple #[.agg #[.int .u8 (v.k:Int),.int .i64 v.i,.string v.s,.bool v.b],.slice A t.length c,.bool true])/\Quiet w w'/\Rd w' S 1 A t.length (Z9 t)/\t.length <= c/\c <= maxLen
theorem Rd.behind {w:World} {S:Nat->Prop} {b off n k:Nat} {l t:List Nat} (h:Rd w S 1 (some ⟨b,off,none⟩) n (Z9 (l ++ t))) (hk:l.length=k) (hn:n=k+t.length):Rd w S 1 (some ⟨b,off+k,none⟩) t.length (Z9 t):=by
 refine ⟨by simp [Z9],fun hp=>?_⟩
 obtain ⟨b',off',e,hs,hc⟩:=h.cells (by simp [Z9] at hp ⊢;omega)
 injection e with e
 injection e with e1 e2
 subst e1 e2
 refine ⟨b,off+k,rfl,hs,fun j u hu=>?_⟩
 have:=hc (k+j) u (by
   unfold Z9 at hu ⊢
   rw [List.map_append,List.getElem?_append_right (by rw [List.length_map];omega),List.length_map,hk,Nat.add_sub_cancel_left]
   exact hu)
 rw [<- Nat.add_assoc] at this
 exact this
theorem ZcD {w:World} {S:Nat->Prop} {b off c n:Nat} {i:Int} {t:List Nat} (hi1:-9223372036854775808 <= i) (hi2:i <= 9223372036854775807) (hr:Rd w S 1 (some ⟨b,off,none⟩) n (Z9 (leI i 8 ++ t))) (hn:n=8+t.length) (hc:n <= c) (hm:c <= maxLen) :
  Calls Tryz.prog 115 #[.int .u8 1,.slice (some ⟨b,off,none⟩) n c] w (Z6n w S ⟨1,i,⟨#[]⟩,false⟩ t):=by
 have HBH:=zh (Rd.behind hr (Z2Z i 8) hn)
 have hn8:8 <= n:=by omega
 have HN:=zh hn
 have HR5:Hid (∀ W A,t.length=0->Rd W S 1 A t.length (Z9 t)):=fun W A h=>by
  rw [List.eq_nil_of_length_eq_zero h]
  exact ⟨rfl,fun hp=>absurd hp (Nat.lt_irrefl _)⟩
 have hcell:∀ k,k < 8->w.cell? ⟨b,off+k,none⟩=some (.int .u8 ((((i / 2 ^ (8 * k)) % 256).toNat:Nat):Int)):=fun k hk=>by
  obtain ⟨b',off',u,e,_,hu,hcl⟩:=hr.get (k:=k) (by omega)
  injection e with e
  injection e with e1 e2
  subst e1 e2
  rw [hcl,<- hu]
  unfold Z9
  rw [List.map_append,List.getElem?_append_left (by rw [List.length_map,Z2Z];exact hk)]
  simp only [leI,List.getElem?_map,List.getElem?_range hk,Option.map_some]
 clear hn
 have HC:=zh hcell
 have hb0:=Zf (hcell 0 (by omega))
 dsimp only at hb0
 unfold maxLen at hm
 have hq0:Quiet w ((w.alloc (.cells #[.int .u8 0,.int .i64 0,.string ⟨#[]⟩,.bool false] 32)).alloc (.cells #[.int .u8 1,.int .i64 0,.string ⟨#[]⟩,.bool false] 32)):=((Z0.refl _ _).alloc _).alloc _
 have hB1:((w.alloc (.cells #[.int .u8 0,.int .i64 0,.string ⟨#[]⟩,.bool false] 32)).alloc (.cells #[.int .u8 1,.int .i64 0,.string ⟨#[]⟩,.bool false] 32)).heap[w.heap.size]?=some (.cells #[.int .u8 0,.int .i64 0,.string ⟨#[]⟩,.bool false] 32 (0,0)):=by
  exact Zd (Z4 w _) _
 have hB2:((w.alloc (.cells #[.int .u8 0,.int .i64 0,.string ⟨#[]⟩,.bool false] 32)).alloc (.cells #[.int .u8 1,.int .i64 0,.string ⟨#[]⟩,.bool false] 32)).heap[w.heap.size+1]?=some (.cells #[.int .u8 1,.int .i64 0,.string ⟨#[]⟩,.bool false] 32 (0,0)):=by
  have h:=Z4 (w.alloc (.cells #[.int .u8 0,.int .i64 0,.string ⟨#[]⟩,.bool false] 32)) (.cells #[.int .u8 1,.int .i64 0,.string ⟨#[]⟩,.bool false] 32)
  rw [World.size_alloc] at h
  exact h
 have HQ0:=zh hq0
 have HB1:=zh hB1
 have HB2:=zh hB2
 clear hr hcell hq0 hB1 hB2
 obtain ⟨p1,hp1⟩:∃ p1,w.heap.size=p1:=⟨_,rfl⟩
 obtain ⟨p2,hp2⟩:∃ p2,w.heap.size+1=p2:=⟨_,rfl⟩
 rw [hp1] at HB1
 rw [hp2] at HB2
 rw [hp1] at hp2
 go_enter Tryz.func115,Tryz.ntmps115
 go_wp2_with fail
 go_loopw [18,8] (fun ii _ wr=>∃ k:Nat,k <= 8/\ii=.int .i64 (k:Int)/\Quiet w wr/\wr.heap[p1]?=some (.cells #[.int .u8 0,.int .i64 0,.string ⟨#[]⟩,.bool false] 32 (0,0))/\wr.heap[p2]?=some (.cells #[.int .u8 1,.int .i64 (soI i k),.string ⟨#[]⟩,.bool false] 32 (0,0))) (fun i _ _=>8 - (intOf i).toNat)
 case atStart=>exact ⟨0,Nat.zero_le _,rfl,HQ0.out,HB1.out,by rw [ZiS];exact HB2.out⟩
 case round =>
  obtain ⟨k,hk,rfl,hQ,hB1,hB2⟩:=hrel
  have HQ:=zh hQ
  have HB1':=zh hB1
  have HB2':=zh hB2
  have c1:wr.cell? ⟨p2,1,none⟩=some (.int .i64 (soI i k)):=Z1 hB2 1
  have lp2:=Zf c1
  dsimp only at lp2
  by_cases hlt:k < 8
  ·obtain ⟨x,hx⟩:∃ x:Nat,((i / 2 ^ (8 * k)) % 256).toNat=x:=⟨_,rfl⟩
   have q1:wr.cell? ⟨b,off+k,none⟩=some (.int .u8 (x:Int)):=by
    have:=HC.out k hlt
    rw [hx] at this
    exact HQ.out.cell this (fun x=>x)
   have hx256:x < 256:=by
    have:=Int.emod_lt_of_pos (i / 2 ^ (8 * k)) (by omega:(0:Int) < 256)
    have:=Int.emod_nonneg (i / 2 ^ (8 * k)) (by omega:(256:Int) ≠ 0)
    omega
   have esh:Op.shift BinOp.shl IntKind.i64 (IntKind.i64.wrap (x:Int)) IntKind.i64 (IntKind.i64.wrap (8 * (k:Int)))=(pure (.int .i64 (IntKind.i64.wrap ((x:Int) * ((2 ^ (8 * k):Nat):Int)))):Sem Value):=by
    rw [Zp (x:Int) (by omega) (by omega),Zp (8 * (k:Int)) (by omega) (by omega),shift_shl_any _ _ _ _ (by omega)]
    have e1:((8 * (k:Int)).toNat)=8 * k:=by omega
    have e2:((2 ^ (8 * k):Nat):Int)=(2:Int) ^ (8 * k):=by push_cast;rfl
    rw [e2]
    rw [e1,Nat.min_eq_left (show 8 * k <= IntKind.i64.bits by have:IntKind.i64.bits=64:=rfl;omega)]
   have eor:=ZiU i hlt hx
   obtain ⟨y,hy⟩:∃ y,IntKind.i64.wrap ((x:Int) * ((2 ^ (8 * k):Nat):Int))=y:=⟨_,rfl⟩
   rw [hy] at esh eor
   clear hy
   have hkn:(k:Int) < (n:Int):=by omega
   have f1:wr.frozen? ⟨p2,1,none⟩=false:=Z7 hB2 1
   clear hQ hB1 hB2 HB1 HB2 HQ0
   go_wp2_with fail
   refine Z0M (S:=fun w'=>w'.cell? ⟨p2,1,none⟩=some (.int .i64 (soI i k))/\w'.cell? ⟨b,off+k,none⟩=some (.int .u8 (x:Int))) (by kernel_rfl) (by kernel_rfl) (by simp) (⟨c1,q1⟩) (fun Z3=>?_)
   simp only [List.pop_toArray,List.dropLast,List.size_toArray,List.length_cons,List.length_nil,Nat.reduceAdd,Nat.reduceSub]
   refine zT 0 ?_
   refine zT 1 ?_
   refine zT 2 ?_
   refine zT 3 ?_
   refine zT 4 ?_
   refine zT 5 ?_
   refine zT 6 ?_
   refine zT 7 ?_
   refine zT 8 ?_
   refine zT 9 ?_
   refine zT 10 ?_
   refine zT 11 ?_
   refine zD ?_
   refine Z21 (o:=?_) ?_ ?_
   rotate_left 1
   (focus (simp only [zGA,zGZ,zGS] <;> rfl))
   intro K hK
   go_simp
   refine hK.out _ _ ?_
   clear hK K
   have hQ':Quiet w (wr.setCell ⟨p2,1,none⟩ (.int .i64 (soI i (k+1)))).drew:=(HQ.out.setCell (fun h=>absurd h (by show ¬ p2 < w.heap.size;omega)) _).drew
   have hB1':(wr.setCell ⟨p2,1,none⟩ (.int .i64 (soI i (k+1)))).drew.heap[p1]?=some (.cells #[.int .u8 0,.int .i64 0,.string ⟨#[]⟩,.bool false] 32 (0,0)):=by
    exact Z6E HB1'.out _ _ (by omega)
   have hB2':(wr.setCell ⟨p2,1,none⟩ (.int .i64 (soI i (k+1)))).drew.heap[p2]?=some (.cells #[.int .u8 1,.int .i64 (soI i (k+1)),.string ⟨#[]⟩,.bool false] 32 (0,0)):=by
    exact Zg HB2'.out _ _
   generalize (wr.setCell ⟨p2,1,none⟩ (.int .i64 (soI i (k+1)))).drew=wn at *
   clear Z3 esh eor f1 q1 c1 lp2
   go_wp2_with fail
   go_roundw
   case rel=>exact ⟨k+1,by omega,by go_num,hQ',hB1',hB2'⟩
   case measure=>simp [intOf];omega
  ·obtain rfl:k=8:=by omega
   have f0:wr.frozen? ⟨p1,0,none⟩=false:=Z7 hB1 0
   have f1:wr.frozen? ⟨p1,1,none⟩=false:=Z7 hB1 1
   have f2:wr.frozen? ⟨p1,2,none⟩=false:=Z7 hB1 2
   have f3:wr.frozen? ⟨p1,3,none⟩=false:=Z7 hB1 3
   have r0:wr.cell? ⟨p1,0,none⟩=some (.int .u8 0):=Z1 hB1 0
   have r1:wr.cell? ⟨p1,1,none⟩=some (.int .i64 0):=Z1 hB1 1
   have r2:wr.cell? ⟨p1,2,none⟩=some (.string ⟨#[]⟩):=Z1 hB1 2
   have r3:wr.cell? ⟨p1,3,none⟩=some (.bool false):=Z1 hB1 3
   have c0:wr.cell? ⟨p2,0,none⟩=some (.int .u8 1):=Z1 hB2 0
   have c2:wr.cell? ⟨p2,2,none⟩=some (.string ⟨#[]⟩):=Z1 hB2 2
   have c3:wr.cell? ⟨p2,3,none⟩=some (.bool false):=Z1 hB2 3
   have hne:p1 ≠ p2:=by omega
   clear hQ HB1 HB2 HQ0 hB1 hB2
   go_wp2_with fail
   go_region
   have HQ4:Hid (Quiet w (fourSet wr p1 (.int .u8 1) (.int .i64 (soI i 8)) (.string ⟨#[]⟩) (.bool false)).drew):=(HQ.out.trans' (Zy wr p1 _ _ _ _) (fun k hk e=>by omega)).drew
   have HX:Hid ((fourSet wr p1 (.int .u8 1) (.int .i64 (soI i 8)) (.string ⟨#[]⟩) (.bool false)).drew.heap[p1]?=some (.cells #[.int .u8 1,.int .i64 (soI i 8),.string ⟨#[]⟩,.bool false] 32 (0,0))):=Z00 HB1'.out _ _ _ _
   rw [Zee hi1 hi2] at HQ4 HX
   have HR4:=zh (HBH.out.kept HQ4.out (fun _ _ x=>x))
   unfold fourSet at HQ4 HX HR4
   (try rw [Zee hi1 hi2])
   clear HQ HB1' HB2' f0 f1 f2 f3 r0 r1 r2 r3 c0 c2 c3 c1
   go_wp2
   all_goals (have hnn:=HN.out)
   all_goals first | exact bodyPost_ret (Z0s Tryz.results115 _ _ p1 _ _ (0,0) _ (by rfl) HX.out Tryz.underlying32 rfl Z1G) (by rfl) ⟨_,_,by (have e:t.length=n - 8:=by omega);rw [e];first | done | rfl,HQ4.out,HR4.out,by omega,by unfold maxLen;omega⟩ | exact bodyPost_ret (Z0s Tryz.results115 _ _ p1 _ _ (0,0) _ (by rfl) HX.out Tryz.underlying32 rfl Z1G) (by rfl) ⟨_,_,by (have e:t.length=n - 8:=by omega);rw [e];first | done | rfl,HQ4.out,HR5.out _ _ (by omega),by omega,by unfold maxLen;omega⟩
theorem Zbr {w:World} {S:Nat->Prop} {b off c n:Nat} {bv:Bool} {t:List Nat} (hr:Rd w S 1 (some ⟨b,off,none⟩) n (Z9 ((if bv then 1 else 0) :: t))) (hn:n=1+t.length) (hc:n <= c) (hm:c <= maxLen) :
  Calls Tryz.prog 115 #[.int .u8 3,.slice (some ⟨b,off,none⟩) n c] w (Z6n w S ⟨3,0,⟨#[]⟩,bv⟩ t):=by
 have HBH:=zh (Rd.behind (l:=[if bv then 1 else 0]) hr rfl hn)
 have hn1:1 <= n:=by omega
 have HN:=zh hn
 have HR5:Hid (∀ W A,t.length=0->Rd W S 1 A t.length (Z9 t)):=fun W A h=>by
  rw [List.eq_nil_of_length_eq_zero h]
  exact ⟨rfl,fun hp=>absurd hp (Nat.lt_irrefl _)⟩
 obtain ⟨b',off',u,e,_,hu,hcl⟩:=hr.get (k:=0) (by omega)
 injection e with e
 injection e with e1 e2
 subst e1 e2
 rw [Nat.add_zero] at hcl
 unfold maxLen at hm
 have hnz:((n:Int) == 0)=false:=by simp;omega
 clear hr hn
 cases bv with
 | true =>
  obtain rfl:Value.int .u8 1=u:=Option.some.inj hu
  have lb:=Zf hcl
  dsimp only at lb
  have hq0:Quiet w ((w.alloc (.cells #[.int .u8 0,.int .i64 0,.string ⟨#[]⟩,.bool false] 32)).alloc (.cells #[.int .u8 3,.int .i64 0,.string ⟨#[]⟩,.bool false] 32)):=((Z0.refl _ _).alloc _).alloc _
  have hb1:=Zd (Z4 w (.cells #[.int .u8 0,.int .i64 0,.string ⟨#[]⟩,.bool false] 32)) (.cells #[.int .u8 3,.int .i64 0,.string ⟨#[]⟩,.bool false] 32)
  have hb2:=Z4 (w.alloc (.cells #[.int .u8 0,.int .i64 0,.string ⟨#[]⟩,.bool false] 32)) (.cells #[.int .u8 3,.int .i64 0,.string ⟨#[]⟩,.bool false] 32)
  rw [World.size_alloc] at hb2
  obtain ⟨p1,hp1⟩:∃ p1,w.heap.size=p1:=⟨_,rfl⟩
  obtain ⟨p2,hp2⟩:∃ p2,w.heap.size+1=p2:=⟨_,rfl⟩
  have hp12:p1+1=p2:=by omega
  rw [hp2] at hb2
  rw [hp1] at hb1
  have hb1':=Zd (Z4 w (.cells #[.int .u8 0,.int .i64 0,.string ⟨#[]⟩,.bool false] 32)) (.cells #[.int .u8 3,.int .i64 0,.string ⟨#[]⟩,.bool true] 32)
  have hb2':=Z4 (w.alloc (.cells #[.int .u8 0,.int .i64 0,.string ⟨#[]⟩,.bool false] 32)) (.cells #[.int .u8 3,.int .i64 0,.string ⟨#[]⟩,.bool true] 32)
  rw [World.size_alloc] at hb2'
  rw [hp2] at hb2'
  rw [hp1] at hb1'
  have HB1:=zh hb1'
  have HB2:=zh hb2'
  have HQ2:Hid (Quiet w ((w.alloc (.cells #[.int .u8 0,.int .i64 0,.string ⟨#[]⟩,.bool false] 32)).alloc (.cells #[.int .u8 3,.int .i64 0,.string ⟨#[]⟩,.bool true] 32))):=((Z0.refl _ _).alloc _).alloc _
  have h1n:(1:Int) <= (n:Int):=by omega
  have hcl0:=hq0.cell hcl (fun x=>x)
  clear hu hq0 hb1 hb2 hb1' hb2'
  have n1:¬ b=p1:=by omega
  have n2:¬ b=p2:=by omega
  have n3:¬ b=w.heap.size:=by omega
  have n4:¬ b=w.heap.size+1:=by omega
  have n5:¬ b=p1+1:=by omega
  go_enter Tryz.func115,Tryz.ntmps115
  go_upto_region 20 with fail
  (try simp only [World.size_alloc] at *)
  (try rw [hp2])
  (try rw [hp1])
  (try rw [hp12])
  clear hcl0
  generalize (w.alloc (.cells #[.int .u8 0,.int .i64 0,.string ⟨#[]⟩,.bool false] 32)).alloc (.cells #[.int .u8 3,.int .i64 0,.string ⟨#[]⟩,.bool true] 32)=wr at *
  have f0:wr.frozen? ⟨p1,0,none⟩=false:=Z7 HB1.out 0
  have f1:wr.frozen? ⟨p1,1,none⟩=false:=Z7 HB1.out 1
  have f2:wr.frozen? ⟨p1,2,none⟩=false:=Z7 HB1.out 2
  have f3:wr.frozen? ⟨p1,3,none⟩=false:=Z7 HB1.out 3
  have r0:wr.cell? ⟨p1,0,none⟩=some (.int .u8 0):=Z1 HB1.out 0
  have r1:wr.cell? ⟨p1,1,none⟩=some (.int .i64 0):=Z1 HB1.out 1
  have r2:wr.cell? ⟨p1,2,none⟩=some (.string ⟨#[]⟩):=Z1 HB1.out 2
  have r3:wr.cell? ⟨p1,3,none⟩=some (.bool false):=Z1 HB1.out 3
  have c0:wr.cell? ⟨p2,0,none⟩=some (.int .u8 3):=Z1 HB2.out 0
  have c1:wr.cell? ⟨p2,1,none⟩=some (.int .i64 0):=Z1 HB2.out 1
  have c2:wr.cell? ⟨p2,2,none⟩=some (.string ⟨#[]⟩):=Z1 HB2.out 2
  have c3:wr.cell? ⟨p2,3,none⟩=some (.bool true):=Z1 HB2.out 3
  have lp2:=Z2 HB2.out
  have hne:p1 ≠ p2:=by omega
  clear hcl lb n1 n2 n3 n4 n5
  go_region
  have HQ4:Hid (Quiet w (fourSet wr p1 (.int .u8 3) (.int .i64 0) (.string ⟨#[]⟩) (.bool true)).drew):=(HQ2.out.trans' (Zy wr p1 _ _ _ _) (fun k hk e=>by omega)).drew
  have HX:Hid ((fourSet wr p1 (.int .u8 3) (.int .i64 0) (.string ⟨#[]⟩) (.bool true)).drew.heap[p1]?=some (.cells #[.int .u8 3,.int .i64 0,.string ⟨#[]⟩,.bool true] 32 (0,0))):=Z00 HB1.out _ _ _ _
  have HR4:=zh (HBH.out.kept HQ4.out (fun _ _ x=>x))
  unfold fourSet at HQ4 HX HR4
  clear f0 f1 f2 f3 r0 r1 r2 r3 c0 c1 c2 c3 hp1 hp2 hp12
  go_wp2
  all_goals (have hnn:=HN.out)
  all_goals first | exact bodyPost_ret (Z0s Tryz.results115 _ _ p1 _ _ (0,0) _ (by rfl) HX.out Tryz.underlying32 rfl Z1G) (by rfl) ⟨_,_,by (have e:t.length=n - 1:=by omega);rw [e];first | done | rfl,HQ4.out,HR4.out,by omega,by unfold maxLen;omega⟩ | exact bodyPost_ret (Z0s Tryz.results115 _ _ p1 _ _ (0,0) _ (by rfl) HX.out Tryz.underlying32 rfl Z1G) (by rfl) ⟨_,_,by (have e:t.length=n - 1:=by omega);rw [e];first | done | rfl,HQ4.out,HR5.out _ _ (by omega),by omega,by unfold maxLen;omega⟩
 | false =>
  obtain rfl:Value.int .u8 0=u:=Option.some.inj hu
  have lb:=Zf hcl
  dsimp only at lb
  have hq0:Quiet w ((w.alloc (.cells #[.int .u8 0,.int .i64 0,.string ⟨#[]⟩,.bool false] 32)).alloc (.cells #[.int .u8 3,.int .i64 0,.string ⟨#[]⟩,.bool false] 32)):=((Z0.refl _ _).alloc _).alloc _
  have hb1:=Zd (Z4 w (.cells #[.int .u8 0,.int .i64 0,.string ⟨#[]⟩,.bool false] 32)) (.cells #[.int .u8 3,.int .i64 0,.string ⟨#[]⟩,.bool false] 32)
  have hb2:=Z4 (w.alloc (.cells #[.int .u8 0,.int .i64 0,.string ⟨#[]⟩,.bool false] 32)) (.cells #[.int .u8 3,.int .i64 0,.string ⟨#[]⟩,.bool false] 32)
  rw [World.size_alloc] at hb2
  obtain ⟨p1,hp1⟩:∃ p1,w.heap.size=p1:=⟨_,rfl⟩
  obtain ⟨p2,hp2⟩:∃ p2,w.heap.size+1=p2:=⟨_,rfl⟩
  have hp12:p1+1=p2:=by omega
  rw [hp2] at hb2
  rw [hp1] at hb1
  have hb1':=Zd (Z4 w (.cells #[.int .u8 0,.int .i64 0,.string ⟨#[]⟩,.bool false] 32)) (.cells #[.int .u8 3,.int .i64 0,.string ⟨#[]⟩,.bool false] 32)
  have hb2':=Z4 (w.alloc (.cells #[.int .u8 0,.int .i64 0,.string ⟨#[]⟩,.bool false] 32)) (.cells #[.int .u8 3,.int .i64 0,.string ⟨#[]⟩,.bool false] 32)
  rw [World.size_alloc] at hb2'
  rw [hp2] at hb2'
  rw [hp1] at hb1'
  have HB1:=zh hb1'
  have HB2:=zh hb2'
  have HQ2:Hid (Quiet w ((w.alloc (.cells #[.int .u8 0,.int .i64 0,.string ⟨#[]⟩,.bool false] 32)).alloc (.cells #[.int .u8 3,.int .i64 0,.string ⟨#[]⟩,.bool false] 32))):=((Z0.refl _ _).alloc _).alloc _
  have h1n:(1:Int) <= (n:Int):=by omega
  have hcl0:=hq0.cell hcl (fun x=>x)
  clear hu hq0 hb1 hb2 hb1' hb2'
  have n1:¬ b=p1:=by omega
  have n2:¬ b=p2:=by omega
  have n3:¬ b=w.heap.size:=by omega
  have n4:¬ b=w.heap.size+1:=by omega
  have n5:¬ b=p1+1:=by omega
  go_enter Tryz.func115,Tryz.ntmps115
  go_upto_region 20 with fail
  (try simp only [World.size_alloc] at *)
  (try rw [hp2])
  (try rw [hp1])
  (try rw [hp12])
  clear hcl0
  generalize (w.alloc (.cells #[.int .u8 0,.int .i64 0,.string ⟨#[]⟩,.bool false] 32)).alloc (.cells #[.int .u8 3,.int .i64 0,.string ⟨#[]⟩,.bool false] 32)=wr at *
  have f0:wr.frozen? ⟨p1,0,none⟩=false:=Z7 HB1.out 0
  have f1:wr.frozen? ⟨p1,1,none⟩=false:=Z7 HB1.out 1
  have f2:wr.frozen? ⟨p1,2,none⟩=false:=Z7 HB1.out 2
  have f3:wr.frozen? ⟨p1,3,none⟩=false:=Z7 HB1.out 3
  have r0:wr.cell? ⟨p1,0,none⟩=some (.int .u8 0):=Z1 HB1.out 0
  have r1:wr.cell? ⟨p1,1,none⟩=some (.int .i64 0):=Z1 HB1.out 1
  have r2:wr.cell? ⟨p1,2,none⟩=some (.string ⟨#[]⟩):=Z1 HB1.out 2
  have r3:wr.cell? ⟨p1,3,none⟩=some (.bool false):=Z1 HB1.out 3
  have c0:wr.cell? ⟨p2,0,none⟩=some (.int .u8 3):=Z1 HB2.out 0
  have c1:wr.cell? ⟨p2,1,none⟩=some (.int .i64 0):=Z1 HB2.out 1
  have c2:wr.cell? ⟨p2,2,none⟩=some (.string ⟨#[]⟩):=Z1 HB2.out 2
  have c3:wr.cell? ⟨p2,3,none⟩=some (.bool false):=Z1 HB2.out 3
  have lp2:=Z2 HB2.out
  have hne:p1 ≠ p2:=by omega
  clear hcl lb n1 n2 n3 n4 n5
  go_region
  have HQ4:Hid (Quiet w (fourSet wr p1 (.int .u8 3) (.int .i64 0) (.string ⟨#[]⟩) (.bool false)).drew):=(HQ2.out.trans' (Zy wr p1 _ _ _ _) (fun k hk e=>by omega)).drew
  have HX:Hid ((fourSet wr p1 (.int .u8 3) (.int .i64 0) (.string ⟨#[]⟩) (.bool false)).drew.heap[p1]?=some (.cells #[.int .u8 3,.int .i64 0,.string ⟨#[]⟩,.bool false] 32 (0,0))):=Z00 HB1.out _ _ _ _
  have HR4:=zh (HBH.out.kept HQ4.out (fun _ _ x=>x))
  unfold fourSet at HQ4 HX HR4
  clear f0 f1 f2 f3 r0 r1 r2 r3 c0 c1 c2 c3 hp1 hp2 hp12
  go_wp2
  all_goals (have hnn:=HN.out)
  all_goals first | exact bodyPost_ret (Z0s Tryz.results115 _ _ p1 _ _ (0,0) _ (by rfl) HX.out Tryz.underlying32 rfl Z1G) (by rfl) ⟨_,_,by (have e:t.length=n - 1:=by omega);rw [e];first | done | rfl,HQ4.out,HR4.out,by omega,by unfold maxLen;omega⟩ | exact bodyPost_ret (Z0s Tryz.results115 _ _ p1 _ _ (0,0) _ (by rfl) HX.out Tryz.underlying32 rfl Z1G) (by rfl) ⟨_,_,by (have e:t.length=n - 1:=by omega);rw [e];first | done | rfl,HQ4.out,HR5.out _ _ (by omega),by omega,by unfold maxLen;omega⟩
def Z0C (s:ByteArray):List Nat:=s.data.toList.map (fun b=>b.toNat)
theorem Z1o (s:ByteArray):(Z0C s).length=s.size:=by
 unfold Z0C
 rw [List.length_map,Array.length_toList]
 rfl
theorem Z4T (s:ByteArray):∀ x ∈ Z0C s,x < 256:=by
 intro x hx
 obtain ⟨b,_,rfl⟩:=List.mem_map.1 hx
 exact UInt8.toNat_lt b
theorem Z30 (s:ByteArray):Go.Lap.strOf (Z0C s)=s:=by
 unfold Go.Lap.strOf Z0C
 rw [List.map_map]
 have:(UInt8.ofNat ∘ fun b:UInt8=>b.toNat)=id:=by
  funext b
  simp
 rw [this,List.map_id]
theorem Za2 {w:World} {S:Nat->Prop} {b off c n:Nat} {s:ByteArray} {t:List Nat} (hU:U8 w) (hs:Zt ⟨2,0,s,false⟩=true) (hs60:s.size <= 60) (hr:Rd w S 1 (some ⟨b,off,none⟩) n (Z9 ((s.size :: Z0C s) ++ t))) (hn:n=1+s.size+t.length) (hc:n <= c) (hm:c <= maxLen) (hcase:c=1) :
  Calls Tryz.prog 115 #[.int .u8 2,.slice (some ⟨b,off,none⟩) n c] w (Z6n w S ⟨2,0,s,false⟩ t):=by
 have hlen:(s.size :: Z0C s).length=1+s.size:=by rw [List.length_cons,Z1o];omega
 have HBH:=zh (Rd.behind (l:=s.size :: Z0C s) hr hlen hn)
 have HN:=zh hn
 have HTX:Hid (Rd w S 1 (some ⟨b,off+1,none⟩) (Z0C s).length (Z9 (Z0C s))):=by
  refine ⟨by rw [Z0S,Nat.mul_one],fun hp=>?_⟩
  obtain ⟨b',off',e,hsb,hcc⟩:=hr.cells (by simp [Z9])
  injection e with e
  injection e with e1 e2
  subst e1 e2
  refine ⟨b,off+1,rfl,hsb,fun j u hu=>?_⟩
  have:=hcc (1+j) u (by
    unfold Z9 at hu ⊢
    rw [Nat.add_comm 1 j,List.cons_append,List.map_cons,List.getElem?_cons_succ,List.map_append,List.getElem?_append_left (by rw [List.length_map];have:=(zi.1 hu).1;rw [List.length_map] at this;exact this)]
    exact hu)
  rw [<- Nat.add_assoc] at this
  exact this
 obtain ⟨b',off',u,e,_,hu,hcl⟩:=hr.get (k:=0) (by omega)
 injection e with e
 injection e with e1 e2
 subst e1 e2
 rw [Nat.add_zero] at hcl
 obtain rfl:Value.int .u8 (s.size:Int)=u:=Option.some.inj hu
 have lb:=Zf hcl
 dsimp only at lb
 unfold maxLen at hm
 have hcv:∀ W,Quiet w W->(convert 22 9 (.slice (some ⟨b,off+1,none⟩) s.size (c - 1))).run Tryz.prog W=.ok (.string s) W:=fun W hq=>by
  have:=Z3k (some ⟨b,off+1,none⟩) (c - 1) (Z0C s) S W (HTX.out.kept hq (fun _ _ x=>x)) (Z4T s)
  rw [Z1o,Z30] at this
  exact this
 have hq0:Quiet w ((w.alloc (.cells #[.int .u8 0,.int .i64 0,.string ⟨#[]⟩,.bool false] 32)).alloc (.cells #[.int .u8 2,.int .i64 0,.string ⟨#[]⟩,.bool false] 32)):=((Z0.refl _ _).alloc _).alloc _
 have hcv0:=hcv _ hq0
 have hcv1:c=1->(convert 22 9 (.slice (some ⟨b,off,none⟩) s.size 0)).run Tryz.prog ((w.alloc (.cells #[.int .u8 0,.int .i64 0,.string ⟨#[]⟩,.bool false] 32)).alloc (.cells #[.int .u8 2,.int .i64 0,.string ⟨#[]⟩,.bool false] 32))=.ok (.string s) ((w.alloc (.cells #[.int .u8 0,.int .i64 0,.string ⟨#[]⟩,.bool false] 32)).alloc (.cells #[.int .u8 2,.int .i64 0,.string ⟨#[]⟩,.bool false] 32)):=fun h1=>by
  have h0:(Z0C s).length=0:=by rw [Z1o];omega
  have:=Z3k (some ⟨b,off,none⟩) 0 (Z0C s) S _ (⟨by rw [Z0S,Nat.mul_one],fun hp=>absurd hp (by rw [Z0S,h0];omega)⟩:Rd ((w.alloc (.cells #[.int .u8 0,.int .i64 0,.string ⟨#[]⟩,.bool false] 32)).alloc (.cells #[.int .u8 2,.int .i64 0,.string ⟨#[]⟩,.bool false] 32)) S 1 (some ⟨b,off,none⟩) (Z0C s).length (Z9 (Z0C s))) (Z4T s)
  rw [Z1o,Z30] at this
  exact this
 obtain ⟨p1,hp1⟩:∃ p1,w.heap.size=p1:=⟨_,rfl⟩
 obtain ⟨p2,hp2⟩:∃ p2,w.heap.size+1=p2:=⟨_,rfl⟩
 have hp12:p1+1=p2:=by omega
 have hb1':=Zd (Z4 w (.cells #[.int .u8 0,.int .i64 0,.string ⟨#[]⟩,.bool false] 32)) (.cells #[.int .u8 2,.int .i64 0,.string s,.bool false] 32)
 have hb2':=Z4 (w.alloc (.cells #[.int .u8 0,.int .i64 0,.string ⟨#[]⟩,.bool false] 32)) (.cells #[.int .u8 2,.int .i64 0,.string s,.bool false] 32)
 rw [World.size_alloc] at hb2'
 rw [hp2] at hb2'
 rw [hp1] at hb1'
 have HB1:=zh hb1'
 have HB2:=zh hb2'
 have HQ2:Hid (Quiet w ((w.alloc (.cells #[.int .u8 0,.int .i64 0,.string ⟨#[]⟩,.bool false] 32)).alloc (.cells #[.int .u8 2,.int .i64 0,.string s,.bool false] 32))):=((Z0.refl _ _).alloc _).alloc _
 have HU:=zh (hU.quietly HQ2.out)
 have HS:=zh hs
 have hcl0:=hq0.cell hcl (fun x=>x)
 have HCL:=zh (HQ2.out.cell hcl (fun x=>x))
 have hnz:((n:Int) == 0)=false:=by simp;omega
 have hn0:0 < n:=by omega
 have hw1:IntKind.i64.wrap (s.size:Int)=(s.size:Int):=Zp _ (by omega) (by omega)
 have hw2:IntKind.i64.wrap (1+(s.size:Int))=1+(s.size:Int):=Zp _ (by omega) (by omega)
 have htn:(1+(s.size:Int)).toNat=1+s.size:=by omega
 have hge:(0:Int) <= 1+(s.size:Int):=by omega
 subst hcase
 have hs0:s.size=0:=by omega
 have hcvz:=hcv1 rfl
 rw [hs0] at hcvz
 have hn1:n=1:=by omega
 have hz0:IntKind.i64.wrap 0=0:=by decide
 have hz1:IntKind.i64.wrap 1=1:=by decide
 have ht0:t=[]:=List.eq_nil_of_length_eq_zero (by have:=HN.out;omega)
 have hlt:decide ((n:Int) < 1+(s.size:Int))=false:=decide_eq_false (by omega)
 have i1:(1:Int) <= 1+(s.size:Int):=by omega
 have i2:1+(s.size:Int) <= (n:Int):=by omega
 clear hr hn hu hs hU hb1' hb2' hcv hq0
 have n1:¬ b=p1:=by omega
 have n2:¬ b=p2:=by omega
 have n3:¬ b=w.heap.size:=by omega
 have n4:¬ b=w.heap.size+1:=by omega
 have n5:¬ b=p1+1:=by omega
 go_enter Tryz.func115,Tryz.ntmps115
 go_upto_region 16 with fail
 skip
 (try simp only [World.size_alloc] at *)
 (try rw [hp2])
 (try rw [hp1])
 (try rw [hp12])
 clear hcl0
 generalize (w.alloc (.cells #[.int .u8 0,.int .i64 0,.string ⟨#[]⟩,.bool false] 32)).alloc (.cells #[.int .u8 2,.int .i64 0,.string s,.bool false] 32)=wr at *
 have HS16:Hid (∀ W,Z0 (fun k=>k=p1) wr W->(fun w'=>w'.cell? ⟨p2,0,none⟩=some (.int .u8 2)/\w'.cell? ⟨p2,1,none⟩=some (.int .i64 0)/\w'.cell? ⟨p2,2,none⟩=some (.string s)/\w'.cell? ⟨p2,3,none⟩=some (.bool false)/\w'.cell? ⟨b,off,none⟩=some (.int .u8 (s.size:Int))) W):=fun W ho=>by
  have h2:=ho.get HB2.out (fun e=>by omega)
  exact ⟨by rw [Z1 h2];rfl,by rw [Z1 h2];rfl,by rw [Z1 h2];rfl,by rw [Z1 h2];rfl,ho.cell HCL.out (fun e=>n1 e)⟩
 have HRT:Hid (∀ W,Quiet wr W->Calls Tryz.prog 116 #[.agg #[.int .u8 2,.int .i64 0,.string s,.bool false]] W (Z0a W true)):=fun W hq=>by
  have:=Z2j ⟨2,0,s,false⟩ (by show s.size <= 1000000;omega) W (HU.out.quietly hq)
  rw [HS.out] at this
  exact this
 clear hcl lb n2 n3 n4 n5 hcv0 hcv1 hcvz
 refine zH HS16 (((Z0.refl _ _).drew)) (fun Z3=>?_)
 have q0:Quiet wr wr.drew:=(Z0.refl _ _).drew
 generalize wr.drew=d0 at q0 Z3 ⊢
 refine zT 0 ?_
 refine zT 1 ?_
 refine zT 2 ?_
 refine zT 3 ?_
 refine zT 4 ?_
 refine zT 5 ?_
 refine zT 6 ?_
 refine zT 7 ?_
 refine zT 8 ?_
 refine zR 9 ?_
 intro K hK
 go_simp
 go_at_call 116
 refine (HRT.out _ q0).mono ?_
 rintro e d1 ⟨rfl,hq1⟩
 have q1:=q0.trans hq1
 clear hq1
 dsimp only
 refine hK.out _ _ ?_ (fun Z3=>?_)
 ·exact HS16.out _ (q1.mono (fun _ _ x=>x.elim))
 clear hK K
 (try simp only [Act.put,zPA,zPZ,zPS])
 refine zR 10 ?_
 intro K hK
 have hb1:=q1.get HB1.out (fun x=>x)
 have f:=fun o=>Z7 hb1 o
 obtain ⟨r0,r1,r2,r3⟩:=zC4 hb1
 go_simp
 refine hK.out _ _ ?_ (fun Z3=>?_)
 ·exact HS16.out _ ((q1.mono (T:=fun k=>k=p1) (fun _ _ x=>x.elim)).trans (Zy d1 p1 _ _ _ _))
 clear hK K
 (try simp only [Act.put,zPA,zPZ,zPS])
 clear r0 r1 r2 r3 f
 refine zT 11 ?_
 refine zT 12 ?_
 refine zD ?_
 have HQ4:Hid (Quiet w (fourSet d1 p1 (.int .u8 2) (.int .i64 0) (.string s) (.bool false))):=(HQ2.out.trans q1).trans' (Zy d1 p1 _ _ _ _) (fun k hk e=>by omega)
 have HX:Hid ((fourSet d1 p1 (.int .u8 2) (.int .i64 0) (.string s) (.bool false)).heap[p1]?=some (.cells #[.int .u8 2,.int .i64 0,.string s,.bool false] 32 (0,0))):=Z00 hb1 _ _ _ _
 have HR4:=zh (HBH.out.kept HQ4.out (fun _ _ x=>x))
 unfold fourSet at HQ4 HX HR4
 clear Z3 hb1 q0 q1 HS16 HRT HB1 HB2 HU HCL hp1 hp2 hp12
 go_wp2
 all_goals (have hnn:=HN.out)
 all_goals subst ht0
 all_goals exact bodyPost_ret (Z0s Tryz.results115 _ _ p1 _ _ (0,0) _ (by rfl) HX.out Tryz.underlying32 rfl Z1G) (by rfl) ⟨_,_,by first | done | rfl | (congr 4;simp),HQ4.out,Rd.nil _ _ _ _,by first | omega | simp,by unfold maxLen;omega⟩
theorem Za3 {w:World} {S:Nat->Prop} {b off c n:Nat} {s:ByteArray} {t:List Nat} (hU:U8 w) (hs:Zt ⟨2,0,s,false⟩=true) (hs60:s.size <= 60) (hr:Rd w S 1 (some ⟨b,off,none⟩) n (Z9 ((s.size :: Z0C s) ++ t))) (hn:n=1+s.size+t.length) (hc:n <= c) (hm:c <= maxLen) (hcase:c=1+s.size/\0 < s.size) :
  Calls Tryz.prog 115 #[.int .u8 2,.slice (some ⟨b,off,none⟩) n c] w (Z6n w S ⟨2,0,s,false⟩ t):=by
 have hlen:(s.size :: Z0C s).length=1+s.size:=by rw [List.length_cons,Z1o];omega
 have HBH:=zh (Rd.behind (l:=s.size :: Z0C s) hr hlen hn)
 have HN:=zh hn
 have HTX:Hid (Rd w S 1 (some ⟨b,off+1,none⟩) (Z0C s).length (Z9 (Z0C s))):=by
  refine ⟨by rw [Z0S,Nat.mul_one],fun hp=>?_⟩
  obtain ⟨b',off',e,hsb,hcc⟩:=hr.cells (by simp [Z9])
  injection e with e
  injection e with e1 e2
  subst e1 e2
  refine ⟨b,off+1,rfl,hsb,fun j u hu=>?_⟩
  have:=hcc (1+j) u (by
    unfold Z9 at hu ⊢
    rw [Nat.add_comm 1 j,List.cons_append,List.map_cons,List.getElem?_cons_succ,List.map_append,List.getElem?_append_left (by rw [List.length_map];have:=(zi.1 hu).1;rw [List.length_map] at this;exact this)]
    exact hu)
  rw [<- Nat.add_assoc] at this
  exact this
 obtain ⟨b',off',u,e,_,hu,hcl⟩:=hr.get (k:=0) (by omega)
 injection e with e
 injection e with e1 e2
 subst e1 e2
 rw [Nat.add_zero] at hcl
 obtain rfl:Value.int .u8 (s.size:Int)=u:=Option.some.inj hu
 have lb:=Zf hcl
 dsimp only at lb
 unfold maxLen at hm
 have hcv:∀ W,Quiet w W->(convert 22 9 (.slice (some ⟨b,off+1,none⟩) s.size (c - 1))).run Tryz.prog W=.ok (.string s) W:=fun W hq=>by
  have:=Z3k (some ⟨b,off+1,none⟩) (c - 1) (Z0C s) S W (HTX.out.kept hq (fun _ _ x=>x)) (Z4T s)
  rw [Z1o,Z30] at this
  exact this
 have hq0:Quiet w ((w.alloc (.cells #[.int .u8 0,.int .i64 0,.string ⟨#[]⟩,.bool false] 32)).alloc (.cells #[.int .u8 2,.int .i64 0,.string ⟨#[]⟩,.bool false] 32)):=((Z0.refl _ _).alloc _).alloc _
 have hcv0:=hcv _ hq0
 have hcv1:c=1->(convert 22 9 (.slice (some ⟨b,off,none⟩) s.size 0)).run Tryz.prog ((w.alloc (.cells #[.int .u8 0,.int .i64 0,.string ⟨#[]⟩,.bool false] 32)).alloc (.cells #[.int .u8 2,.int .i64 0,.string ⟨#[]⟩,.bool false] 32))=.ok (.string s) ((w.alloc (.cells #[.int .u8 0,.int .i64 0,.string ⟨#[]⟩,.bool false] 32)).alloc (.cells #[.int .u8 2,.int .i64 0,.string ⟨#[]⟩,.bool false] 32)):=fun h1=>by
  have h0:(Z0C s).length=0:=by rw [Z1o];omega
  have:=Z3k (some ⟨b,off,none⟩) 0 (Z0C s) S _ (⟨by rw [Z0S,Nat.mul_one],fun hp=>absurd hp (by rw [Z0S,h0];omega)⟩:Rd ((w.alloc (.cells #[.int .u8 0,.int .i64 0,.string ⟨#[]⟩,.bool false] 32)).alloc (.cells #[.int .u8 2,.int .i64 0,.string ⟨#[]⟩,.bool false] 32)) S 1 (some ⟨b,off,none⟩) (Z0C s).length (Z9 (Z0C s))) (Z4T s)
  rw [Z1o,Z30] at this
  exact this
 obtain ⟨p1,hp1⟩:∃ p1,w.heap.size=p1:=⟨_,rfl⟩
 obtain ⟨p2,hp2⟩:∃ p2,w.heap.size+1=p2:=⟨_,rfl⟩
 have hp12:p1+1=p2:=by omega
 have hb1':=Zd (Z4 w (.cells #[.int .u8 0,.int .i64 0,.string ⟨#[]⟩,.bool false] 32)) (.cells #[.int .u8 2,.int .i64 0,.string s,.bool false] 32)
 have hb2':=Z4 (w.alloc (.cells #[.int .u8 0,.int .i64 0,.string ⟨#[]⟩,.bool false] 32)) (.cells #[.int .u8 2,.int .i64 0,.string s,.bool false] 32)
 rw [World.size_alloc] at hb2'
 rw [hp2] at hb2'
 rw [hp1] at hb1'
 have HB1:=zh hb1'
 have HB2:=zh hb2'
 have HQ2:Hid (Quiet w ((w.alloc (.cells #[.int .u8 0,.int .i64 0,.string ⟨#[]⟩,.bool false] 32)).alloc (.cells #[.int .u8 2,.int .i64 0,.string s,.bool false] 32))):=((Z0.refl _ _).alloc _).alloc _
 have HU:=zh (hU.quietly HQ2.out)
 have HS:=zh hs
 have hcl0:=hq0.cell hcl (fun x=>x)
 have HCL:=zh (HQ2.out.cell hcl (fun x=>x))
 have hnz:((n:Int) == 0)=false:=by simp;omega
 have hn0:0 < n:=by omega
 have hw1:IntKind.i64.wrap (s.size:Int)=(s.size:Int):=Zp _ (by omega) (by omega)
 have hw2:IntKind.i64.wrap (1+(s.size:Int))=1+(s.size:Int):=Zp _ (by omega) (by omega)
 have htn:(1+(s.size:Int)).toNat=1+s.size:=by omega
 have hge:(0:Int) <= 1+(s.size:Int):=by omega
 obtain ⟨rfl,hpos⟩:=hcase
 have hc1:¬ (1+s.size)=1:=by omega
 have hc2:¬ s.size=0:=by omega
 have hcv2:=hcv0
 rw [show 1+s.size - 1=s.size by omega] at hcv2
 have ht0:t=[]:=List.eq_nil_of_length_eq_zero (by have:=HN.out;omega)
 have hlt:decide ((n:Int) < 1+(s.size:Int))=false:=decide_eq_false (by omega)
 have i1:(1:Int) <= 1+(s.size:Int):=by omega
 have i2:1+(s.size:Int) <= (n:Int):=by omega
 clear hr hn hu hs hU hb1' hb2' hcv hq0
 have n1:¬ b=p1:=by omega
 have n2:¬ b=p2:=by omega
 have n3:¬ b=w.heap.size:=by omega
 have n4:¬ b=w.heap.size+1:=by omega
 have n5:¬ b=p1+1:=by omega
 go_enter Tryz.func115,Tryz.ntmps115
 go_upto_region 16 with fail
 skip
 (try simp only [World.size_alloc] at *)
 (try rw [hp2])
 (try rw [hp1])
 (try rw [hp12])
 clear hcl0
 generalize (w.alloc (.cells #[.int .u8 0,.int .i64 0,.string ⟨#[]⟩,.bool false] 32)).alloc (.cells #[.int .u8 2,.int .i64 0,.string s,.bool false] 32)=wr at *
 have HS16:Hid (∀ W,Z0 (fun k=>k=p1) wr W->(fun w'=>w'.cell? ⟨p2,0,none⟩=some (.int .u8 2)/\w'.cell? ⟨p2,1,none⟩=some (.int .i64 0)/\w'.cell? ⟨p2,2,none⟩=some (.string s)/\w'.cell? ⟨p2,3,none⟩=some (.bool false)/\w'.cell? ⟨b,off,none⟩=some (.int .u8 (s.size:Int))) W):=fun W ho=>by
  have h2:=ho.get HB2.out (fun e=>by omega)
  exact ⟨by rw [Z1 h2];rfl,by rw [Z1 h2];rfl,by rw [Z1 h2];rfl,by rw [Z1 h2];rfl,ho.cell HCL.out (fun e=>n1 e)⟩
 have HRT:Hid (∀ W,Quiet wr W->Calls Tryz.prog 116 #[.agg #[.int .u8 2,.int .i64 0,.string s,.bool false]] W (Z0a W true)):=fun W hq=>by
  have:=Z2j ⟨2,0,s,false⟩ (by show s.size <= 1000000;omega) W (HU.out.quietly hq)
  rw [HS.out] at this
  exact this
 clear hcl lb n2 n3 n4 n5 hcv0 hcv1 hcv2
 refine zH HS16 (((Z0.refl _ _).drew)) (fun Z3=>?_)
 have q0:Quiet wr wr.drew:=(Z0.refl _ _).drew
 generalize wr.drew=d0 at q0 Z3 ⊢
 refine zT 0 ?_
 refine zT 1 ?_
 refine zT 2 ?_
 refine zT 3 ?_
 refine zT 4 ?_
 refine zT 5 ?_
 refine zT 6 ?_
 refine zT 7 ?_
 refine zT 8 ?_
 refine zR 9 ?_
 intro K hK
 go_simp
 go_at_call 116
 refine (HRT.out _ q0).mono ?_
 rintro e d1 ⟨rfl,hq1⟩
 have q1:=q0.trans hq1
 clear hq1
 dsimp only
 refine hK.out _ _ ?_ (fun Z3=>?_)
 ·exact HS16.out _ (q1.mono (fun _ _ x=>x.elim))
 clear hK K
 (try simp only [Act.put,zPA,zPZ,zPS])
 refine zR 10 ?_
 intro K hK
 have hb1:=q1.get HB1.out (fun x=>x)
 have f:=fun o=>Z7 hb1 o
 obtain ⟨r0,r1,r2,r3⟩:=zC4 hb1
 go_simp
 refine hK.out _ _ ?_ (fun Z3=>?_)
 ·exact HS16.out _ ((q1.mono (T:=fun k=>k=p1) (fun _ _ x=>x.elim)).trans (Zy d1 p1 _ _ _ _))
 clear hK K
 (try simp only [Act.put,zPA,zPZ,zPS])
 clear r0 r1 r2 r3 f
 refine zT 11 ?_
 refine zT 12 ?_
 refine zD ?_
 have HQ4:Hid (Quiet w (fourSet d1 p1 (.int .u8 2) (.int .i64 0) (.string s) (.bool false))):=(HQ2.out.trans q1).trans' (Zy d1 p1 _ _ _ _) (fun k hk e=>by omega)
 have HX:Hid ((fourSet d1 p1 (.int .u8 2) (.int .i64 0) (.string s) (.bool false)).heap[p1]?=some (.cells #[.int .u8 2,.int .i64 0,.string s,.bool false] 32 (0,0))):=Z00 hb1 _ _ _ _
 have HR4:=zh (HBH.out.kept HQ4.out (fun _ _ x=>x))
 unfold fourSet at HQ4 HX HR4
 clear Z3 hb1 q0 q1 HS16 HRT HB1 HB2 HU HCL hp1 hp2 hp12
 go_wp2
 all_goals (have hnn:=HN.out)
 all_goals subst ht0
 all_goals exact bodyPost_ret (Z0s Tryz.results115 _ _ p1 _ _ (0,0) _ (by rfl) HX.out Tryz.underlying32 rfl Z1G) (by rfl) ⟨_,_,by first | done | rfl | (congr 4;simp),HQ4.out,Rd.nil _ _ _ _,by first | omega | simp,by unfold maxLen;omega⟩
theorem Za4 {w:World} {S:Nat->Prop} {b off c n:Nat} {s:ByteArray} {t:List Nat} (hU:U8 w) (hs:Zt ⟨2,0,s,false⟩=true) (hs60:s.size <= 60) (hr:Rd w S 1 (some ⟨b,off,none⟩) n (Z9 ((s.size :: Z0C s) ++ t))) (hn:n=1+s.size+t.length) (hc:n <= c) (hm:c <= maxLen) (hcase:1+s.size < c) :
  Calls Tryz.prog 115 #[.int .u8 2,.slice (some ⟨b,off,none⟩) n c] w (Z6n w S ⟨2,0,s,false⟩ t):=by
 have hlen:(s.size :: Z0C s).length=1+s.size:=by rw [List.length_cons,Z1o];omega
 have HBH:=zh (Rd.behind (l:=s.size :: Z0C s) hr hlen hn)
 have HN:=zh hn
 have HTX:Hid (Rd w S 1 (some ⟨b,off+1,none⟩) (Z0C s).length (Z9 (Z0C s))):=by
  refine ⟨by rw [Z0S,Nat.mul_one],fun hp=>?_⟩
  obtain ⟨b',off',e,hsb,hcc⟩:=hr.cells (by simp [Z9])
  injection e with e
  injection e with e1 e2
  subst e1 e2
  refine ⟨b,off+1,rfl,hsb,fun j u hu=>?_⟩
  have:=hcc (1+j) u (by
    unfold Z9 at hu ⊢
    rw [Nat.add_comm 1 j,List.cons_append,List.map_cons,List.getElem?_cons_succ,List.map_append,List.getElem?_append_left (by rw [List.length_map];have:=(zi.1 hu).1;rw [List.length_map] at this;exact this)]
    exact hu)
  rw [<- Nat.add_assoc] at this
  exact this
 obtain ⟨b',off',u,e,_,hu,hcl⟩:=hr.get (k:=0) (by omega)
 injection e with e
 injection e with e1 e2
 subst e1 e2
 rw [Nat.add_zero] at hcl
 obtain rfl:Value.int .u8 (s.size:Int)=u:=Option.some.inj hu
 have lb:=Zf hcl
 dsimp only at lb
 unfold maxLen at hm
 have hcv:∀ W,Quiet w W->(convert 22 9 (.slice (some ⟨b,off+1,none⟩) s.size (c - 1))).run Tryz.prog W=.ok (.string s) W:=fun W hq=>by
  have:=Z3k (some ⟨b,off+1,none⟩) (c - 1) (Z0C s) S W (HTX.out.kept hq (fun _ _ x=>x)) (Z4T s)
  rw [Z1o,Z30] at this
  exact this
 have hq0:Quiet w ((w.alloc (.cells #[.int .u8 0,.int .i64 0,.string ⟨#[]⟩,.bool false] 32)).alloc (.cells #[.int .u8 2,.int .i64 0,.string ⟨#[]⟩,.bool false] 32)):=((Z0.refl _ _).alloc _).alloc _
 have hcv0:=hcv _ hq0
 have hcv1:c=1->(convert 22 9 (.slice (some ⟨b,off,none⟩) s.size 0)).run Tryz.prog ((w.alloc (.cells #[.int .u8 0,.int .i64 0,.string ⟨#[]⟩,.bool false] 32)).alloc (.cells #[.int .u8 2,.int .i64 0,.string ⟨#[]⟩,.bool false] 32))=.ok (.string s) ((w.alloc (.cells #[.int .u8 0,.int .i64 0,.string ⟨#[]⟩,.bool false] 32)).alloc (.cells #[.int .u8 2,.int .i64 0,.string ⟨#[]⟩,.bool false] 32)):=fun h1=>by
  have h0:(Z0C s).length=0:=by rw [Z1o];omega
  have:=Z3k (some ⟨b,off,none⟩) 0 (Z0C s) S _ (⟨by rw [Z0S,Nat.mul_one],fun hp=>absurd hp (by rw [Z0S,h0];omega)⟩:Rd ((w.alloc (.cells #[.int .u8 0,.int .i64 0,.string ⟨#[]⟩,.bool false] 32)).alloc (.cells #[.int .u8 2,.int .i64 0,.string ⟨#[]⟩,.bool false] 32)) S 1 (some ⟨b,off,none⟩) (Z0C s).length (Z9 (Z0C s))) (Z4T s)
  rw [Z1o,Z30] at this
  exact this
 obtain ⟨p1,hp1⟩:∃ p1,w.heap.size=p1:=⟨_,rfl⟩
 obtain ⟨p2,hp2⟩:∃ p2,w.heap.size+1=p2:=⟨_,rfl⟩
 have hp12:p1+1=p2:=by omega
 have hb1':=Zd (Z4 w (.cells #[.int .u8 0,.int .i64 0,.string ⟨#[]⟩,.bool false] 32)) (.cells #[.int .u8 2,.int .i64 0,.string s,.bool false] 32)
 have hb2':=Z4 (w.alloc (.cells #[.int .u8 0,.int .i64 0,.string ⟨#[]⟩,.bool false] 32)) (.cells #[.int .u8 2,.int .i64 0,.string s,.bool false] 32)
 rw [World.size_alloc] at hb2'
 rw [hp2] at hb2'
 rw [hp1] at hb1'
 have HB1:=zh hb1'
 have HB2:=zh hb2'
 have HQ2:Hid (Quiet w ((w.alloc (.cells #[.int .u8 0,.int .i64 0,.string ⟨#[]⟩,.bool false] 32)).alloc (.cells #[.int .u8 2,.int .i64 0,.string s,.bool false] 32))):=((Z0.refl _ _).alloc _).alloc _
 have HU:=zh (hU.quietly HQ2.out)
 have HS:=zh hs
 have hcl0:=hq0.cell hcl (fun x=>x)
 have HCL:=zh (HQ2.out.cell hcl (fun x=>x))
 have hnz:((n:Int) == 0)=false:=by simp;omega
 have hn0:0 < n:=by omega
 have hw1:IntKind.i64.wrap (s.size:Int)=(s.size:Int):=Zp _ (by omega) (by omega)
 have hw2:IntKind.i64.wrap (1+(s.size:Int))=1+(s.size:Int):=Zp _ (by omega) (by omega)
 have htn:(1+(s.size:Int)).toNat=1+s.size:=by omega
 have hge:(0:Int) <= 1+(s.size:Int):=by omega
 have hc1:¬ c=1:=by omega
 have hc2:¬ c - 1=0:=by omega
 have hc3:¬ c=1+s.size:=by omega
 have hlt:decide ((n:Int) < 1+(s.size:Int))=false:=decide_eq_false (by omega)
 have i1:(1:Int) <= 1+(s.size:Int):=by omega
 have i2:1+(s.size:Int) <= (n:Int):=by omega
 clear hr hn hu hs hU hb1' hb2' hcv hq0
 have n1:¬ b=p1:=by omega
 have n2:¬ b=p2:=by omega
 have n3:¬ b=w.heap.size:=by omega
 have n4:¬ b=w.heap.size+1:=by omega
 have n5:¬ b=p1+1:=by omega
 go_enter Tryz.func115,Tryz.ntmps115
 go_upto_region 16 with fail
 skip
 (try simp only [World.size_alloc] at *)
 (try rw [hp2])
 (try rw [hp1])
 (try rw [hp12])
 clear hcl0
 generalize (w.alloc (.cells #[.int .u8 0,.int .i64 0,.string ⟨#[]⟩,.bool false] 32)).alloc (.cells #[.int .u8 2,.int .i64 0,.string s,.bool false] 32)=wr at *
 have HS16:Hid (∀ W,Z0 (fun k=>k=p1) wr W->(fun w'=>w'.cell? ⟨p2,0,none⟩=some (.int .u8 2)/\w'.cell? ⟨p2,1,none⟩=some (.int .i64 0)/\w'.cell? ⟨p2,2,none⟩=some (.string s)/\w'.cell? ⟨p2,3,none⟩=some (.bool false)/\w'.cell? ⟨b,off,none⟩=some (.int .u8 (s.size:Int))) W):=fun W ho=>by
  have h2:=ho.get HB2.out (fun e=>by omega)
  exact ⟨by rw [Z1 h2];rfl,by rw [Z1 h2];rfl,by rw [Z1 h2];rfl,by rw [Z1 h2];rfl,ho.cell HCL.out (fun e=>n1 e)⟩
 have HRT:Hid (∀ W,Quiet wr W->Calls Tryz.prog 116 #[.agg #[.int .u8 2,.int .i64 0,.string s,.bool false]] W (Z0a W true)):=fun W hq=>by
  have:=Z2j ⟨2,0,s,false⟩ (by show s.size <= 1000000;omega) W (HU.out.quietly hq)
  rw [HS.out] at this
  exact this
 clear hcl lb n2 n3 n4 n5 hcv0 hcv1
 refine zH HS16 (((Z0.refl _ _).drew)) (fun Z3=>?_)
 have q0:Quiet wr wr.drew:=(Z0.refl _ _).drew
 generalize wr.drew=d0 at q0 Z3 ⊢
 refine zT 0 ?_
 refine zT 1 ?_
 refine zT 2 ?_
 refine zT 3 ?_
 refine zT 4 ?_
 refine zT 5 ?_
 refine zT 6 ?_
 refine zT 7 ?_
 refine zT 8 ?_
 refine zR 9 ?_
 intro K hK
 go_simp
 go_at_call 116
 refine (HRT.out _ q0).mono ?_
 rintro e d1 ⟨rfl,hq1⟩
 have q1:=q0.trans hq1
 clear hq1
 dsimp only
 refine hK.out _ _ ?_ (fun Z3=>?_)
 ·exact HS16.out _ (q1.mono (fun _ _ x=>x.elim))
 clear hK K
 (try simp only [Act.put,zPA,zPZ,zPS])
 refine zR 10 ?_
 intro K hK
 have hb1:=q1.get HB1.out (fun x=>x)
 have f:=fun o=>Z7 hb1 o
 obtain ⟨r0,r1,r2,r3⟩:=zC4 hb1
 go_simp
 refine hK.out _ _ ?_ (fun Z3=>?_)
 ·exact HS16.out _ ((q1.mono (T:=fun k=>k=p1) (fun _ _ x=>x.elim)).trans (Zy d1 p1 _ _ _ _))
 clear hK K
 (try simp only [Act.put,zPA,zPZ,zPS])
 clear r0 r1 r2 r3 f
 refine zT 11 ?_
 refine zT 12 ?_
 refine zD ?_
 have HQ4:Hid (Quiet w (fourSet d1 p1 (.int .u8 2) (.int .i64 0) (.string s) (.bool false))):=(HQ2.out.trans q1).trans' (Zy d1 p1 _ _ _ _) (fun k hk e=>by omega)
 have HX:Hid ((fourSet d1 p1 (.int .u8 2) (.int .i64 0) (.string s) (.bool false)).heap[p1]?=some (.cells #[.int .u8 2,.int .i64 0,.string s,.bool false] 32 (0,0))):=Z00 hb1 _ _ _ _
 have HR4:=zh (HBH.out.kept HQ4.out (fun _ _ x=>x))
 unfold fourSet at HQ4 HX HR4
 clear Z3 hb1 q0 q1 HS16 HRT HB1 HB2 HU HCL hp1 hp2 hp12
 go_wp2
 all_goals (have hnn:=HN.out)
 all_goals exact bodyPost_ret (Z0s Tryz.results115 _ _ p1 _ _ (0,0) _ (by rfl) HX.out Tryz.underlying32 rfl Z1G) (by rfl) ⟨_,_,by (have e:t.length=n - (1+s.size):=by omega);rw [e];first | done | rfl,HQ4.out,HR4.out,by omega,by unfold maxLen;omega⟩
theorem Zbs {w:World} {S:Nat->Prop} {b off c n:Nat} {s:ByteArray} {t:List Nat} (hU:U8 w) (hs:Zt ⟨2,0,s,false⟩=true) (hs60:s.size <= 60) (hr:Rd w S 1 (some ⟨b,off,none⟩) n (Z9 ((s.size :: Z0C s) ++ t))) (hn:n=1+s.size+t.length) (hc:n <= c) (hm:c <= maxLen) :
  Calls Tryz.prog 115 #[.int .u8 2,.slice (some ⟨b,off,none⟩) n c] w (Z6n w S ⟨2,0,s,false⟩ t):=by
 by_cases h1:c=1
 ·exact Za2 hU hs hs60 hr hn hc hm h1
 ·by_cases h2:c=1+s.size
  ·exact Za3 hU hs hs60 hr hn hc hm ⟨h2,by omega⟩
  ·exact Za4 hU hs hs60 hr hn hc hm (by omega)
def ZcE (v:RV):Prop:=-9223372036854775808 <= v.i/\v.i <= 9223372036854775807
theorem Z1U {v:RV} (h:Zt v=true):v.s.size <= 60/\(v.k=0/\v=Z7L ∨ v.k=1/\v=⟨1,v.i,⟨#[]⟩,false⟩ ∨ v.k=2/\v=⟨2,0,v.s,false⟩ ∨ v.k=3/\v=⟨3,0,⟨#[]⟩,v.b⟩):=by
 obtain ⟨k,i,s,b⟩:=v
 unfold Zt Z1y Z4c at h
 rw [Bool.and_eq_true,Bool.and_eq_true,Bool.and_eq_true] at h
 obtain ⟨h1,⟨h2,_⟩,_⟩:=h
 refine ⟨of_decide_eq_true h2,?_⟩
 rcases k with _ | _ | _ | _ | k
 ·simp at h1
  obtain ⟨⟨rfl,rfl⟩,rfl⟩:=h1
  exact .inl ⟨rfl,rfl⟩
 ·simp at h1
  obtain ⟨rfl,rfl⟩:=h1
  exact .inr (.inl ⟨rfl,rfl⟩)
 ·simp at h1
  obtain ⟨rfl,rfl⟩:=h1
  exact .inr (.inr (.inl ⟨rfl,rfl⟩))
 ·simp at h1
  obtain ⟨rfl,rfl⟩:=h1
  exact .inr (.inr (.inr ⟨rfl,rfl⟩))
 ·simp at h1
theorem ZcF {w:World} {S:Nat->Prop} {b off c n:Nat} {v:RV} {t:List Nat} (hU:U8 w) (hv:Zt v=true) (hk:v.k ≠ 0) (hi:ZcE v) (hr:Rd w S 1 (some ⟨b,off,none⟩) n (Z9 (Z0m v ++ t))) (hn:n=(Z0m v).length+t.length) (hc:n <= c) (hm:c <= maxLen) :
  Calls Tryz.prog 115 #[.int .u8 (v.k:Int),.slice (some ⟨b,off,none⟩) n c] w (Z6n w S v t):=by
 obtain ⟨h60,h⟩:=Z1U hv
 rcases h with ⟨h,_⟩ | ⟨_,e⟩ | ⟨_,e⟩ | ⟨_,e⟩
 ·exact absurd h hk
 ·obtain ⟨i1,i2⟩:=hi
  rw [e] at hr hn ⊢
  exact ZcD i1 i2 hr (by rw [hn];show (leI v.i 8).length+_=_;rw [Z2Z]) hc hm
 ·rw [e] at hv hr hn ⊢
  exact Zbs hU hv h60 hr (by rw [hn];show (v.s.size :: Z0C v.s).length+_=_;rw [List.length_cons,Z1o];omega) hc hm
 ·rw [e] at hr hn ⊢
  exact Zbr hr hn hc hm
structure Z2F (w w':World) (v:Value) (l:List RV):Prop where
 quiet:Quiet w w'
 new:∀ k,v.ownBlock=some k->w.heap.size <= k
 own:w'.ownsRow 0 32 4 v l.length (Z0P l)
theorem Z2F.push {w wr w2 w4:World} {v v':Value} {l:List RV} {x:RV} (h:Z2F w wr v l) (hq:Quiet wr w2) (hg:ZT w2 w4 32 4 v v' (l.length+1) (Z0P l ++ Z2x x)):Z2F w w4 v' (l ++ [x]):=by
 have z1:=h.quiet.size
 have z2:=hq.size
 refine ⟨(h.quiet.trans hq).trans' hg.only (fun j hj e=>by have:=h.new j e;omega),fun j e=>?_,?_⟩
 ·rcases hg.loc with y | y
  ·rw [y] at e;exact h.new j e
  ·rw [y] at e;injection e with e;omega
 ·have:=hg.own
  rw [List.length_append,show Z0P (l ++ [x])=Z0P l ++ Z2x x by simp [Z0P]]
  exact this
def Zjt (w:World) (l:List RV) (e:Ending) (w':World):Prop:=∃ v,e=.returned (.tuple #[v,.int .i64 0])/\Z2F w w' v l
theorem ZjZ {w:World} {S:Nat->Prop} {size n:Nat} {A:Option Addr} {xs:List Value} (h:Rd w S size A n xs):Rd w (fun k=>k < w.heap.size) size A n xs :=
 ⟨h.len,fun h0=>by
   obtain ⟨b,off,e,hb,hc⟩:=h.cells h0
   exact ⟨b,off,e,by have:=Zf (hc 0 _ (zg h0));exact this,hc⟩⟩
theorem ZcG (v:RV):∀ u ∈ Z2x v,u.oneCell'=true:=fun u hu=>by
 simp only [Z2x,List.mem_cons,List.not_mem_nil,or_false] at hu
 rcases hu with rfl | rfl | rfl | rfl <;> rfl
theorem Zhm {ks:List Nat} {l:List RV} (h:fitsR ks l=0) {k kk:Nat} {v:RV} (h1:ks[k]?=some kk) (h2:l[k]?=some v):v.k=0 ∨ v.k=kk:=by
 unfold fitsR at h
 split at h
 ·cases h
 ·split at h
  ·cases h
  ·split at h
   ·cases h
   ·rename_i hz
    rw [Bool.not_eq_true,List.any_eq_false] at hz
    have:=hz (kk,v) (by
      rw [List.mem_iff_getElem?]
      exact ⟨k,by rw [List.getElem?_zip_eq_some];exact ⟨h1,h2⟩⟩)
    unfold Z2y at this
    by_cases e:v.k=0
    ·exact .inl e
    ·right
     simpa [e] using this
theorem Zhn {ks:List Nat} {l:List RV} (h:fitsR ks l=0):l.length=ks.length/\Z36 ks=true:=by
 unfold fitsR at h
 split at h
 ·cases h
 ·rename_i hz
  rw [not_or] at hz
  exact ⟨by have:=hz.2;omega,by have:=hz.1;simpa using this⟩
theorem Z7e {w:World} {S S2:Nat->Prop} {A A2:Option Addr} {c c2 n m:Nat} {ks:List Nat} {l:List RV} (hU:U8 w) (hf:fitsR ks l=0) (hi:∀ v ∈ l,ZcE v) (hk:Rd w S 1 A n (Z24 ks)) (hn:ks.length=n) (hv:Rd w S2 1 A2 m (Z9 (Zq l))) (hm:(Zq l).length=m) (hc:n <= c) (hmm:c <= maxLen) (hc2:m <= c2) (hm2:c2 <= maxLen) :
  Calls Tryz.prog 75 #[.slice A n c,.slice A2 m c2] w (Zjt w l):=by
 have HR:=zh (Z6C hk hn hc hmm)
 obtain ⟨hln,hrk⟩:=Zhn hf
 obtain ⟨hright,hl8,hs200⟩:=Z4L hf
 have hm200:m <= 200:=by rw [<- hm,ZaV hright];exact hs200
 have hm1:1 <= m:=by rw [<- hm];unfold Zq;rw [List.length_cons];omega
 have hn8:n <= 8:=by omega
 rw [hrk] at HR
 have hnl:nullN l < 256:=by
  have:=Z3s l l.length (Nat.le_refl _)
  rw [List.take_length] at this
  have h2:2 ^ l.length <= 2 ^ 8:=Nat.pow_le_pow_right (by decide) hl8
  omega
 obtain ⟨b2,off2,rfl,_,hcs⟩:=hv.cells (by rw [Z0S,hm];omega)
 have q0:w.cell? ⟨b2,off2,none⟩=some (.int .u8 (nullN l:Int)):=hcs 0 _ rfl
 obtain ⟨N,hN⟩:∃ N,nullN l=N:=⟨_,rfl⟩
 rw [hN] at q0 hnl
 have eN:(N:Int) / 2 ^ n=0:=by
  have e2:N / 2 ^ n=0:=by rw [<- hN,<- hn,<- hln];exact Zhl l
  have e3:(N:Int) / 2 ^ n=((N / 2 ^ n:Nat):Int):=by push_cast;rfl
  rw [e3,e2]
  rfl
 have HT:Hid (Rd w S2 1 (some ⟨b2,off2+1,none⟩) (m - 1) (Z9 ((l.drop 0).flatMap Z0m))):=by
  have:=Rd.behind (k:=1) (l:=[nullN l]) (t:=l.flatMap Z0m) hv rfl (by rw [<- hm];unfold Zq;rw [List.length_cons];omega)
  have e:(l.flatMap Z0m).length=m - 1:=by rw [<- hm];unfold Zq;rw [List.length_cons];omega
  rw [e] at this
  exact this
 obtain ⟨A7,hA7⟩:∃ A7,(if c2=1 then (some ⟨b2,off2,none⟩:Option Addr) else some ⟨b2,off2+1,none⟩)=A7:=⟨_,rfl⟩
 have HT7:Hid (Rd w (fun b=>b < w.heap.size) 1 A7 (m - 1) (Z9 ((l.drop 0).flatMap Z0m))):=by
  by_cases e:c2=1
  ·have h0:(l.flatMap Z0m).length=0:=by
    have:(Zq l).length=1+(l.flatMap Z0m).length:=by unfold Zq;rw [List.length_cons];omega
    omega
   have h1:(l.drop 0).flatMap Z0m=[]:=List.eq_nil_of_length_eq_zero h0
   rw [h1,show m - 1=0 by omega]
   exact Rd.nil _ _ _ _
  ·rw [<- hA7,if_neg e]
   exact ZjZ HT.out
 have HLEN:Hid (((l.drop 0).flatMap Z0m).length=m - 1):=by
  show (l.flatMap Z0m).length=m - 1
  rw [<- hm];unfold Zq;rw [List.length_cons];omega
 have HK:=zh hk
 have HF:=zh hf
 have HI:=zh hi
 have HRT:=zh hright
 have HU:=zh hU
 have HNN:=zh hN
 have HKN:=zh hn
 have HLN:=zh hln
 have l2:=Zf q0
 dsimp only at l2
 unfold maxLen at hmm hm2
 have hm0:((m:Int) == 0)=false:=by simp;omega
 have hm9:decide (200 < (m:Int))=false:=decide_eq_false (by omega)
 obtain ⟨Z8,Z6⟩:∃ Z8,Zjt w l=Z8:=⟨_,rfl⟩
 rw [Z6]
 have Ze:=zh Z6
 clear hk hv hcs hf hi hright hU hN hn hln hm hs200 hrk Z6
 go_enter Tryz.func75,Tryz.ntmps75
 go_wp2_with fail
 refine HR.out.mono ?_
 rintro e w1 ⟨rfl,rfl⟩
 clear HR
 go_wp2_with fail
 go_quiet (fail)
 have hq0:Quiet w (w.drewN nq):=(Z0.refl _ _).drewN _
 have HQ0:=zh hq0
 clear q0 l2 hq0 eN HT
 generalize w.drewN nq=wd at *
 go_wp2_with fail
 go_loopw [41,8,7] (fun i o r wr=>∃ (k:Nat) (v:Value) (Ar:Option Addr) (mr cr:Nat),k <= n/\i=.int .i64 (k:Int)/\o=v/\r=.slice Ar mr cr/\Z2F w wr v (l.take k)/\Rd wr (fun b=>b < w.heap.size) 1 Ar mr (Z9 ((l.drop k).flatMap Z0m))/\((l.drop k).flatMap Z0m).length=mr/\mr <= cr/\cr <= maxLen) (fun i _ _ _=>n - (intOf i).toNat)
 case atStart=>exact ⟨0,_,_,_,_,Nat.zero_le _,rfl,rfl,rfl,⟨HQ0.out,(fun j e=>by cases e),World.ownsRow_nil _ _ _ _⟩,HT7.out.kept HQ0.out (fun _ _ x=>x),HLEN.out,by omega,by unfold maxLen;omega⟩
 case round =>
  obtain ⟨k,v,Ar,mr,cr,hk,rfl,rfl,rfl,hF,hR,hRl,hcr,hcm⟩:=hrel
  by_cases hlt:k < n
  ·obtain ⟨x,hx⟩:∃ x,l[k]?=some x:=⟨_,zg (by have:=HKN.out;have:=HLN.out;omega)⟩
   obtain ⟨bk,offk,uk,rfl,_,huk,hck⟩:=(HK.out.kept hF.quiet (fun _ _ x=>x)).get hlt
   obtain ⟨kk,hkk,rfl⟩:=Z7a huk
   have lbk:=Zf hck
   dsimp only at lbk
   have hxm:x ∈ l:=List.mem_of_getElem? hx
   have hxr:=HRT.out x hxm
   have hxn:=HI.out x hxm
   have hxk:=Zhm HF.out hkk hx
   have hsplit:=Zfp hx
   have htake:l.take (k+1)=l.take k ++ [x]:=by rw [List.take_add_one,hx];rfl
   have hlen:(l.take k).length=k:=by rw [List.length_take];have:=HKN.out;have:=HLN.out;omega
   obtain ⟨M,hM⟩:∃ M,N / 2 ^ k=M:=⟨_,rfl⟩
   have eM:(N:Int) / 2 ^ k=(M:Int):=by rw [<- hM];push_cast;rfl
   have hM256:M < 256:=by rw [<- hM];exact Nat.lt_of_le_of_lt (Nat.div_le_self _ _) hnl
   have eB:bits BinOp.and IntKind.u8 (M:Int) 1=((if x.k=0 then 1 else 0:Nat):Int):=by
    have h1:=ZjY ⟨M,hM256⟩
    have h2:=Zhk hx
    rw [HNN.out,hM] at h2
    rw [h2] at h1
    exact h1
   have HX:=zh hx
   have HXR:=zh hxr
   have HXN:=zh hxn
   have HSP:=zh hsplit
   have HTK:=zh htake
   have HLK:=zh hlen
   have HFF:=zh hF
   have HRR:=zh hR
   have HRL:=zh hRl
   clear hx hxr hxn hsplit htake hlen hF hR hRl huk hM
   by_cases hz:x.k=0
   ·rw [if_pos hz] at eB
    have hxe:x=Z7L:=by
     rcases (Z1U HXR.out).2 with ⟨_,e⟩ | ⟨e,_⟩ | ⟨e,_⟩ | ⟨e,_⟩
     ·exact e
     ·omega
     ·omega
     ·omega
    subst hxe
    have HRN:Hid (Rd ((wr.alloc (.cells #[.int .u8 0,.int .i64 0,.string ⟨#[]⟩,.bool false] 32)).alloc (.cells #[.int .u8 0,.int .i64 0,.string ⟨#[]⟩,.bool false] 32)) (fun _=>True) 4 (some ⟨wr.heap.size+1,0,none⟩) 1 (Z2x Z7L)):=by
     have:=Rd.new (wr.alloc (.cells #[.int .u8 0,.int .i64 0,.string ⟨#[]⟩,.bool false] 32)) 4 1 (Z2x Z7L) 32 (fun _=>True) rfl trivial
     rw [World.size_alloc] at this
     exact this
    have HON:=zh (Z5 HFF.out.own (((Z0.refl (fun _=>False) wr).alloc (.cells #[.int .u8 0,.int .i64 0,.string ⟨#[]⟩,.bool false] 32)).alloc (.cells #[.int .u8 0,.int .i64 0,.string ⟨#[]⟩,.bool false] 32)) (fun _ _ x=>x))
    rw [HLK.out] at HON
    go_wp2_with (at_builtin;refine app Zcj rfl (.tmp 61) (.tmp 63) rfl rfl HON.out rfl HRN.out (ZcG Z7L) (by unfold maxLen;omega) (by omega) ?_)
    intro v4 w4 hg4
    have HF4:Hid (Z2F w w4 v4 (l.take (k+1))):=by
     rw [HTK.out]
     refine HFF.out.push (((Z0.refl (fun _=>False) wr).alloc (.cells #[.int .u8 0,.int .i64 0,.string ⟨#[]⟩,.bool false] 32)).alloc (.cells #[.int .u8 0,.int .i64 0,.string ⟨#[]⟩,.bool false] 32)) ?_
     rw [HLK.out]
     exact hg4
    have HR4:Hid (Rd w4 (fun b=>b < w.heap.size) 1 Ar mr (Z9 ((l.drop (k+1)).flatMap Z0m))/\((l.drop (k+1)).flatMap Z0m).length=mr):=by
     have e:(l.drop k).flatMap Z0m=(l.drop (k+1)).flatMap Z0m:=by rw [HSP.out];rfl
     have h1:=HRR.out
     have h2:=HRL.out
     rw [e] at h1 h2
     exact ⟨(h1.kept (((Z0.refl (fun _=>False) wr).alloc (.cells #[.int .u8 0,.int .i64 0,.string ⟨#[]⟩,.bool false] 32)).alloc (.cells #[.int .u8 0,.int .i64 0,.string ⟨#[]⟩,.bool false] 32)) (fun _ _ x=>x)).kept hg4.only (fun b (hb:b < w.heap.size) e=>by have:=HFF.out.new b e;omega),h2⟩
    clear hg4 HON HRN HFF HRR HRL HSP hck eM eB
    go_wp2
    go_roundw
    case rel=>exact ⟨k+1,_,_,_,_,by omega,by go_num,rfl,rfl,HF4.out,HR4.out.1,HR4.out.2,hcr,hcm⟩
    case measure=>simp [intOf];omega
   ·rw [if_neg hz] at eB
    obtain rfl:x.k=kk:=by omega
    have HQ1:Hid (Quiet wr (wr.alloc (.cells #[.int .u8 0,.int .i64 0,.string ⟨#[]⟩,.bool false] 32))):=(Z0.refl _ _).alloc _
    have hpos:0 < (Z0m x).length:=by
     obtain ⟨_,h⟩:=Z1U HXR.out
     rcases h with ⟨e,_⟩ | ⟨_,e⟩ | ⟨_,e⟩ | ⟨_,e⟩
     ·omega
     ·rw [e];show 0 < (leI _ 8).length;rw [Z2Z];decide
     ·rw [e];exact Nat.succ_pos _
     ·rw [e];exact Nat.succ_pos _
    have hml:mr=(Z0m x).length+((l.drop (k+1)).flatMap Z0m).length:=by
     have h2:=HRL.out
     rw [HSP.out,List.length_append] at h2
     omega
    have hRR:=HRR.out
    rw [HSP.out] at hRR
    obtain ⟨b7,off7,rfl,_,_⟩:=hRR.cells (by rw [Z0S,List.length_append];omega)
    have HTAKE:=zh (ZcF (HU.out.quietly ((HFF.out.quiet).trans HQ1.out)) HXR.out hz HXN.out (hRR.kept HQ1.out (fun _ _ x=>x)) hml hcr hcm)
    clear hRR hpos hml
    go_wp2_with fail
    refine HTAKE.out.mono ?_
    rintro e w2 ⟨A',c',rfl,hq2,hr2,hc2',hm2'⟩
    have hB:w2.heap[wr.heap.size]?=some (.cells #[.int .u8 0,.int .i64 0,.string ⟨#[]⟩,.bool false] 32 (0,0)):=hq2.get (Z4 wr _) (fun x=>x)
    have hq3:=HQ1.out.trans hq2
    obtain ⟨pv,hpv⟩:∃ pv,wr.heap.size=pv:=⟨_,rfl⟩
    have hs3:wr.heap.size <= pv:=by omega
    rw [hpv] at hB
    have f0:w2.frozen? ⟨pv,0,none⟩=false:=Z7 hB 0
    have f1:w2.frozen? ⟨pv,1,none⟩=false:=Z7 hB 1
    have f2:w2.frozen? ⟨pv,2,none⟩=false:=Z7 hB 2
    have f3:w2.frozen? ⟨pv,3,none⟩=false:=Z7 hB 3
    have r0:w2.cell? ⟨pv,0,none⟩=some (.int .u8 0):=Z1 hB 0
    have r1:w2.cell? ⟨pv,1,none⟩=some (.int .i64 0):=Z1 hB 1
    have r2:w2.cell? ⟨pv,2,none⟩=some (.string ⟨#[]⟩):=Z1 hB 2
    have r3:w2.cell? ⟨pv,3,none⟩=some (.bool false):=Z1 hB 3
    have HQ3:Hid (Quiet wr (fourSet w2 pv (.int .u8 (x.k:Int)) (.int .i64 x.i) (.string x.s) (.bool x.b))):=hq3.trans' (Zy w2 pv _ _ _ _) (fun j hj e=>by omega)
    have HRA:Hid (Rd (fourSet w2 pv (.int .u8 (x.k:Int)) (.int .i64 x.i) (.string x.s) (.bool x.b)) (fun b=>b < w.heap.size) 1 A' ((l.drop (k+1)).flatMap Z0m).length (Z9 ((l.drop (k+1)).flatMap Z0m))):=hr2.kept (Zy w2 pv _ _ _ _) (fun b hb e=>by have:=HFF.out.quiet.size;omega)
    unfold fourSet at HQ3 HRA
    have HS5:Hid (w2.heap.size=((((w2.setCell ⟨pv,0,none⟩ (.int .u8 (x.k:Int))).setCell ⟨pv,1,none⟩ (.int .i64 x.i)).setCell ⟨pv,2,none⟩ (.string x.s)).setCell ⟨pv,3,none⟩ (.bool x.b)).heap.size):=by simp [Hid,World.setCell]
    have HRN:=zh (Rd.new ((((w2.setCell ⟨pv,0,none⟩ (.int .u8 (x.k:Int))).setCell ⟨pv,1,none⟩ (.int .i64 x.i)).setCell ⟨pv,2,none⟩ (.string x.s)).setCell ⟨pv,3,none⟩ (.bool x.b)) 4 1 (Z2x x) 32 (fun _=>True) rfl trivial)
    rw [<- HS5.out] at HRN
    have HON:=zh (Z5 HFF.out.own (HQ3.out.alloc (.cells (Z2x x).toArray 32)) (fun _ _ x=>x))
    rw [HLK.out] at HON
    obtain ⟨rl,hrl⟩:∃ rl,((l.drop (k+1)).flatMap Z0m).length=rl:=⟨_,rfl⟩
    have HRLL:=zh hrl
    rw [hrl] at hc2' HRA ⊢
    clear hq2 hr2 hB hq3 hrl HTAKE HSP HRL HRR hck eM eB lbk
    go_wp2_with (at_builtin;refine app Zcj rfl (.tmp 61) (.tmp 63) rfl rfl HON.out rfl HRN.out (ZcG x) (by unfold maxLen;omega) (by omega) ?_)
    intro v4 w4 hg4
    have HF4:Hid (Z2F w w4 v4 (l.take (k+1))):=by
     rw [HTK.out]
     refine HFF.out.push (HQ3.out.alloc (.cells (Z2x x).toArray 32)) ?_
     rw [HLK.out]
     exact hg4
    have HR4:Hid (Rd w4 (fun b=>b < w.heap.size) 1 A' rl (Z9 ((l.drop (k+1)).flatMap Z0m))) :=
     (HRA.out.kept ((Z0.refl (fun _=>False) _).alloc (.cells (Z2x x).toArray 32)) (fun _ _ x=>x)).kept hg4.only (fun b (hb:b < w.heap.size) e=>by have:=HFF.out.new b e;omega)
    clear hg4 HON HRN HFF HRA HQ3 f0 f1 f2 f3 r0 r1 r2 r3
    go_wp2
    go_roundw
    case rel=>exact ⟨k+1,_,_,_,_,by omega,by go_num,rfl,rfl,HF4.out,HR4.out,HRLL.out,hc2',hm2'⟩
    case measure=>simp [intOf];omega
  ·obtain rfl:k=n:=by omega
   have hnil:l.drop k=[]:=List.drop_eq_nil_of_le (by have:=HKN.out;have:=HLN.out;omega)
   have hall:l.take k=l:=List.take_of_length_le (by have:=HKN.out;have:=HLN.out;omega)
   rw [hnil] at hRl
   obtain rfl:0=mr:=hRl
   have HE:Hid (Z8 (.returned (.tuple #[u8,.int .i64 0])) wr):=by
    rw [<- Ze.out]
    rw [hall] at hF
    exact ⟨_,rfl,hF⟩
   clear hF hR hnil hall
   go_wp2_with fail
   exact HE.out
def Z2C (H:List (List (Option Tup))) (L:List Nat) (y:ZA) (a:Int × Int):Option RowR :=
 match ZM H a.1 a.2 with
 | some t=>if Z1T L y t.xmin t.xmax then some (t.row,a.1,a.2,t.data) else none
 | none=>none
def Z2z (H:List (List (Option Tup))) (L:List Nat) (y:ZA) (l:List (Int × Int)):List RowR:=l.filterMap (Z2C H L y)
theorem Zfq (H:List (List (Option Tup))) (L:List Nat) (y:ZA) (l:List (Int × Int)) (a:Int × Int):Z2z H L y (l ++ [a])=Z2z H L y l ++ (Z2C H L y a).toList:=by
 unfold Z2z
 rw [List.filterMap_append]
 cases h:Z2C H L y a <;> simp [h]
structure Z66 (wb W:World) (pt:Nat) (A:Option Addr) (c:Nat) (t:Tup):Prop where
 quiet:Quiet wb W
 box:W.heap[pt]?=some (.cells (tupCells t A c) 96 (0,0))
 new:wb.heap.size <= pt
 own:W.ownsRow 0 5 1 (.slice A t.data.length c) t.data.length (Z9 t.data)
 fresh:∀ k,(Value.slice A t.data.length c).ownBlock=some k->wb.heap.size <= k
theorem Z66.cells {wb W:World} {pt:Nat} {A:Option Addr} {c:Nat} {t:Tup} (h:Z66 wb W pt A c t):W.cell? ⟨pt,0,none⟩=some (.int .u64 t.row)/\W.cell? ⟨pt,1,none⟩=some (.int .u64 t.xmin)/\W.cell? ⟨pt,2,none⟩=some (.int .u64 t.xmax)/\W.cell? ⟨pt,3,none⟩=some (.int .i64 t.pg)/\W.cell? ⟨pt,4,none⟩=some (.int .i64 t.sl)/\W.cell? ⟨pt,5,none⟩=some (.slice A t.data.length c) :=
 ⟨by rw [Z1 h.box];rfl,by rw [Z1 h.box];rfl,by rw [Z1 h.box];rfl,by rw [Z1 h.box];rfl,by rw [Z1 h.box];rfl,by rw [Z1 h.box];rfl⟩
theorem Za5 {goal:Prop} {wb:World} {t:Tup} {G:Option Addr->Nat->Nat->World->Prop} (main:(∀ A c pt W,Z66 wb W pt A c t->G A c pt W)->goal) (key:∀ A c pt W,Z66 wb W pt A c t->G A c pt W):goal:=main key
theorem Z1z {wb w1:World} {pt c:Nat} {A:Option Addr} {t:Tup} {c0 c1 c2 c3 c4 c5:Value} (hq:Quiet wb w1) (hb:w1.heap[pt]?=some (.cells #[c0,c1,c2,c3,c4,c5] 96 (0,0))) (hn:wb.heap.size <= pt)
  (ho:w1.ownsRow 0 5 1 (.slice A t.data.length c) t.data.length (Z9 t.data)) (hf:∀ k,(Value.slice A t.data.length c).ownBlock=some k->wb.heap.size <= k) :
  Z66 wb (sixSet w1 pt (.int .u64 t.row) (.int .u64 t.xmin) (.int .u64 t.xmax) (.int .i64 t.pg) (.int .i64 t.sl) (.slice A t.data.length c)) pt A c t:=by
 have h1:=Z0L w1 pt (.int .u64 t.row) (.int .u64 t.xmin) (.int .u64 t.xmax) (.int .i64 t.pg) (.int .i64 t.sl) (.slice A t.data.length c)
 refine ⟨hq.trans' h1 (fun k hk e=>by omega),Z1a hb _ _ _ _ _ _,hn,Z5 ho h1 (fun k e x=>?_),hf⟩
 obtain ⟨cs,hcs⟩:=Zh ho e
 exact Zb hcs hb (by decide) x
structure Z0V (w wr:World) (v:Value) (M:List Z0G):Prop where
 quiet:Quiet w wr
 new:∀ k,v.ownBlock=some k->w.heap.size <= k
 own:wr.ownsRow 0 50 4 v M.length (rowsV M)
 vals:∀ m ∈ M,(∀ k,(Value.slice m.A m.l.length m.c).ownBlock=some k->w.heap.size <= k)/\wr.ownsRow 0 32 4 (.slice m.A m.l.length m.c) m.l.length (Z0P m.l)
section
variable {w wr w' w3 w4:World} {v v':Value} {M:List Z0G} {m:Z0G}
theorem Z0V.start (h:Quiet w wr):Z0V w wr (.slice none 0 0) []:=⟨h,(fun k e=>by cases e),World.ownsRow_nil _ _ _ _,(fun m hm=>by cases hm)⟩
theorem Z0V.quietly (h:Z0V w wr v M) (hq:Quiet wr w'):Z0V w w' v M :=
 ⟨h.quiet.trans hq,h.new,Z5 h.own hq (fun _ _ x=>x),fun m hm=>⟨(h.vals m hm).1,Z5 (h.vals m hm).2 hq (fun _ _ x=>x)⟩⟩
theorem Z0V.from (h:Z0V w wr v M) {w0:World} (hq:Quiet w0 w):Z0V w0 wr v M :=
 ⟨hq.trans h.quiet,fun k e=>Nat.le_trans hq.size (h.new k e),h.own,fun m hm=>⟨fun k e=>Nat.le_trans hq.size ((h.vals m hm).1 k e),(h.vals m hm).2⟩⟩
theorem Z0V.valsOn (h:Z0V w wr v M) (ho:Z0 (fun k=>v.ownBlock=some k) wr w'):∀ m ∈ M,(∀ k,(Value.slice m.A m.l.length m.c).ownBlock=some k->w.heap.size <= k)/\w'.ownsRow 0 32 4 (.slice m.A m.l.length m.c) m.l.length (Z0P m.l):=fun m hm =>
 ⟨(h.vals m hm).1,Z5 (h.vals m hm).2 ho (fun k e x=>by
   obtain ⟨c1,h1⟩:=Zh (h.vals m hm).2 e
   obtain ⟨c2,h2⟩:=Zh h.own x
   exact Zb h1 h2 (by decide) rfl)⟩
theorem Z0V.push (h:Z0V w w3 v M) (hm:(∀ k,(Value.slice m.A m.l.length m.c).ownBlock=some k->w.heap.size <= k)/\w3.ownsRow 0 32 4 (.slice m.A m.l.length m.c) m.l.length (Z0P m.l))
  (hg:ZT w3 w4 50 4 v v' (M.length+1) (rowsV M ++ Z4C m)):Z0V w w4 v' (M ++ [m]):=by
 have hsz:=h.quiet.size
 refine ⟨h.quiet.trans' hg.only (fun k hk e=>by have:=h.new k e;omega),fun k e=>?_,?_,fun x hx=>?_⟩
 ·rcases hg.loc with y | y
  ·rw [y] at e;exact h.new k e
  ·rw [y] at e;injection e with e;omega
 ·have:=hg.own
  rw [List.length_append,ZcI]
  have e1:rowsV [m]=Z4C m:=by simp [rowsV]
  rw [e1]
  exact this
 ·rcases List.mem_append.1 hx with y | y
  ·exact h.valsOn hg.only x y
  ·simp at y
   subst y
   exact ⟨hm.1,Z5 hm.2 hg.only (fun k e z=>by
     obtain ⟨c1,h1⟩:=Zh hm.2 e
     obtain ⟨c2,h2⟩:=Zh h.own z
     exact Zb h1 h2 (by decide) rfl)⟩
theorem Z0V.sorted {M':List Z0G} (h:Z0V w wr v M) (hp:M'.Perm M) (ho:Z0 (fun k=>v.ownBlock=some k) wr w') (hw:w'.ownsRow 0 50 4 v M.length (rowsV M')):Z0V w w' v M':=by
 have hsz:=h.quiet.size
 refine ⟨h.quiet.trans' ho (fun k hk e=>by have:=h.new k e;omega),h.new,?_,fun m hm=>h.valsOn ho m (hp.mem_iff.1 hm)⟩
 rw [hp.length_eq]
 exact hw
end
def Z8u (w:World) (R:List RowR) (e:Ending) (w':World):Prop :=
 ∃ v M,e=.returned v/\Z0V w w' v M/\(M.map Z0G.told).Perm R/\M.Pairwise (fun a b=>a.id <= b.id)
theorem ZiW:Z0c Tryz.prog 44 50 4 48:=Z0c.mk' (.agg #[.int .u64 0,.int .i64 0,.int .i64 0,.slice none 0 0]) Tryz.underlying44 (by kernel_rfl) rfl (by decide)
end Go.Proofs.YtobhgnjblniphaaGreatDoor
namespace Go.Proofs.YtobhgnjblniphaaGreatDoor
open Go.RowKit Go.Lap Go.Sort Go.Shelf
theorem Z4U (x:Nat) (w:World):Calls Tryz.prog 125 #[.int .u64 (x:Int)] w fun e w'=>e=.returned (.bool false)/\w=w':=by
 go_enter Tryz.func125,Tryz.ntmps125
 go_wp2
 go_ret
 exact ⟨by simp,rfl⟩
theorem ZdG (x y:Nat) (w:World):Calls Tryz.prog 85 #[.int .u64 (x:Int),.int .u64 (y:Int)] w fun e w'=>e=.returned (.int .i64 (if x < y then -1 else if y < x then 1 else 0))/\w=w':=by
 by_cases h1:x < y
 ·rw [if_pos h1]
  go_enter Tryz.func85,Tryz.ntmps85
  go_wp2_with fail
  refine (Z4U _ _).mono ?_
  rintro e w1 ⟨rfl,rfl⟩
  go_wp2_with fail
  refine (Z4U _ _).mono ?_
  rintro e w1 ⟨rfl,rfl⟩
  go_wp2
  go_ret
  exact ⟨rfl,rfl⟩
 ·rw [if_neg h1]
  by_cases h2:y < x
  ·rw [if_pos h2]
   go_enter Tryz.func85,Tryz.ntmps85
   go_wp2_with fail
   refine (Z4U _ _).mono ?_
   rintro e w1 ⟨rfl,rfl⟩
   go_wp2_with fail
   refine (Z4U _ _).mono ?_
   rintro e w1 ⟨rfl,rfl⟩
   go_wp2
   go_ret
   exact ⟨rfl,rfl⟩
  ·rw [if_neg h2]
   obtain rfl:x=y:=by omega
   go_enter Tryz.func85,Tryz.ntmps85
   go_wp2_with fail
   refine (Z4U _ _).mono ?_
   rintro e w1 ⟨rfl,rfl⟩
   go_wp2_with fail
   refine (Z4U _ _).mono ?_
   rintro e w1 ⟨rfl,rfl⟩
   go_wp2
   go_ret
   exact ⟨rfl,rfl⟩
theorem Zk0 (x y:Z0G) (W:World):Calls Tryz.prog 84 #[.agg (Z4C x).toArray,.agg (Z4C y).toArray] W fun e w'=>e=.returned (.int .i64 (Z8t x y))/\∃ q os',w'=Go.Sort.grow (W.drewN q) os':=by
 show Calls Tryz.prog 84 #[.agg #[.int .u64 (x.id:Int),.int .i64 x.pg,.int .i64 x.sl,.slice x.A x.l.length x.c],.agg #[.int .u64 (y.id:Int),.int .i64 y.pg,.int .i64 y.sl,.slice y.A y.l.length y.c]] W fun e w'=>e=.returned (.int .i64 (Z8t x y))/\∃ q os',w'=Go.Sort.grow (W.drewN q) os'
 obtain ⟨z,hz⟩:∃ z,Z8t x y=z:=⟨_,rfl⟩
 rw [hz]
 have HC:Hid (z=if x.id < y.id then -1 else if y.id < x.id then 1 else 0):=hz.symm
 clear hz
 go_enter Tryz.func84,Tryz.ntmps84
 go_wp2_with fail
 refine (ZdG _ _ _).mono ?_
 rintro e w1 ⟨rfl,rfl⟩
 rw [<- HC.out]
 go_wp2
 go_ret
 exact ⟨rfl,0,_,by rw [alloc_eq_grow,alloc_eq_grow,grow_grow];rfl⟩
theorem Zho (v:Value) (l:List Z0G) (w:World) (hown:w.ownsRow 0 50 4 v l.length (rowsV l)) (hl:l.length < 4611686018427387904) :
  Calls Tryz.prog 83 #[v,.func (.func 84) #[] #[]] w fun e w'=>e=.returned (.tuple #[])/\∃ l':List Z0G,l'.Perm l/\l'.Pairwise (fun a b=>a.id <= b.id)/\w'.ownsRow 0 50 4 v l.length (rowsV l')/\Z0 (fun k=>v.ownBlock=some k) w w':=by
 have eg:∀ args w,(callFunc 84 args).run Tryz.prog w=.ok (.enter 84 args) w:=enters_of Tryz.func84 (by kernel_rfl) rfl
 have h:=ZiN Tryz.sortRows 4 Tryz.isAgg50 Tryz.sizeOf50 Z4C ZiV ZcH Z8t ZkB 84 eg Zk0 50 v l w hown hl
 change Calls Tryz.prog 83 _ _ _ at h
 refine h.mono ?_
 rintro e w' ⟨rfl,l',hp,hs,ho,hon⟩
 refine ⟨rfl,l',hp,hs.imp ?_,ho,hon⟩
 intro a b hab
 rw [ZbK] at hab
 have:=of_decide_eq_false hab
 omega
end Go.Proofs.YtobhgnjblniphaaGreatDoor
namespace Go.Proofs.YtobhgnjblniphaaGreatDoor
open Go.RowKit Go.Lap
theorem Z5K {w:World} {S:Nat->Prop} {A:Option Addr} {n i:Nat} {ps:List (Int × Int)} {p:Int × Int} (h:Rd w S 2 A n (ZU ps)) (hi:ps[i]?=some p) :
  ∃ b off,A=some ⟨b,off,none⟩/\S b/\w.cell? ⟨b,off+i * 2,none⟩=some (.int .i64 p.1)/\w.cell? ⟨b,off+i * 2+1,none⟩=some (.int .i64 p.2):=by
 obtain ⟨h1,h2⟩:=ZaD hi
 have hl:=(zi.1 h1).1
 obtain ⟨b,off,e,hs,hc⟩:=h.cells (by omega)
 exact ⟨b,off,e,hs,hc _ _ h1,by have:=hc _ _ h2;rw [<- Nat.add_assoc] at this;exact this⟩
def Z2A (ks:List Nat) (l:List RV):Prop:=fitsR ks l=0/\∀ v ∈ l,ZcE v
theorem Z2F.from9 {W w9 w10:World} {v:Value} {l:List RV} (hq:Quiet W w9) (hf:Z2F w9 w10 v l):Z2F W w10 v l:=⟨hq.trans hf.quiet,fun k e=>Nat.le_trans hq.size (hf.new k e),hf.own⟩
theorem Z1P {W:World} {mh hb id:Nat} {fh:Nat->Option Value} (h:Z0f W mh fh) (hf:fh id=some (ptrV hb)) (hid:U64 id):(Instr.lookup 66 (.map (some mh)) (.int .u64 (id:Int)) false).run Tryz.prog W=.ok (ptrV hb) W:=by
 have:=h.lookup Tryz.underlying66 Tryz.underlying34 false (Z9q _) hid
 rw [hf] at this
 simpa using this
theorem Z0w {w:World} {b c:Nat} {t:TE} {A:Option Addr} (h:w.heap[b]?=some (.cells #[.int .u64 (t.id:Int),.string t.name,.slice A t.cols.length c,.int .u64 (t.xmin:Int),.int .u64 (t.xmax:Int)] 90 (0,0))) :
  w.cell? ⟨b,0,none⟩=some (.int .u64 (t.id:Int))/\w.cell? ⟨b,1,none⟩=some (.string t.name)/\w.cell? ⟨b,2,none⟩=some (.slice A t.cols.length c)/\w.cell? ⟨b,3,none⟩=some (.int .u64 (t.xmin:Int))/\w.cell? ⟨b,4,none⟩=some (.int .u64 (t.xmax:Int)) :=
 ⟨by rw [Z1 h];rfl,by rw [Z1 h];rfl,by rw [Z1 h];rfl,by rw [Z1 h];rfl,by rw [Z1 h];rfl⟩
theorem ZaW {H:List (List (Option Tup))} {L:List Nat} {y:ZA} {l:List (Int × Int)} {k:Nat} {a:Int × Int} (h:l[k]?=some a):Z2z H L y (l.take (k+1))=Z2z H L y (l.take k) ++ (Z2C H L y a).toList:=by
 rw [List.take_add_one,h]
 exact Zfq H L y (l.take k) a
theorem Zfr {w:World} {sb cy c2 c3:Nat} {o:Nat->Nat} {s:St} {y:ZA} {t:TE} {Sy Sc Sl:Nat->Prop} {A A2 A3:Option Addr} {H:List (List (Option Tup))} {l:List (Int × Int)} (h:Zn w sb o s) (hs:Z0I w Sy A cy y) (hU:U8 w) (hcl:t.cols.length <= 8) (hid:U64 t.id)
  (hr:Rd w Sc 2 A2 t.cols.length (ZZ t.cols)) (hc2:t.cols.length <= c2) (hm2:c2 <= maxLen) (hH:s.hs t.id=some H) (hl:Rd w Sl 2 A3 l.length (ZU l)) (hlm:l.length <= 1000000)
  (hg:∀ a ∈ l,∃ v,ZM H a.1 a.2=some v/\U64 v.xmin/\U64 v.xmax/\(Z1T s.L y v.xmin v.xmax=true->∃ x,Z2A (Z04 t) x/\v.data=Zq x)) :
  Calls Tryz.prog 42 #[ptrV sb,Zm y A cy,Z0g t A2 c2,.slice A3 l.length c3] w (Z8u w (Z2z H s.L y l)):=by
 obtain ⟨lb,bb,pb,mh,mt,ms,fh,ft,fs,h⟩:=h
 obtain ⟨hb,hf,hp⟩:=h.heaps.2 t.id H hH
 have HH:=zh h
 have HP:=zh hp
 have HF:=zh hf
 have HS:=zh hs
 have HR:=zh hr
 have HLD:=zh hl
 have HG:=zh hg
 have HID:=zh hid
 have HC2:=zh (And.intro hc2 hm2)
 have HU:=zh hU
 have HCL:=zh hcl
 have HQ0:Hid (Quiet w ((w.alloc (.cells (snapCells y A cy) 76)).alloc (.cells #[.int .u64 (t.id:Int),.string t.name,.slice A2 t.cols.length c2,.int .u64 (t.xmin:Int),.int .u64 (t.xmax:Int)] 90))):=((Z0.refl _ _).alloc _).alloc _
 have HB5:=zh (Zd (Z4 w (.cells (snapCells y A cy) 76)) (.cells #[.int .u64 (t.id:Int),.string t.name,.slice A2 t.cols.length c2,.int .u64 (t.xmin:Int),.int .u64 (t.xmax:Int)] 90))
 have HB6:=zh (Z0y w (.cells (snapCells y A cy) 76) (.cells #[.int .u64 (t.id:Int),.string t.name,.slice A2 t.cols.length c2,.int .u64 (t.xmin:Int),.int .u64 (t.xmax:Int)] 90))
 have hsz:((w.alloc (.cells (snapCells y A cy) 76)).alloc (.cells #[.int .u64 (t.id:Int),.string t.name,.slice A2 t.cols.length c2,.int .u64 (t.xmin:Int),.int .u64 (t.xmax:Int)] 90)).heap.size=w.heap.size+1+1:=by simp
 obtain ⟨r5,hr5⟩:∃ r5,w.heap.size=r5:=⟨_,rfl⟩
 obtain ⟨r6,hr6⟩:∃ r6,r5+1=r6:=⟨_,rfl⟩
 rw [hr5] at HB5 HB6 hsz
 rw [hr6] at HB6 hsz
 obtain ⟨n,hn⟩:∃ n,l.length=n:=⟨_,rfl⟩
 have HN:=zh hn
 obtain ⟨Z8,Z6⟩:∃ Z8,Z8u w (Z2z H s.L y l)=Z8:=⟨_,rfl⟩
 rw [Z6,hn]
 have Ze:=zh Z6
 have hnm:n <= 1000000:=by omega
 clear h hs hr hl hg hp hf hH hc2 hm2 hU hcl hid hlm hn Z6
 unfold Zm Z0g
 go_enter Tryz.func42,Tryz.ntmps42
 go_wp2_with fail
 (try simp only [World.size_alloc] at *)
 (try rw [hr5]);(try rw [hr6])
 generalize (w.alloc (.cells #[.int .u64 (y.own:Int),.int .u64 (y.xmin:Int),.int .u64 (y.xmax:Int),.slice A y.run.length cy] 76)).alloc (.cells #[.int .u64 (t.id:Int),.string t.name,.slice A2 t.cols.length c2,.int .u64 (t.xmin:Int),.int .u64 (t.xmax:Int)] 90)=W0 at *
 go_loopw [18,9,11,12,13,14,15] (fun i v _ _ _ _ _ wr=>∃ (k:Nat) (v':Value) (M:List Z0G),k <= n/\i=.int .i64 (k:Int)/\v=v'/\Z0V W0 wr v' M/\M.map Z0G.told=Z2z H s.L y (l.take k)) (fun i _ _ _ _ _ _ _=>n - (intOf i).toNat)
 case atStart=>exact ⟨0,_,[],Nat.zero_le _,rfl,rfl,Z0V.start (Z0.refl _ _),rfl⟩
 case round =>
  obtain ⟨k,v',M,hk,rfl,rfl,hW,hM⟩:=hrel
  have HW:=zh hW
  have HM:=zh hM
  clear hW hM
  by_cases hlt:k < n
  ·obtain ⟨⟨pg,sl⟩,ha⟩:∃ a,l[k]?=some a:=⟨_,zg (by have:=HN.out;omega)⟩
   obtain ⟨v,hgv,hx1,hx2,hvis⟩:=HG.out (pg,sl) (List.mem_of_getElem? ha)
   have HQr:Hid (Quiet w wr):=HQ0.out.trans HW.out.quiet
   obtain ⟨bl,ofl,rfl,_,la,lb2⟩:=Z5K (HLD.out.kept HQr.out (fun _ _ x=>x)) ha
   have HV1:=zh (And.intro hx1 hx2)
   have HVIS0:=zh hvis
   have HGV:=zh hgv
   have HA:=zh ha
   have hqb:Quiet wr (wr.alloc (.cells #[.int .i64 pg,.int .i64 sl] 48)):=(Z0.refl _ _).alloc _
   have hat:=Z4 wr (.cells #[.int .i64 pg,.int .i64 sl] 48)
   obtain ⟨at_,hat_⟩:∃ at_,wr.heap.size=at_:=⟨_,rfl⟩
   dsimp only at la lb2
   clear ha hgv hx1 hx2 hvis
   go_wp2_with fail
   (try rw [hat_] at hat)
   (try rw [hat_])
   generalize wr.alloc (.cells #[.int .i64 pg,.int .i64 sl] 48)=wb at *
   have HQb:Hid (Quiet w wb):=HQr.out.trans hqb
   have HWb:=zh (HW.out.quietly hqb)
   have HAT:=zh hat
   clear la lb2 hat hqb hat_
   have HS5:Hid (∀ W,Quiet wb W->(fun w'=>w'.cell? ⟨sb,3,none⟩=some (.map (some mh))/\w'.cell? ⟨r6,0,none⟩=some (.int .u64 (t.id:Int))/\w'.cell? ⟨at_,0,none⟩=some (.int .i64 pg)/\w'.cell? ⟨at_,1,none⟩=some (.int .i64 sl)/\(Instr.lookup 66 (.map (some mh)) (.int .u64 (t.id:Int)) false).run Tryz.prog w'=.ok (ptrV hb) w') W):=fun W hq=>by
    have hq2:=HQb.out.trans hq
    have h2:=HH.out.quietly hq2
    have b6:=hq.get (HWb.out.quiet.get HB6.out (fun x=>x)) (fun x=>x)
    have b7:=hq.get HAT.out (fun x=>x)
    exact ⟨h2.cells.2.2.2.1,(Z0w b6).1,by rw [Z1 b7];rfl,by rw [Z1 b7];rfl,Z1P h2.mH HF.out HID.out⟩
   have HGET:Hid (∀ W,Quiet wb W->Calls Tryz.prog 32 #[ptrV hb,.agg #[.int .i64 pg,.int .i64 sl]] W (Z2G W v)):=fun W hq=>Z4y pg sl v (HP.out.kept (HQb.out.trans hq) (fun _ _ x=>x)) HGV.out
   apply Za5 (wb:=wb) (t:=v)
   case main =>
         intro KEY
         refine zH HS5 (Z0.refl _ _).drew (fun Z3=>?_)
         have q0:Quiet wb wb.drew:=(Z0.refl _ _).drew
         generalize wb.drew=d0 at q0 Z3 ⊢
         refine zT 0 ?_
         refine zT 1 ?_
         refine zT 2 ?_
         refine zT 3 ?_
         refine zT 4 ?_
         refine zT 5 ?_
         refine zT 6 ?_
         refine zT 7 ?_
         refine wpAnyH_ready (rs:=[8,12]) (by kernel_rfl) (by simp) ?_
         refine zA ?_ ?_
         · intro K hK
           go_simp
           go_at_call 32
           refine (HGET.out _ q0).mono ?_
           rintro e d2 ⟨A4,c4,rfl,hf4⟩
           have q2:=q0.trans hf4.quiet
           have hown:=hf4.own
           have hfn:∀ k,(Value.slice A4 v.data.length c4).ownBlock=some k->wb.heap.size <= k:=fun k e=>Nat.le_trans (q0).size (hf4.new k e)
           clear hf4
           unfold ZC
           dsimp only
           refine hK.out _ _ ?_ (fun Z3=>?_)
           · exact HS5.out _ q2
           clear hK K
           (try simp only [Act.put,zPA,zPZ,zPS])
           refine zT 9 ?_
           refine zT 10 ?_
           refine zT 11 ?_
           refine zR 12 ?_
           intro K hK
           go_simp
           refine hK.out _ _ ?_ (fun Z3=>?_)
           · exact HS5.out _ (q2.alloc _)
           clear hK K
           (try simp only [Act.put,zPA,zPZ,zPS])
           have qd3:Quiet wb (d2.alloc (.cells #[.int .u64 0,.int .u64 0,.int .u64 0,.int .i64 0,.int .i64 0,.slice none 0 0] 96)):=q2.alloc _
           have hb1:=Z4 d2 (.cells #[.int .u64 0,.int .u64 0,.int .u64 0,.int .i64 0,.int .i64 0,.slice none 0 0] 96)
           have hnp:wb.heap.size <= d2.heap.size:=q2.size
           have hown:=Z5 hown ((Z0.refl (fun _=>False) d2).alloc (.cells #[.int .u64 0,.int .u64 0,.int .u64 0,.int .i64 0,.int .i64 0,.slice none 0 0] 96)) (fun _ _ x=>x)
           obtain ⟨pt,hpt⟩:∃ pt,d2.heap.size=pt:=⟨_,rfl⟩
           rw [hpt] at hb1 hnp ⊢
           generalize d2.alloc (.cells #[.int .u64 0,.int .u64 0,.int .u64 0,.int .i64 0,.int .i64 0,.slice none 0 0] 96)=d3 at *
           clear hpt
           obtain ⟨z0,z1,z2,z3,z4,z5⟩:=zC6 hb1
           have zf:=fun o=>Z7 hb1 o
           refine zR 13 ?_
           intro K hK
           go_simp
           refine hK.out _ _ ?_ (fun Z3=>?_)
           · exact HS5.out _ (Z1z qd3 hb1 hnp hown hfn).quiet
           clear hK K
           (try simp only [Act.put,zPA,zPZ,zPS])
           have HG:=Z1z qd3 hb1 hnp hown hfn
           unfold sixSet at HG
           refine zT 14 ?_
           refine zD ?_
           generalize ((((((d3.setCell ⟨pt,0,none⟩ (.int .u64 v.row)).setCell ⟨pt,1,none⟩ (.int .u64 v.xmin)).setCell ⟨pt,2,none⟩ (.int .u64 v.xmax)).setCell ⟨pt,3,none⟩ (.int .i64 v.pg)).setCell ⟨pt,4,none⟩ (.int .i64 v.sl)).setCell ⟨pt,5,none⟩ (.slice A4 v.data.length c4))=WF at HG ⊢
           exact KEY _ _ _ _ HG
         refine zA ?_ AllReadyH.nil
         intro K hK
         go_simp
         refine hK.out _ _ ?_ (fun Z3=>?_)
         · exact HS5.out _ (q0.alloc _)
         clear hK K
         (try simp only [Act.put,zPA,zPZ,zPS])
         have qd1:Quiet wb (d0.alloc (.cells #[.int .u64 0,.int .u64 0,.int .u64 0,.int .i64 0,.int .i64 0,.slice none 0 0] 96)):=q0.alloc _
         have hb1:=Z4 d0 (.cells #[.int .u64 0,.int .u64 0,.int .u64 0,.int .i64 0,.int .i64 0,.slice none 0 0] 96)
         have hnp:wb.heap.size <= d0.heap.size:=q0.size
         obtain ⟨pt,hpt⟩:∃ pt,d0.heap.size=pt:=⟨_,rfl⟩
         rw [hpt] at hb1 hnp ⊢
         generalize d0.alloc (.cells #[.int .u64 0,.int .u64 0,.int .u64 0,.int .i64 0,.int .i64 0,.slice none 0 0] 96)=d1 at *
         clear hpt
         refine zR 8 ?_
         intro K hK
         go_simp
         go_at_call 32
         refine (HGET.out _ qd1).mono ?_
         rintro e d2 ⟨A4,c4,rfl,hf4⟩
         have q2:=qd1.trans hf4.quiet
         have hb2:=hf4.quiet.get hb1 (fun x=>x)
         have hown:=hf4.own
         have hfn:∀ k,(Value.slice A4 v.data.length c4).ownBlock=some k->wb.heap.size <= k:=fun k e=>Nat.le_trans (qd1).size (hf4.new k e)
         clear hf4
         unfold ZC
         dsimp only
         refine hK.out _ _ ?_ (fun Z3=>?_)
         · exact HS5.out _ q2
         clear hK K
         (try simp only [Act.put,zPA,zPZ,zPS])
         obtain ⟨z0,z1,z2,z3,z4,z5⟩:=zC6 hb2
         have zf:=fun o=>Z7 hb2 o
         refine zT 9 ?_
         refine zT 10 ?_
         refine zT 11 ?_
         refine zR 13 ?_
         intro K hK
         go_simp
         refine hK.out _ _ ?_ (fun Z3=>?_)
         · exact HS5.out _ (Z1z q2 hb2 hnp hown hfn).quiet
         clear hK K
         (try simp only [Act.put,zPA,zPZ,zPS])
         have HG:=Z1z q2 hb2 hnp hown hfn
         unfold sixSet at HG
         refine zT 14 ?_
         refine zD ?_
         generalize ((((((d2.setCell ⟨pt,0,none⟩ (.int .u64 v.row)).setCell ⟨pt,1,none⟩ (.int .u64 v.xmin)).setCell ⟨pt,2,none⟩ (.int .u64 v.xmax)).setCell ⟨pt,3,none⟩ (.int .i64 v.pg)).setCell ⟨pt,4,none⟩ (.int .i64 v.sl)).setCell ⟨pt,5,none⟩ (.slice A4 v.data.length c4))=WF at HG ⊢
         exact KEY _ _ _ _ HG
   case key =>
    intro A4 c4 pt W HL0
    have HL:=zh HL0
    clear HL0 HS5 HGET
    have HQW:Hid (Quiet w W):=HQb.out.trans HL.out.quiet
    have HWW:=zh (HWb.out.quietly HL.out.quiet)
    have HS6:Hid (∀ W',Quiet W W'->(fun w'=>w'.cell? ⟨sb,0,none⟩=some (ptrV lb)/\w'.cell? ⟨r5,0,none⟩=some (.int .u64 (y.own:Int))/\w'.cell? ⟨r5,1,none⟩=some (.int .u64 (y.xmin:Int))/\w'.cell? ⟨r5,2,none⟩=some (.int .u64 (y.xmax:Int))/\w'.cell? ⟨r5,3,none⟩=some (.slice A y.run.length cy)/\w'.cell? ⟨pt,0,none⟩=some (.int .u64 v.row)/\w'.cell? ⟨pt,1,none⟩=some (.int .u64 v.xmin)/\w'.cell? ⟨pt,2,none⟩=some (.int .u64 v.xmax)/\w'.cell? ⟨pt,3,none⟩=some (.int .i64 v.pg)/\w'.cell? ⟨pt,4,none⟩=some (.int .i64 v.sl)/\w'.cell? ⟨pt,5,none⟩=some (.slice A4 v.data.length c4)) W'):=fun W' hq=>by
     have b5:=hq.get (HWW.out.quiet.get HB5.out (fun x=>x)) (fun x=>x)
     have bt:=hq.get HL.out.box (fun x=>x)
     have hsn:=Z07 b5
     refine ⟨((HH.out.quietly HQW.out).quietly hq).cells.1,hsn.1,hsn.2.1,hsn.2.2.1,hsn.2.2.2,?_,?_,?_,?_,?_,?_⟩ <;> (rw [Z1 bt];rfl)
    obtain ⟨r,hrv⟩:∃ r,Z1T s.L y v.xmin v.xmax=r:=⟨_,rfl⟩
    have HRV:=zh hrv
    have HVIS:Hid (∀ W',Quiet W W'->Calls Tryz.prog 82 #[ptrV lb,Zm y A cy,ZC v A4 c4] W' (Z0a W' r)):=fun W' hq=>by
     rw [<- HRV.out]
     have hq2:=HQW.out.trans hq
     exact Z57 v A4 c4 (HH.out.quietly hq2).log (HS.out.kept hq2 (fun _ _ x=>x)) HV1.out.1 HV1.out.2
    unfold Zm ZC at HVIS
    clear hrv
    go_wp2_with fail
    refine zH HS6 (Z0.refl _ _).drew (fun Z3=>?_)
    have q6:Quiet W W.drew:=(Z0.refl _ _).drew
    generalize W.drew=d6 at q6 Z3 ⊢
    refine zT 0 ?_
    refine zT 1 ?_
    refine zT 2 ?_
    refine zT 3 ?_
    refine zT 4 ?_
    refine zT 5 ?_
    refine zT 6 ?_
    refine zT 7 ?_
    refine zR 8 ?_
    intro K hK
    go_simp
    go_at_call 82
    refine (HVIS.out _ q6).mono ?_
    rintro e d7 ⟨rfl,hq7⟩
    have q7:=q6.trans hq7
    clear hq7
    dsimp only
    refine hK.out _ _ ?_ (fun Z3=>?_)
    ·exact HS6.out _ q7
    clear hK K
    (try simp only [Act.put,zPA,zPZ,zPS])
    refine zT 9 ?_
    refine zD ?_
    clear Z3
    rcases r with _ | _
    ·have HTK:Hid (M.map Z0G.told=Z2z H s.L y (l.take (k+1))):=by
      show _=_
      rw [ZaW HA.out,HM.out]
      have:Z2C H s.L y (pg,sl)=none:=by
       unfold Z2C
       rw [HGV.out]
       simp [HRV.out]
      rw [this]
      simp
     have Zc:=zh (HWW.out.quietly q7)
     clear q7 q6
     go_wp2
     go_roundw
     case rel=>exact ⟨k+1,_,M,by omega,by go_num,rfl,Zc.out,HTK.out⟩
     case measure=>simp [intOf];omega
    ·obtain ⟨x,hx,hdat⟩:=HVIS0.out HRV.out
     have HTK:Hid (Z2C H s.L y (pg,sl)=some (v.row,pg,sl,Zq x)):=by
      unfold Hid Z2C
      rw [HGV.out]
      simp only [HRV.out,if_true]
      rw [hdat]
     have HW7:=zh (HWW.out.quietly q7)
     have HQ7:Hid (Quiet w d7):=HQW.out.trans q7
     have HBT:=zh (q7.get HL.out.box (fun x=>x))
     have HAT7:=zh (q7.get (HL.out.quiet.get HAT.out (fun x=>x)) (fun x=>x))
     obtain ⟨A',c',e',hc4,hm4,hrd4⟩:=Za HL.out.own
     injection e' with e1 _ e2
     subst e1 e2
     have HDC:=zh (And.intro hc4 hm4)
     have HDAT:Hid (∀ W',Quiet d7 W'->Rd W' (fun _=>True) 1 A4 v.data.length (Z9 (Zq x))):=fun W' hq=>by
      have:=(hrd4.kept (q7.trans hq) (fun _ _ x=>x)).mono (T:=fun _=>True) (fun _ _=>trivial)
      have e:Z9 v.data=Z9 (Zq x):=by rw [hdat]
      rw [e] at this
      exact this
     have HKND:Hid (∀ W',Quiet d7 W'->Calls Tryz.prog 38 #[Z0g t A2 c2] W' (Z3B W' (Z04 t))):=fun W' hq =>
      Z4d (HR.out.kept (HQ7.out.trans hq) (fun _ _ x=>x)) HC2.out.1 HC2.out.2 (by have:=HCL.out;omega)
     have HS7:Hid (∀ W',Quiet d7 W'->(fun w'=>w'.cell? ⟨r6,0,none⟩=some (.int .u64 (t.id:Int))/\w'.cell? ⟨r6,1,none⟩=some (.string t.name)/\w'.cell? ⟨r6,2,none⟩=some (.slice A2 t.cols.length c2)/\w'.cell? ⟨r6,3,none⟩=some (.int .u64 (t.xmin:Int))/\w'.cell? ⟨r6,4,none⟩=some (.int .u64 (t.xmax:Int))/\w'.cell? ⟨pt,5,none⟩=some (.slice A4 v.data.length c4)) W'):=fun W' hq=>by
      have b6:=Z0w (hq.get (HW7.out.quiet.get HB6.out (fun x=>x)) (fun x=>x))
      have bt:=hq.get HBT.out (fun x=>x)
      exact ⟨b6.1,b6.2.1,b6.2.2.1,b6.2.2.2.1,b6.2.2.2.2,by rw [Z1 bt];rfl⟩
     unfold Z0g at HKND
     have HX:=zh hx
     have HDL:Hid ((Zq x).length=v.data.length):=by rw [hdat];exact rfl
     have HU7:=zh (HU.out.quietly HQ7.out)
     clear hc4 hm4 hrd4 hdat q7 q6 hx HS6 HVIS
     go_wp2_with fail
     refine zH HS7 (Z0.refl _ _).drew (fun Z3=>?_)
     have q8:Quiet d7 d7.drew:=(Z0.refl _ _).drew
     generalize d7.drew=d8 at q8 Z3 ⊢
     refine zT 0 ?_
     refine zT 2 ?_
     refine zT 3 ?_
     refine zR 1 ?_
     intro K hK
     go_simp
     go_at_call 38
     refine (HKND.out _ q8).mono ?_
     rintro e d9 ⟨v9,rfl,hf9⟩
     have q9:=q8.trans hf9.quiet
     obtain ⟨A9,c9,rfl,hc9,hm9,hrd9⟩:=Za hf9.own
     clear hf9
     dsimp only
     refine hK.out _ _ ?_ (fun Z3=>?_)
     ·exact HS7.out _ q9
     clear hK K
     (try simp only [Act.put,zPA,zPZ,zPS])
     refine zR 4 ?_
     intro K hK
     go_simp
     go_at_call 75
     refine (Z7e (HU7.out.quietly q9) HX.out.1 HX.out.2 (by exact hrd9) rfl (HDAT.out _ q9) HDL.out hc9 hm9 HDC.out.1 HDC.out.2).mono ?_
     rintro e d10 ⟨v10,rfl,hf10⟩
     have q10:=q9.trans hf10.quiet
     have hfv:=Z2F.from9 q9 hf10
     clear hf10
     dsimp only
     refine hK.out _ _ ?_ (fun Z3=>?_)
     ·exact HS7.out _ q10
     clear hK K
     (try simp only [Act.put,zPA,zPZ,zPS])
     refine zT 5 ?_
     refine zT 6 ?_
     refine zT 7 ?_
     refine zT 8 ?_
     refine zT 9 ?_
     refine zD ?_
     clear Z3 q8 q9 q10 hrd9 hc9 hm9
     obtain ⟨A10,c10,rfl,hc10,hm10,_⟩:=Za hfv.own
     have HW10:=zh (HW7.out.quietly hfv.quiet)
     have HRD:=zh (Rd.new d10 4 1 (Z4C ⟨v.row,pg,sl,x,A10,c10⟩) 50 (fun _=>True) rfl trivial)
     have HW11:=zh (HW10.out.quietly ((Z0.refl (fun _=>False) d10).alloc (.cells (Z4C ⟨v.row,pg,sl,x,A10,c10⟩).toArray 50)))
     have HVAL:Hid ((∀ k,(Value.slice A10 x.length c10).ownBlock=some k->W0.heap.size <= k)/\(d10.alloc (.cells (Z4C ⟨v.row,pg,sl,x,A10,c10⟩).toArray 50)).ownsRow 0 32 4 (.slice A10 x.length c10) x.length (Z0P x)) :=
      ⟨fun k e=>Nat.le_trans HW7.out.quiet.size (hfv.new k e),Z5 hfv.own ((Z0.refl (fun _=>False) d10).alloc _) (fun _ _ x=>x)⟩
     have hml:M.length <= n:=by
      have e1:(M.map Z0G.told).length <= (l.take k).length:=by rw [HM.out];exact List.length_filterMap_le _ _
      rw [List.length_map,List.length_take] at e1
      omega
     have x0:d10.cell? ⟨pt,0,none⟩=some (.int .u64 v.row):=by rw [Z1 (hfv.quiet.get HBT.out (fun x=>x))];rfl
     have x1:d10.cell? ⟨at_,0,none⟩=some (.int .i64 pg):=by rw [Z1 (hfv.quiet.get HAT7.out (fun x=>x))];rfl
     have x2:d10.cell? ⟨at_,1,none⟩=some (.int .i64 sl):=by rw [Z1 (hfv.quiet.get HAT7.out (fun x=>x))];rfl
     obtain ⟨ml,hml2⟩:∃ ml,M.length=ml:=⟨_,rfl⟩
     have HML:=zh hml2
     rw [hml2] at hml
     have hown:=HW11.out.own
     rw [hml2] at hown
     have HOWN:=zh hown
     clear hfv hc10 hm10 hml2 hown HDAT HKND HS7 HBT
     go_wp2_with (at_builtin;refine app ZiW rfl (.tmp 52) (.tmp 58) rfl rfl HOWN.out rfl HRD.out (ZcH ⟨v.row,pg,sl,x,A10,c10⟩) (by unfold maxLen;omega) (by omega) ?_)
     intro v11 w11 hg11
     rw [<- HML.out] at hg11
     have HPU:=zh (Z0V.push (m:=⟨v.row,pg,sl,x,A10,c10⟩) HW11.out HVAL.out hg11)
     have HTK2:Hid ((M ++ [(⟨v.row,pg,sl,x,A10,c10⟩:Z0G)]).map Z0G.told=Z2z H s.L y (l.take (k+1))):=by
      show _=_
      rw [List.map_append,HM.out,ZaW HA.out,HTK.out]
      rfl
     clear hg11 HW11 HVAL HRD HOWN HW10 x0 x1 x2
     go_wp2
     go_roundw
     case rel=>exact ⟨k+1,_,_,by omega,by go_num,rfl,HPU.out,HTK2.out⟩
     case measure=>simp [intOf];omega
  ·obtain rfl:k=n:=by omega
   have hml:M.length <= k:=by
    have e1:(M.map Z0G.told).length <= (l.take k).length:=by rw [HM.out];exact List.length_filterMap_le _ _
    rw [List.length_map,List.length_take] at e1
    omega
   have HSO:=zh (Zho u9 M wr HW.out.own (by omega))
   clear hml
   go_wp2_with fail
   refine HSO.out.mono ?_
   rintro e w9 ⟨rfl,M',hp,hsd,ho,hon⟩
   have Zc:Hid (Z8 (.returned u9) w9):=by
    rw [<- Ze.out]
    refine ⟨u9,M',rfl,(HW.out.sorted hp hon ho).from HQ0.out,?_,hsd⟩
    have:=hp.map Z0G.told
    rw [HM.out,List.take_of_length_le (by have:=HN.out;omega)] at this
    exact this
   clear hp hsd ho hon HSO
   go_wp2
   exact Zc.out
def Z8v (w:World) (v:Tup) (code:Nat) (e:Ending) (w':World):Prop:=∃ A c,e=.returned (.tuple #[ZC v A c,.int .i64 (code:Int)])/\Quiet w w'
theorem ZiX (w:World) (a b c d:Obj):Quiet w ((((w.alloc a).alloc b).alloc c).alloc d)/\((((w.alloc a).alloc b).alloc c).alloc d).heap[w.heap.size]?=some a/\((((w.alloc a).alloc b).alloc c).alloc d).heap[w.heap.size+1]?=some b/\((((w.alloc a).alloc b).alloc c).alloc d).heap[w.heap.size+1+1]?=some c/\((((w.alloc a).alloc b).alloc c).alloc d).heap[w.heap.size+1+1+1]?=some d:=by
 refine ⟨((((Z0.refl _ _).alloc _).alloc _).alloc _).alloc _,Zd (Zd (Zd (Z4 w a) b) c) d,Zd (Zd (Z0y w a b) c) d,?_,?_⟩
 ·have:=Z4 ((w.alloc a).alloc b) c
  simp only [World.size_alloc] at this
  exact Zd this d
 ·have:=Z4 (((w.alloc a).alloc b).alloc c) d
  simp only [World.size_alloc] at this
  exact this
theorem Zbt {w:World} {sb cy c2 n3 c3:Nat} {o:Nat->Nat} {s:St} {y:ZA} {t:TE} {Sy:Nat->Prop} {A A2 A3:Option Addr} {H:List (List (Option Tup))} {pg sl:Int} {v:Tup} (h:Zn w sb o s) (hs:Z0I w Sy A cy y) (hid:U64 t.id)
  (hH:s.hs t.id=some H) (hg:ZM H pg sl=some v) (hx1:U64 v.xmin) (hx2:U64 v.xmax) :
  Calls Tryz.prog 43 #[ptrV sb,Zm y A cy,Z0g t A2 c2,.agg #[.int .u64 v.row,.int .i64 pg,.int .i64 sl,.slice A3 n3 c3]] w (Z8v w v (freeS s.L y v.xmin v.xmax)):=by
 obtain ⟨lb,bb,pb,mh,mt,ms,fh,ft,fs,h⟩:=h
 obtain ⟨hb,hf,hp⟩:=h.heaps.2 t.id H hH
 have HH:=zh h
 have HP:=zh hp
 have HF:=zh hf
 have HS:=zh hs
 have HID:=zh hid
 have HGV:=zh hg
 have HV1:=zh (And.intro hx1 hx2)
 obtain ⟨q0,b5,b6,b7,b8⟩:=ZiX w (.cells (snapCells y A cy) 76) (.cells #[.int .u64 (t.id:Int),.string t.name,.slice A2 t.cols.length c2,.int .u64 (t.xmin:Int),.int .u64 (t.xmax:Int)] 90) (.cells #[.int .u64 v.row,.int .i64 pg,.int .i64 sl,.slice A3 n3 c3] 50) (.cells #[.int .u64 0,.int .u64 0,.int .u64 0,.int .i64 0,.int .i64 0,.slice none 0 0] 96)
 have HQ0:=zh q0
 have HB5:=zh b5
 have HB6:=zh b6
 have HB7:=zh b7
 have HB8:=zh b8
 obtain ⟨r5,hr5⟩:∃ r5,w.heap.size=r5:=⟨_,rfl⟩
 obtain ⟨r6,hr6⟩:∃ r6,r5+1=r6:=⟨_,rfl⟩
 obtain ⟨r7,hr7⟩:∃ r7,r6+1=r7:=⟨_,rfl⟩
 obtain ⟨r8,hr8⟩:∃ r8,r7+1=r8:=⟨_,rfl⟩
 rw [hr5] at HB5 HB6 HB7 HB8
 rw [hr6] at HB6 HB7 HB8
 rw [hr7] at HB7 HB8
 rw [hr8] at HB8
 obtain ⟨code,hcode⟩:∃ code,freeS s.L y v.xmin v.xmax=code:=⟨_,rfl⟩
 rw [hcode]
 have HCODE:=zh hcode
 have HNE:Hid (r5 ≠ r8/\w.heap.size <= r8):=⟨by omega,by omega⟩
 clear h hs hp hf hH hid hg hx1 hx2 q0 b5 b6 b7 b8 hcode
 unfold Zm Z0g
 go_enter Tryz.func43,Tryz.ntmps43
 go_wp2_with fail
 (try simp only [World.size_alloc] at *)
 (try rw [hr5]);(try rw [hr6]);(try rw [hr7]);(try rw [hr8])
 generalize (((w.alloc (.cells #[.int .u64 (y.own:Int),.int .u64 (y.xmin:Int),.int .u64 (y.xmax:Int),.slice A y.run.length cy] 76)).alloc (.cells #[.int .u64 (t.id:Int),.string t.name,.slice A2 t.cols.length c2,.int .u64 (t.xmin:Int),.int .u64 (t.xmax:Int)] 90)).alloc (.cells #[.int .u64 v.row,.int .i64 pg,.int .i64 sl,.slice A3 n3 c3] 50)).alloc (.cells #[.int .u64 0,.int .u64 0,.int .u64 0,.int .i64 0,.int .i64 0,.slice none 0 0] 96)=wb at *
 have HS5:Hid (∀ W,Quiet wb W->(fun w'=>w'.cell? ⟨sb,3,none⟩=some (.map (some mh))/\w'.cell? ⟨r6,0,none⟩=some (.int .u64 (t.id:Int))/\w'.cell? ⟨r7,1,none⟩=some (.int .i64 pg)/\w'.cell? ⟨r7,2,none⟩=some (.int .i64 sl)/\(Instr.lookup 66 (.map (some mh)) (.int .u64 (t.id:Int)) false).run Tryz.prog w'=.ok (ptrV hb) w') W):=fun W hq=>by
  have h2:=HH.out.quietly (HQ0.out.trans hq)
  have b6:=hq.get HB6.out (fun x=>x)
  have b7:=hq.get HB7.out (fun x=>x)
  exact ⟨h2.cells.2.2.2.1,(Z0w b6).1,by rw [Z1 b7];rfl,by rw [Z1 b7];rfl,Z1P h2.mH HF.out HID.out⟩
 have HGET:Hid (∀ W,Quiet wb W->Calls Tryz.prog 32 #[ptrV hb,.agg #[.int .i64 pg,.int .i64 sl]] W (Z2G W v)):=fun W hq=>Z4y pg sl v (HP.out.kept (HQ0.out.trans hq) (fun _ _ x=>x)) HGV.out
 clear hr5 hr6 hr7 hr8
 apply Za5 (wb:=wb) (t:=v)
 case main =>
   intro KEY
   refine zH HS5 (Z0.refl _ _).drew (fun Z3=>?_)
   have q0:Quiet wb wb.drew:=(Z0.refl _ _).drew
   generalize wb.drew=d0 at q0 Z3 ⊢
   refine zT 0 ?_
   refine zT 1 ?_
   refine zT 2 ?_
   refine zT 3 ?_
   refine zT 4 ?_
   refine zT 5 ?_
   refine zT 6 ?_
   refine zT 7 ?_
   refine zT 8 ?_
   refine wpAnyH_ready (rs:=[9,13]) (by kernel_rfl) (by simp) ?_
   refine zA ?_ ?_
   ·intro K hK
    go_simp
    go_at_call 32
    refine (HGET.out _ q0).mono ?_
    rintro e d2 ⟨A4,c4,rfl,hf4⟩
    have q2:=q0.trans hf4.quiet
    have hown:=hf4.own
    have hfn:∀ k,(Value.slice A4 v.data.length c4).ownBlock=some k->wb.heap.size <= k:=fun k e=>Nat.le_trans (q0).size (hf4.new k e)
    clear hf4
    unfold ZC
    dsimp only
    refine hK.out _ _ ?_ (fun Z3=>?_)
    ·exact HS5.out _ q2
    clear hK K
    (try simp only [Act.put,zPA,zPZ,zPS])
    refine zT 10 ?_
    refine zT 11 ?_
    refine zT 12 ?_
    refine zR 13 ?_
    intro K hK
    go_simp
    refine hK.out _ _ ?_ (fun Z3=>?_)
    ·exact HS5.out _ (q2.alloc _)
    clear hK K
    (try simp only [Act.put,zPA,zPZ,zPS])
    have qd3:Quiet wb (d2.alloc (.cells #[.int .u64 0,.int .u64 0,.int .u64 0,.int .i64 0,.int .i64 0,.slice none 0 0] 96)):=q2.alloc _
    have hb1:=Z4 d2 (.cells #[.int .u64 0,.int .u64 0,.int .u64 0,.int .i64 0,.int .i64 0,.slice none 0 0] 96)
    have hnp:wb.heap.size <= d2.heap.size:=q2.size
    have hown:=Z5 hown ((Z0.refl (fun _=>False) d2).alloc (.cells #[.int .u64 0,.int .u64 0,.int .u64 0,.int .i64 0,.int .i64 0,.slice none 0 0] 96)) (fun _ _ x=>x)
    obtain ⟨pt,hpt⟩:∃ pt,d2.heap.size=pt:=⟨_,rfl⟩
    rw [hpt] at hb1 hnp ⊢
    generalize d2.alloc (.cells #[.int .u64 0,.int .u64 0,.int .u64 0,.int .i64 0,.int .i64 0,.slice none 0 0] 96)=d3 at *
    clear hpt
    obtain ⟨z0,z1,z2,z3,z4,z5⟩:=zC6 hb1
    have zf:=fun o=>Z7 hb1 o
    refine zR 14 ?_
    intro K hK
    go_simp
    refine hK.out _ _ ?_ (fun Z3=>?_)
    ·exact HS5.out _ (Z1z qd3 hb1 hnp hown hfn).quiet
    clear hK K
    (try simp only [Act.put,zPA,zPZ,zPS])
    have HG:=Z1z qd3 hb1 hnp hown hfn
    unfold sixSet at HG
    refine zT 15 ?_
    refine zD ?_
    generalize ((((((d3.setCell ⟨pt,0,none⟩ (.int .u64 v.row)).setCell ⟨pt,1,none⟩ (.int .u64 v.xmin)).setCell ⟨pt,2,none⟩ (.int .u64 v.xmax)).setCell ⟨pt,3,none⟩ (.int .i64 v.pg)).setCell ⟨pt,4,none⟩ (.int .i64 v.sl)).setCell ⟨pt,5,none⟩ (.slice A4 v.data.length c4))=WF at HG ⊢
    exact KEY _ _ _ _ HG
   refine zA ?_ AllReadyH.nil
   intro K hK
   go_simp
   refine hK.out _ _ ?_ (fun Z3=>?_)
   ·exact HS5.out _ (q0.alloc _)
   clear hK K
   (try simp only [Act.put,zPA,zPZ,zPS])
   have qd1:Quiet wb (d0.alloc (.cells #[.int .u64 0,.int .u64 0,.int .u64 0,.int .i64 0,.int .i64 0,.slice none 0 0] 96)):=q0.alloc _
   have hb1:=Z4 d0 (.cells #[.int .u64 0,.int .u64 0,.int .u64 0,.int .i64 0,.int .i64 0,.slice none 0 0] 96)
   have hnp:wb.heap.size <= d0.heap.size:=q0.size
   obtain ⟨pt,hpt⟩:∃ pt,d0.heap.size=pt:=⟨_,rfl⟩
   rw [hpt] at hb1 hnp ⊢
   generalize d0.alloc (.cells #[.int .u64 0,.int .u64 0,.int .u64 0,.int .i64 0,.int .i64 0,.slice none 0 0] 96)=d1 at *
   clear hpt
   refine zR 9 ?_
   intro K hK
   go_simp
   go_at_call 32
   refine (HGET.out _ qd1).mono ?_
   rintro e d2 ⟨A4,c4,rfl,hf4⟩
   have q2:=qd1.trans hf4.quiet
   have hb2:=hf4.quiet.get hb1 (fun x=>x)
   have hown:=hf4.own
   have hfn:∀ k,(Value.slice A4 v.data.length c4).ownBlock=some k->wb.heap.size <= k:=fun k e=>Nat.le_trans (qd1).size (hf4.new k e)
   clear hf4
   unfold ZC
   dsimp only
   refine hK.out _ _ ?_ (fun Z3=>?_)
   ·exact HS5.out _ q2
   clear hK K
   (try simp only [Act.put,zPA,zPZ,zPS])
   obtain ⟨z0,z1,z2,z3,z4,z5⟩:=zC6 hb2
   have zf:=fun o=>Z7 hb2 o
   refine zT 10 ?_
   refine zT 11 ?_
   refine zT 12 ?_
   refine zR 14 ?_
   intro K hK
   go_simp
   refine hK.out _ _ ?_ (fun Z3=>?_)
   ·exact HS5.out _ (Z1z q2 hb2 hnp hown hfn).quiet
   clear hK K
   (try simp only [Act.put,zPA,zPZ,zPS])
   have HG:=Z1z q2 hb2 hnp hown hfn
   unfold sixSet at HG
   refine zT 15 ?_
   refine zD ?_
   generalize ((((((d2.setCell ⟨pt,0,none⟩ (.int .u64 v.row)).setCell ⟨pt,1,none⟩ (.int .u64 v.xmin)).setCell ⟨pt,2,none⟩ (.int .u64 v.xmax)).setCell ⟨pt,3,none⟩ (.int .i64 v.pg)).setCell ⟨pt,4,none⟩ (.int .i64 v.sl)).setCell ⟨pt,5,none⟩ (.slice A4 v.data.length c4))=WF at HG ⊢
   exact KEY _ _ _ _ HG
 case key =>
  intro A4 c4 pt W HL0
  have HL:=zh HL0
  clear HL0 HS5 HGET
  have HQW:Hid (Quiet w W):=HQ0.out.trans HL.out.quiet
  have HNP:Hid (pt ≠ r8):=fun e=>by have:=HL.out.new;have:=Z2 HB8.out;omega
  have HS4:Hid (∀ W',Z0 (fun k=>k=r8) W W'->(fun w'=>w'.cell? ⟨sb,0,none⟩=some (ptrV lb)/\w'.cell? ⟨r5,0,none⟩=some (.int .u64 (y.own:Int))/\w'.cell? ⟨r5,1,none⟩=some (.int .u64 (y.xmin:Int))/\w'.cell? ⟨r5,2,none⟩=some (.int .u64 (y.xmax:Int))/\w'.cell? ⟨r5,3,none⟩=some (.slice A y.run.length cy)/\w'.cell? ⟨pt,0,none⟩=some (.int .u64 v.row)/\w'.cell? ⟨pt,1,none⟩=some (.int .u64 v.xmin)/\w'.cell? ⟨pt,2,none⟩=some (.int .u64 v.xmax)/\w'.cell? ⟨pt,3,none⟩=some (.int .i64 v.pg)/\w'.cell? ⟨pt,4,none⟩=some (.int .i64 v.sl)/\w'.cell? ⟨pt,5,none⟩=some (.slice A4 v.data.length c4)) W'):=fun W' hq=>by
   have b5:=hq.get (HL.out.quiet.get HB5.out (fun x=>x)) (fun x=>HNE.out.1 x)
   have bt:=hq.get HL.out.box (fun x=>HNP.out x)
   have hsn:=Z07 b5
   have c0:=hq.cell ((HH.out.quietly HQW.out).cells.1) (fun x=>by have:=Z2 HH.out.box;have:=HNE.out.2;simp only at x;omega)
   refine ⟨c0,hsn.1,hsn.2.1,hsn.2.2.1,hsn.2.2.2,?_,?_,?_,?_,?_,?_⟩ <;> (rw [Z1 bt];rfl)
  have HFREE:Hid (∀ W',Quiet W W'->Calls Tryz.prog 86 #[ptrV lb,Zm y A cy,ZC v A4 c4] W' (fun e w'=>e=.returned (.int .i64 (code:Int))/\Quiet W' w')):=fun W' hq=>by
   rw [<- HCODE.out]
   have hq2:=HQW.out.trans hq
   exact ZgO v A4 c4 (HH.out.quietly hq2).log (HS.out.kept hq2 (fun _ _ x=>x)) HV1.out.1 HV1.out.2
  unfold Zm ZC at HFREE
  have HB8':=zh (HL.out.quiet.get HB8.out (fun x=>x))
  have t0:=HL.out.cells.1
  have r0:W.cell? ⟨r7,0,none⟩=some (.int .u64 v.row):=by rw [Z1 (HL.out.quiet.get HB7.out (fun x=>x))];rfl
  clear HB8
  have HB8:=HB8'
  clear HB8'
  go_wp2_with fail
  clear t0 r0
  refine zH HS4 (Z0.refl _ _).drew (fun Z3=>?_)
  have q6:Quiet W W.drew:=(Z0.refl _ _).drew
  generalize W.drew=d6 at q6 Z3 ⊢
  refine zT 0 ?_
  refine zT 1 ?_
  refine zT 2 ?_
  refine zT 3 ?_
  refine zT 4 ?_
  refine zT 5 ?_
  refine zT 6 ?_
  refine zR 7 ?_
  intro K hK
  go_simp
  go_at_call 86
  refine (HFREE.out _ q6).mono ?_
  rintro e d7 ⟨rfl,hq7⟩
  have q7:=q6.trans hq7
  clear hq7
  have h8:=q7.get HB8.out (fun x=>x)
  obtain ⟨e0,e1,e2,e3,e4,e5⟩:=zC6 h8
  have ef:=fun o=>Z7 h8 o
  dsimp only
  refine hK.out _ _ ?_ (fun Z3=>?_)
  ·exact HS4.out _ (q7.mono (fun _ _ x=>x.elim))
  clear hK K
  (try simp only [Act.put,zPA,zPZ,zPS])
  refine zR 8 ?_
  intro K hK
  go_simp
  refine hK.out _ _ ?_ (fun Z3=>?_)
  ·exact HS4.out _ ((q7.mono (T:=fun k=>k=r8) (fun _ _ x=>x.elim)).trans' (Z0L d7 r8 (.int .u64 v.row) (.int .u64 v.xmin) (.int .u64 v.xmax) (.int .i64 v.pg) (.int .i64 v.sl) (.slice A4 v.data.length c4)) (fun k _ e=>e))
  clear hK K
  (try simp only [Act.put,zPA,zPZ,zPS])
  refine zT 9 ?_
  refine zD ?_
  have HX:Hid ((sixSet d7 r8 (.int .u64 v.row) (.int .u64 v.xmin) (.int .u64 v.xmax) (.int .i64 v.pg) (.int .i64 v.sl) (.slice A4 v.data.length c4)).heap[r8]?=some (.cells #[.int .u64 v.row,.int .u64 v.xmin,.int .u64 v.xmax,.int .i64 v.pg,.int .i64 v.sl,.slice A4 v.data.length c4] 96 (0,0))):=Z1a h8 _ _ _ _ _ _
  have HP:Hid (Z8v w v code (.returned (.tuple #[ZC v A4 c4,.int .i64 (code:Int)])) (sixSet d7 r8 (.int .u64 v.row) (.int .u64 v.xmin) (.int .u64 v.xmax) (.int .i64 v.pg) (.int .i64 v.sl) (.slice A4 v.data.length c4))):=⟨A4,c4,rfl,(HQW.out.trans q7).trans' (Z0L d7 r8 (.int .u64 v.row) (.int .u64 v.xmin) (.int .u64 v.xmax) (.int .i64 v.pg) (.int .i64 v.sl) (.slice A4 v.data.length c4)) (fun k hk e=>by have:=HNE.out.2;omega)⟩
  unfold sixSet at HX HP
  clear Z3 q6 q7 h8 e0 e1 e2 e3 e4 e5 ef
  unfold ZC at HP
  go_wp2
  exact bodyPost_ret (ZG Tryz.results43 _ _ r8 _ _ (0,0) _ (by rfl) HX.out Tryz.underlying96 rfl Z3m) (by rfl) HP.out
def Z4V (w:World) (sb:Nat) (o:Nat->Nat) (s':St) (p q:Int) (e:Ending) (w':World):Prop:=e=.returned (.tuple #[.agg #[.int .i64 p,.int .i64 q],.int .i64 0])/\Z0Z w sb o s' w'
structure Zag (wb W:World) (pt hb pb left':Nat) (p q:Int) (G:Nat->Prop) (H':List (List (Option Tup))):Prop where
 only:Z0 (fun k=>G k ∨ k=pb) wb W
 box:W.heap[pt]?=some (.cells #[.int .i64 p,.int .i64 q] 48 (0,0))
 new:wb.heap.size <= pt
 pool:ZR W pb left'
 heap:Zo W hb pb (fun k=>G k ∨ (wb.heap.size <= k/\k ≠ pt)) H'
theorem Z6o {wb w1:World} {pt hb pb left':Nat} {p q:Int} {G:Nat->Prop} {H':List (List (Option Tup))} {c0 c1:Value} (hq:Z0 (fun k=>G k ∨ k=pb) wb w1) (h1:w1.heap[pt]?=some (.cells #[c0,c1] 48 (0,0))) (hn:wb.heap.size <= pt)
  (hp:ZR w1 pb left') (hh:Zo w1 hb pb (fun k=>G k ∨ (wb.heap.size <= k/\k ≠ pt)) H') (hG:∀ k,wb.heap.size <= k->¬ (G k ∨ k=pb)) :
  Zag wb ((w1.setCell ⟨pt,0,none⟩ (.int .i64 p)).setCell ⟨pt,1,none⟩ (.int .i64 q)) pt hb pb left' p q G H':=by
 have ho:=Z3n w1 pt (.int .i64 p) (.int .i64 q)
 refine ⟨hq.trans' ho (fun k hk e=>by omega),Z3Z h1 _ _,hn,hp.kept ho (fun e=>hG _ hn (Or.inr e.symm)),hh.kept ho (fun k x e=>?_)⟩
 rcases x with x | x
 ·exact hG k (by omega) (Or.inl x)
 ·exact x.2 e
theorem Zk1 {goal:Prop} {wb:World} {hb pb left':Nat} {p q:Int} {Gw:Nat->Prop} {H':List (List (Option Tup))} {G:Nat->World->Prop} (main:(∀ pt W,Zag wb W pt hb pb left' p q Gw H'->G pt W)->goal) (key:∀ pt W,Zag wb W pt hb pb left' p q Gw H'->G pt W):goal:=main key
theorem ZiY (w:World) (a b c:Obj):Quiet w (((w.alloc a).alloc b).alloc c)/\(((w.alloc a).alloc b).alloc c).heap[w.heap.size]?=some a/\(((w.alloc a).alloc b).alloc c).heap[w.heap.size+1]?=some b/\(((w.alloc a).alloc b).alloc c).heap[w.heap.size+1+1]?=some c:=by
 refine ⟨(((Z0.refl _ _).alloc _).alloc _).alloc _,Zd (Zd (Z4 w a) b) c,Zd (Z0y w a b) c,?_⟩
 have:=Z4 ((w.alloc a).alloc b) c
 simp only [World.size_alloc] at this
 exact this
theorem Zn.big {w:World} {sb:Nat} {o:Nat->Nat} {s:St} (h:Zn w sb o s):∀ k,w.heap.size <= k->o k=0:=by
 obtain ⟨lb,bb,pb,mh,mt,ms,fh,ft,fs,h⟩:=h
 exact h.big
theorem Zn.cell6 {w:World} {sb:Nat} {o:Nat->Nat} {s:St} (h:Zn w sb o s):w.cell? ⟨sb,6,none⟩=some (.int .u64 (s.last:Int))/\o sb=1:=by
 obtain ⟨lb,bb,pb,mh,mt,ms,fh,ft,fs,h⟩:=h
 exact ⟨h.cells.2.2.2.2.2.2,h.tags.1⟩
theorem Z3h (w:World):Calls Tryz.prog 40 #[] w fun e w'=>e=.returned (.agg #[.int .i64 (-1),.int .i64 (-1)])/\Quiet w w':=by
 go_enter Tryz.func40,Tryz.ntmps40
 go_wp2
 exact bodyPost_ret (v:=.agg #[.int .i64 (-1),.int .i64 (-1)]) (by simp [results,Tryz.results40,go_sem]) rfl ⟨rfl,(Z0.refl _ _).alloc _⟩
theorem ZiZ (n:Nat) (h:n < 18446744073709551616):IntKind.u64.wrap (n:Int)=(n:Int):=by
 simp [IntKind.wrap,IntKind.bits,IntKind.signed]
 omega
theorem Zk2 {ks:List Nat} {l:List RV} (h:Z2A ks l):∀ x ∈ Zq l,x < 256:=by
 obtain ⟨hr,h8,_⟩:=Z4L h.1
 intro x hx
 unfold Zq at hx
 rcases List.mem_cons.1 hx with e | e
 ·have:=Z3s l l.length (Nat.le_refl _)
  rw [List.take_length] at this
  have h2:2 ^ l.length <= 2 ^ 8:=Nat.pow_le_pow_right (by decide) h8
  omega
 ·obtain ⟨v,hv,hx⟩:=List.mem_flatMap.1 e
  obtain ⟨h60,_⟩:=Z1U (hr v hv)
  unfold Z0m at hx
  split at hx
  ·cases hx
  ·obtain ⟨k,_,rfl⟩:=List.mem_map.1 hx
   have:=Int.emod_lt_of_pos (v.i / 2 ^ (8 * k)) (by omega:(0:Int) < 256)
   have:=Int.emod_nonneg (v.i / 2 ^ (8 * k)) (by omega:(256:Int) ≠ 0)
   omega
  ·rcases List.mem_cons.1 hx with e | e
   ·omega
   ·obtain ⟨b,_,rfl⟩:=List.mem_map.1 e
    exact UInt8.toNat_lt b
  ·simp at hx
   split at hx <;> omega
theorem Z7f {w:World} {S S2:Nat->Prop} {A A2:Option Addr} {c c2 n m:Nat} {ks:List Nat} {l:List RV} (hT:U8 w) (ho:Z2A ks l) (hk:Rd w S 1 A n (Z24 ks)) (hn:ks.length=n) (hv:Rd w S2 4 A2 m (Z0P l)) (hl:l.length=m) (hc:n <= c) (hm:c <= maxLen) (hc2:m <= c2) (hm2:c2 <= maxLen) :
  Calls Tryz.prog 37 #[.slice A n c,.slice A2 m c2] w (Z40 w (Zq l)):=by
 obtain ⟨hr,_,_⟩:=Z4L ho.1
 refine (Zbq hk hn hv hl hc hm hc2 hm2 (fun v hv=>by have:=(Z1U (hr v hv)).1;omega) hT).mono ?_
 intro e w' h
 unfold Z7d at h
 rw [if_pos ho.1] at h
 exact h
structure Z67 (wb W:World) (sb pt:Nat) (p q:Int) (o:Nat->Nat) (s':St):Prop where
 only:Z0 (fun k=>o k ≠ 0) wb W
 st:∃ o',(∀ k,k < wb.heap.size->o' k=o k)/\Zn W sb o' s'/\o' pt=0
 new:wb.heap.size <= pt
 box:W.heap[pt]?=some (.cells #[.int .i64 p,.int .i64 q] 48 (0,0))
theorem Z15 {wb w1:World} {pt sb:Nat} {p q:Int} {c0 c1:Value} {o o2:Nat->Nat} {s':St} (hq:Z0 (fun k=>o k ≠ 0) wb w1) (hn:wb.heap.size <= pt) (h1:w1.heap[pt]?=some (.cells #[c0,c1] 48 (0,0))) (hst:Zn w1 sb o2 s') (hop:o2 pt=0) (ho:∀ k,k < wb.heap.size->o2 k=o k) :
  Z67 wb ((w1.setCell ⟨pt,0,none⟩ (.int .i64 p)).setCell ⟨pt,1,none⟩ (.int .i64 q)) sb pt p q o s':=by
 have h2:=Z3n w1 pt (.int .i64 p) (.int .i64 q)
 exact ⟨hq.trans' h2 (fun k hk e=>by omega),⟨o2,ho,hst.kept h2 (fun k e=>by rw [e];exact hop),hop⟩,hn,Z3Z h1 _ _⟩
theorem Z2p {W:World} {sb a b:Nat} (h:a=b) (x:W.cell? ⟨sb,6,none⟩=some (.int .u64 (a:Int))):W.cell? ⟨sb,6,none⟩=some (.int .u64 (b:Int)):=by rw [<- h];exact x
theorem Z67.cell6 {wb W:World} {sb pt:Nat} {p q:Int} {o:Nat->Nat} {s':St} (h:Z67 wb W sb pt p q o s'):W.cell? ⟨sb,6,none⟩=some (.int .u64 (s'.last:Int)):=by
 obtain ⟨o',_,h1,_⟩:=h.st
 exact h1.cell6.1
theorem Zef {goal:Prop} {wb:World} {sb:Nat} {p q:Int} {o:Nat->Nat} {s':St} {G:Nat->World->Prop} (main:(∀ pt W,Z67 wb W sb pt p q o s'->G pt W)->goal) (key:∀ pt W,Z67 wb W sb pt p q o s'->G pt W):goal:=main key
def Z5c (w:World) (sb:Nat) (o:Nat->Nat) (s':St) (e:Ending) (w':World):Prop:=e=.returned (.int .i64 0)/\Z0Z w sb o s' w'
theorem Z9s {w:World} {sb x i c3:Nat} {o:Nat->Nat} {s s1:St} {y:ZA} {t:TE} {name:ByteArray} {l:List RV} {Sv:Nat->Prop} {A3:Option Addr} {p q:Int} (h:Zn w sb o s) (hx:U64 x) (hy:s.sn x=some y) (hf:Z1r s.L y name s.T=some i) (ht:s.T[i]?=some t) (hU:U8 w) (hc:t.cols.length <= 8)
  (hn:Z2A (Z04 t) l) (hv:Rd w Sv 4 A3 l.length (Z0P l)) (hc3:l.length <= c3) (hm3:c3 <= maxLen) (hlast:s.last+1 < 18446744073709551616) (hl1:s1.last=s.last)
  (hput:∀ (W:World) (A2:Option Addr) (c2:Nat) (A5:Option Addr) (c5:Nat),Quiet w W->Rd W (fun k=>w.heap.size <= k) 2 A2 t.cols.length (ZZ t.cols)->t.cols.length <= c2->c2 <= maxLen->Rd W (fun k=>w.heap.size <= k) 1 A5 (Zq l).length (Z9 (Zq l))->(Zq l).length <= c5->c5 <= maxLen →
    Calls Tryz.prog 39 #[ptrV sb,Z0g t A2 c2,ZC ⟨s.last+1,x,0,-1,-1,Zq l⟩ A5 c5] W (Z4V W sb o s1 p q)) :
  Calls Tryz.prog 10 #[ptrV sb,.int .u64 (x:Int),.string name,.slice A3 l.length c3] w (Z5c w sb o { s1 with last:=s.last+1 }):=by
 have HO:=zh (Z6m h hx hy hf ht)
 have HH:=zh h
 have HC:=zh hc
 have HU:=zh hU
 have HL1:=zh hl1
 have HPU:=zh hput
 have HN:=zh hn
 have HV:=zh hv
 have HC3:=zh (And.intro hc3 hm3)
 obtain ⟨ln,hln⟩:∃ ln,s.last+1=ln:=⟨_,rfl⟩
 rw [hln] at hlast
 have HLN:=zh hln
 have HLA:=zh hlast
 have en:((s.last:Int)+1)=(ln:Int):=by rw [<- hln];omega
 have hw:IntKind.u64.wrap (ln:Int)=(ln:Int):=ZiZ ln hlast
 have HW:=zh hw
 have HEN:=zh en
 clear h hx hy hf ht hU hc hn hv hc3 hm3 hlast hln hw en hl1 hput
 go_enter Tryz.func10,Tryz.ntmps10
 go_wp2_with fail
 refine HO.out.mono ?_
 rintro e w1 ⟨A,c,A2,c2,rfl,hq1,hs1,hf1,hc2,hm2⟩
 clear HO
 have HQ1:=zh hq1
 have HF1:=zh hf1
 have HC2:=zh (And.intro hc2 hm2)
 have q2:Quiet w1 ((w1.alloc (.cells (snapCells y A c) 76)).alloc (.cells #[.int .u64 (t.id:Int),.string t.name,.slice A2 t.cols.length c2,.int .u64 (t.xmin:Int),.int .u64 (t.xmax:Int)] 90)):=((Z0.refl _ _).alloc _).alloc _
 have b10:=Z0y w1 (.cells (snapCells y A c) 76) (.cells #[.int .u64 (t.id:Int),.string t.name,.slice A2 t.cols.length c2,.int .u64 (t.xmin:Int),.int .u64 (t.xmax:Int)] 90)
 have HQ2:=zh q2
 have HB10:=zh b10
 obtain ⟨r9,hr9⟩:∃ r9,w1.heap.size=r9:=⟨_,rfl⟩
 obtain ⟨r10,hr10⟩:∃ r10,r9+1=r10:=⟨_,rfl⟩
 rw [hr9] at HB10
 rw [hr10] at HB10
 have HR10:Hid (w1.heap.size <= r10):=by show _ <= _;omega
 have HE9:=zh hr9
 have HE10:=zh hr10
 clear hq1 hs1 hf1 hc2 hm2 q2 b10 hr9 hr10
 unfold Zm Z0g
 go_wp2_with fail
 (try simp only [World.size_alloc])
 rw [HE9.out,HE10.out]
 generalize (w1.alloc (.cells #[.int .u64 (y.own:Int),.int .u64 (y.xmin:Int),.int .u64 (y.xmax:Int),.slice A y.run.length c] 76)).alloc (.cells #[.int .u64 (t.id:Int),.string t.name,.slice A2 t.cols.length c2,.int .u64 (t.xmin:Int),.int .u64 (t.xmax:Int)] 90)=w2 at *
 have HKND:Hid (Calls Tryz.prog 38 #[Z0g t A2 c2] w2 (Z3B w2 (Z04 t))):=by
  obtain ⟨A',c',e',h1,h2,h3⟩:=Za HF1.out.own
  injection e' with e1 _ e2
  subst e1 e2
  have h4:=h3.kept HQ2.out (fun _ _ x=>x)
  exact Z4d h4 HC2.out.1 HC2.out.2 (by have:=HC.out;omega)
 unfold Z0g at HKND
 refine HKND.out.mono ?_
 rintro e w3 ⟨v3,rfl,hf3⟩
 obtain ⟨A9,c9,rfl,hc9,hm9,hrd9⟩:=Za hf3.own
 have HQ3:Hid (Quiet w2 w3):=hf3.quiet
 have HQV:Hid (Quiet w w3):=(HQ1.out.trans HQ2.out).trans HQ3.out
 have HRB:=zh (Z7f (HU.out.quietly HQV.out) HN.out (by exact hrd9) rfl (HV.out.kept HQV.out (fun _ _ x=>x)) rfl hc9 hm9 HC3.out.1 HC3.out.2)
 clear hf3 hc9 hm9 hrd9 HKND
 go_wp2_with fail
 refine HRB.out.mono ?_
 rintro e wb ⟨v5,rfl,hf5⟩
 obtain ⟨A5,c5,rfl,hc5,hm5,hrd5⟩:=Za hf5.own
 have HQB:Hid (Quiet w wb):=HQV.out.trans hf5.quiet
 have HQ35:Hid (Quiet w3 wb):=hf5.quiet
 have HB10b:=zh (hf5.quiet.get (HQ3.out.get HB10.out (fun x=>x)) (fun x=>x))
 have HRD5:=zh hrd5
 have HNEW5:Hid (∀ k,(Value.slice A5 (Zq l).length c5).ownBlock=some k->w.heap.size <= k):=fun k e=>Nat.le_trans HQV.out.size (hf5.new k e)
 have HHB:=zh (HH.out.quietly HQB.out)
 have HBZ:Hid (∀ k,wb.heap.size <= k->o k=0):=HHB.out.big
 have HBG:Hid (∀ k,wb.heap.size <= k->¬ o k ≠ 0):=fun k hk e=>e (HBZ.out k hk)
 have hx10:o r10=0:=HH.out.big r10 (by have:=HQ1.out.size;have:=HR10.out;omega)
 have HX10:Hid (¬ o r10 ≠ 0):=fun e=>e hx10
 have HS7:Hid (∀ W,Z0 (fun k=>o k ≠ 0) wb W->W.cell? ⟨sb,6,none⟩=some (.int .u64 (s.last:Int))->(fun w'=>w'.cell? ⟨sb,6,none⟩=some (.int .u64 (s.last:Int))/\w'.cell? ⟨r10,0,none⟩=some (.int .u64 (t.id:Int))/\w'.cell? ⟨r10,1,none⟩=some (.string t.name)/\w'.cell? ⟨r10,2,none⟩=some (.slice A2 t.cols.length c2)/\w'.cell? ⟨r10,3,none⟩=some (.int .u64 (t.xmin:Int))/\w'.cell? ⟨r10,4,none⟩=some (.int .u64 (t.xmax:Int))) W):=fun W hq h6=>by
  have b:=Z0w (hq.get HB10b.out HX10.out)
  exact ⟨h6,b⟩
 have HC6:=zh HHB.out.cell6.1
 have HPUT:Hid (∀ W,Quiet wb W->Calls Tryz.prog 39 #[ptrV sb,.agg #[.int .u64 (t.id:Int),.string t.name,.slice A2 t.cols.length c2,.int .u64 (t.xmin:Int),.int .u64 (t.xmax:Int)],.agg #[.int .u64 (ln:Int),.int .u64 (x:Int),.int .u64 0,.int .i64 (-1),.int .i64 (-1),.slice A5 (Zq l).length c5]] W (Z4V W sb o s1 p q)):=fun W hq=>by
  obtain ⟨A',c',e',h1,h2,h3⟩:=Za HF1.out.own
  injection e' with e1 _ e2
  subst e1 e2
  have hp:=HPU.out W A2 c2 A5 c5 (HQB.out.trans hq) ((((h3.kept HQ2.out (fun _ _ x=>x)).kept (HQ3.out.trans HQ35.out) (fun _ _ x=>x)).kept hq (fun _ _ x=>x)).mono (fun k e=>HF1.out.new k e)) HC2.out.1 HC2.out.2 (by have:=(HRD5.out.kept hq (fun _ _ x=>x)).mono (T:=fun k=>w.heap.size <= k) (fun k e=>HNEW5.out k e);exact this) (by have:=hc5;exact this) hm5
  rw [HLN.out] at hp
  unfold Z0g ZC at hp
  dsimp only at hp
  exact hp
 clear hf5 hrd5 hc5 hm5 hx10 HRB
 go_wp2_with fail
 apply Zef (wb:=wb) (sb:=sb) (p:=p) (q:=q) (o:=o) (s':=s1)
 case main =>
   intro KEY
   have hw:=HW.out
   have en:=HEN.out
   refine wp_region_held_drew (S:=(fun w'=>w'.cell? ⟨sb,6,none⟩=some (.int .u64 (s.last:Int))/\w'.cell? ⟨r10,0,none⟩=some (.int .u64 (t.id:Int))/\w'.cell? ⟨r10,1,none⟩=some (.string t.name)/\w'.cell? ⟨r10,2,none⟩=some (.slice A2 t.cols.length c2)/\w'.cell? ⟨r10,3,none⟩=some (.int .u64 (t.xmin:Int))/\w'.cell? ⟨r10,4,none⟩=some (.int .u64 (t.xmax:Int)))) (by kernel_rfl) (HS7.out _ ((Z0.refl _ _).drew) (((Z0.refl (fun _=>False) wb).drew).cell HC6.out (fun x=>x))) (fun Z3=>?_)
   simp only [List.size_toArray,List.length_cons,List.length_nil,Nat.reduceAdd]
   have q0:Quiet wb wb.drew:=(Z0.refl _ _).drew
   generalize wb.drew=d0 at q0 Z3 ⊢
   refine zT 0 ?_
   refine zT 1 ?_
   refine zT 2 ?_
   refine zT 3 ?_
   refine zT 4 ?_
   refine zT 5 ?_
   refine zT 6 ?_
   refine zT 7 ?_
   refine zT 9 ?_
   refine wpAnyH_ready (rs:=[8,15]) (by kernel_rfl) (by simp) ?_
   refine zA ?_ ?_
   ·intro K hK
    go_simp
    go_at_call 40
    refine (Z3h _).mono ?_
    rintro e d1 ⟨rfl,hqn⟩
    have q1:=q0.trans hqn
    clear hqn
    dsimp only
    refine hK.out _ _ ?_ (fun Z3=>?_)
    ·exact HS7.out _ (q1.mono (fun _ _ x=>x.elim)) (q1.cell HC6.out (fun x=>x))
    clear hK K
    (try simp only [Act.put,zPA,zPZ,zPS])
    refine zT 10 ?_
    refine wpAnyH_ready (rs:=[11,15]) (by kernel_rfl) (by simp) ?_
    refine zA ?_ ?_
    ·intro K hK
     go_simp
     go_at_call 39
     refine (HPUT.out _ q1).mono ?_
     rintro e d2 ⟨rfl,o2,ho2,hw2,hst2⟩
     have q2:=(q1.mono (T:=(fun k=>o k ≠ 0)) (fun _ _ x=>x.elim)).trans hw2
     have hz2:=q1.size
     have ho3:∀ k,k < wb.heap.size->o2 k=o k:=fun k hk=>ho2 k (by omega)
     clear ho2 hw2 hz2
     dsimp only
     refine hK.out _ _ ?_ (fun Z3=>?_)
     ·exact HS7.out _ q2 (Z2p HL1.out hst2.cell6.1)
     clear hK K
     (try simp only [Act.put,zPA,zPZ,zPS])
     refine zT 12 ?_
     refine zT 13 ?_
     refine zT 14 ?_
     refine zR 15 ?_
     intro K hK
     go_simp
     refine hK.out _ _ ?_ (fun Z3=>?_)
     ·exact HS7.out _ (q2.alloc _) (((Z0.refl (fun _=>False) d2).alloc _).cell (Z2p HL1.out hst2.cell6.1) (fun x=>x))
     clear hK K
     (try simp only [Act.put,zPA,zPZ,zPS])
     have hbig2:=Zn.big hst2
     have qe2:=q2.alloc (.cells #[.int .i64 0,.int .i64 0] 48)
     have hb1:=Z4 d2 (.cells #[.int .i64 0,.int .i64 0] 48)
     have hnp:wb.heap.size <= d2.heap.size:=q2.size
     have hst2:=hst2.quietly ((Z0.refl (fun _=>False) d2).alloc (.cells #[.int .i64 0,.int .i64 0] 48))
     have hop:o2 d2.heap.size=0:=hbig2 _ (Nat.le_refl _)
     obtain ⟨pt,hpt⟩:∃ pt,d2.heap.size=pt:=⟨_,rfl⟩
     (try rw [hpt] at hb1)
     (try rw [hpt] at hnp)
     (try rw [hpt])
     (try rw [hpt] at hop)
     generalize d2.alloc (.cells #[.int .i64 0,.int .i64 0] 48)=e2 at *
     clear hpt
     obtain ⟨z0,z1⟩:=zC2 hb1
     have zf:=fun o=>Z7 hb1 o
     refine zR 16 ?_
     intro K hK
     go_simp
     refine hK.out _ _ ?_ (fun Z3=>?_)
     ·exact HS7.out _ (Z15 qe2 hnp hb1 hst2 hop ho3 (p:=p) (q:=q)).only (Z2p HL1.out (Z15 qe2 hnp hb1 hst2 hop ho3 (p:=p) (q:=q)).cell6)
     clear hK K
     (try simp only [Act.put,zPA,zPZ,zPS])
     have HG:=(Z15 qe2 hnp hb1 hst2 hop ho3 (p:=p) (q:=q))
     refine zT 17 ?_
     refine zD ?_
     generalize (e2.setCell ⟨pt,0,none⟩ (.int .i64 p)).setCell ⟨pt,1,none⟩ (.int .i64 q)=WF at HG ⊢
     exact KEY _ _ HG
    refine zA ?_ AllReadyH.nil
    intro K hK
    go_simp
    refine hK.out _ _ ?_ (fun Z3=>?_)
    ·exact HS7.out _ ((q1.alloc _).mono (fun _ _ x=>x.elim)) ((q1.alloc _).cell HC6.out (fun x=>x))
    clear hK K
    (try simp only [Act.put,zPA,zPZ,zPS])
    have qe1:=q1.alloc (.cells #[.int .i64 0,.int .i64 0] 48)
    have hb1:=Z4 d1 (.cells #[.int .i64 0,.int .i64 0] 48)
    have hnp:wb.heap.size <= d1.heap.size:=q1.size
    obtain ⟨pt,hpt⟩:∃ pt,d1.heap.size=pt:=⟨_,rfl⟩
    (try rw [hpt] at hb1)
    (try rw [hpt] at hnp)
    (try rw [hpt])
    generalize d1.alloc (.cells #[.int .i64 0,.int .i64 0] 48)=e1 at *
    clear hpt
    refine zR 11 ?_
    intro K hK
    go_simp
    go_at_call 39
    refine (HPUT.out _ qe1).mono ?_
    rintro e d2 ⟨rfl,o2,ho2,hw2,hst2⟩
    have q2:=(qe1.mono (T:=(fun k=>o k ≠ 0)) (fun _ _ x=>x.elim)).trans hw2
    have hz2:=qe1.size
    have hb2:=hw2.get hb1 (HBG.out _ hnp)
    have hop:o2 pt=0:=by rw [ho2 pt (Z2 hb1)];exact HBZ.out _ hnp
    have ho3:∀ k,k < wb.heap.size->o2 k=o k:=fun k hk=>ho2 k (by omega)
    clear ho2 hw2 hz2
    dsimp only
    refine hK.out _ _ ?_ (fun Z3=>?_)
    ·exact HS7.out _ q2 (Z2p HL1.out hst2.cell6.1)
    clear hK K
    (try simp only [Act.put,zPA,zPZ,zPS])
    obtain ⟨z0,z1⟩:=zC2 hb2
    have zf:=fun o=>Z7 hb2 o
    refine zT 12 ?_
    refine zT 13 ?_
    refine zT 14 ?_
    refine zR 16 ?_
    intro K hK
    go_simp
    refine hK.out _ _ ?_ (fun Z3=>?_)
    ·exact HS7.out _ (Z15 q2 hnp hb2 hst2 hop ho3 (p:=p) (q:=q)).only (Z2p HL1.out (Z15 q2 hnp hb2 hst2 hop ho3 (p:=p) (q:=q)).cell6)
    clear hK K
    (try simp only [Act.put,zPA,zPZ,zPS])
    have HG:=(Z15 q2 hnp hb2 hst2 hop ho3 (p:=p) (q:=q))
    refine zT 17 ?_
    refine zD ?_
    generalize (d2.setCell ⟨pt,0,none⟩ (.int .i64 p)).setCell ⟨pt,1,none⟩ (.int .i64 q)=WF at HG ⊢
    exact KEY _ _ HG
   refine zA ?_ AllReadyH.nil
   intro K hK
   go_simp
   refine hK.out _ _ ?_ (fun Z3=>?_)
   ·exact HS7.out _ ((q0.alloc _).mono (fun _ _ x=>x.elim)) ((q0.alloc _).cell HC6.out (fun x=>x))
   clear hK K
   (try simp only [Act.put,zPA,zPZ,zPS])
   have qe0:=q0.alloc (.cells #[.int .i64 0,.int .i64 0] 48)
   have hb1:=Z4 d0 (.cells #[.int .i64 0,.int .i64 0] 48)
   have hnp:wb.heap.size <= d0.heap.size:=q0.size
   obtain ⟨pt,hpt⟩:∃ pt,d0.heap.size=pt:=⟨_,rfl⟩
   (try rw [hpt] at hb1)
   (try rw [hpt] at hnp)
   (try rw [hpt])
   generalize d0.alloc (.cells #[.int .i64 0,.int .i64 0] 48)=e0 at *
   clear hpt
   refine zR 8 ?_
   intro K hK
   go_simp
   go_at_call 40
   refine (Z3h _).mono ?_
   rintro e d1 ⟨rfl,hqn⟩
   have q1:=qe0.trans hqn
   have hbq:=hqn.get hb1 (fun x=>x)
   clear hb1
   have hb1:=hbq
   clear hbq
   clear hqn
   dsimp only
   refine hK.out _ _ ?_ (fun Z3=>?_)
   ·exact HS7.out _ (q1.mono (fun _ _ x=>x.elim)) (q1.cell HC6.out (fun x=>x))
   clear hK K
   (try simp only [Act.put,zPA,zPZ,zPS])
   refine zT 10 ?_
   refine zR 11 ?_
   intro K hK
   go_simp
   go_at_call 39
   refine (HPUT.out _ q1).mono ?_
   rintro e d2 ⟨rfl,o2,ho2,hw2,hst2⟩
   have q2:=(q1.mono (T:=(fun k=>o k ≠ 0)) (fun _ _ x=>x.elim)).trans hw2
   have hz2:=q1.size
   have hb2:=hw2.get hb1 (HBG.out _ hnp)
   have hop:o2 pt=0:=by rw [ho2 pt (Z2 hb1)];exact HBZ.out _ hnp
   have ho3:∀ k,k < wb.heap.size->o2 k=o k:=fun k hk=>ho2 k (by omega)
   clear ho2 hw2 hz2
   dsimp only
   refine hK.out _ _ ?_ (fun Z3=>?_)
   ·exact HS7.out _ q2 (Z2p HL1.out hst2.cell6.1)
   clear hK K
   (try simp only [Act.put,zPA,zPZ,zPS])
   obtain ⟨z0,z1⟩:=zC2 hb2
   have zf:=fun o=>Z7 hb2 o
   refine zT 12 ?_
   refine zT 13 ?_
   refine zT 14 ?_
   refine zR 16 ?_
   intro K hK
   go_simp
   refine hK.out _ _ ?_ (fun Z3=>?_)
   ·exact HS7.out _ (Z15 q2 hnp hb2 hst2 hop ho3 (p:=p) (q:=q)).only (Z2p HL1.out (Z15 q2 hnp hb2 hst2 hop ho3 (p:=p) (q:=q)).cell6)
   clear hK K
   (try simp only [Act.put,zPA,zPZ,zPS])
   have HG:=(Z15 q2 hnp hb2 hst2 hop ho3 (p:=p) (q:=q))
   refine zT 17 ?_
   refine zD ?_
   generalize (d2.setCell ⟨pt,0,none⟩ (.int .i64 p)).setCell ⟨pt,1,none⟩ (.int .i64 q)=WF at HG ⊢
   exact KEY _ _ HG
 case key =>
  intro pt W HL0
  have HL:=zh HL0
  obtain ⟨o',ho',hst,hop⟩:=HL0.st
  have hq:=HL0.only
  clear HL0 HS7 HPUT HC6
  have HPO:Hid (Z5c w sb o { s1 with last:=s.last+1 } (.returned (.int .i64 0)) (W.setCell ⟨sb,6,none⟩ (.int .u64 (ln:Int)))):=by
   obtain ⟨lb,bb,pb,mh,mt,ms,fh,ft,fs,h⟩:=hst
   have h2:=h.setLast (z:=(ln:Int)) rfl HLA.out
   have hs1:=HHB.out.cell6.2
   have h3:Zj (W.setCell ⟨sb,6,none⟩ (.int .u64 (ln:Int))) sb o' { s1 with last:=s.last+1 } lb bb pb mh mt ms fh ft fs:=by
    rw [HLN.out]
    exact h2
   refine ⟨rfl,o',fun k hk=>ho' k (Nat.lt_of_lt_of_le hk HQB.out.size),?_,_,_,_,_,_,_,_,_,_,h3⟩
   exact ((HQB.out.mono (fun _ _ x=>x.elim)).trans' hq (fun k _ x=>x)).setCell (fun _=>by show o sb ≠ 0;omega) _
  have c6:W.cell? ⟨sb,6,none⟩=some (.int .u64 (s.last:Int)):=Z2p HL1.out hst.cell6.1
  have f6:W.frozen? ⟨sb,6,none⟩=false:=by
   obtain ⟨lb,bb,pb,mh,mt,ms,fh,ft,fs,h⟩:=hst
   exact Z7 h.box 6
  have hw:=HW.out
  have en:=HEN.out
  clear hst hop hq
  go_wp2
  go_ret
  exact HPO.out
theorem ZcJ:(Tryz.prog.info? 84).map (·.size)=some 6:=by kernel_rfl
theorem ZcK:Z0c Tryz.prog 121 84 6 56:=Z0c.mk' (.agg #[.int .u64 0,.string ⟨#[]⟩,.int .u64 0,.int .i64 0,.int .u64 0,.int .u64 0]) Tryz.underlying121 (by kernel_rfl) rfl (by decide)
def Zeh (w:World) (e:IE) (r:Ending) (w':World):Prop:=r=.returned (.agg #[.int .u64 (e.id:Int),.string e.name,.int .u64 (e.table:Int),.int .i64 (e.column:Int),.int .u64 (e.xmin:Int),.int .u64 (e.xmax:Int)])/\Quiet w w'
theorem Z2f.cells {w:World} {F:Nat->Prop} {xb:Nat} {e:IE} (h:Z2f w F xb e):w.cell? ⟨xb,0,none⟩=some (.int .u64 (e.id:Int))/\w.cell? ⟨xb,1,none⟩=some (.string e.name)/\w.cell? ⟨xb,2,none⟩=some (.int .u64 (e.xmin:Int))/\w.cell? ⟨xb,3,none⟩=some (.int .u64 (e.xmax:Int))/\w.cell? ⟨xb,4,none⟩=some (.int .u64 (e.table:Int))/\w.cell? ⟨xb,5,none⟩=some (.int .i64 (e.column:Int)) :=
 ⟨by rw [Z1 h.box];rfl,by rw [Z1 h.box];rfl,by rw [Z1 h.box];rfl,by rw [Z1 h.box];rfl,by rw [Z1 h.box];rfl,by rw [Z1 h.box];rfl⟩
theorem Z9t {w:World} {F:Nat->Prop} {xb:Nat} {e:IE} (h:Z2f w F xb e) :
  Calls Tryz.prog 61 #[ptrV xb] w (Zeh w e):=by
 have HQ0:Hid (Quiet w (w.alloc (.cells #[.int .u64 0,.string ⟨#[]⟩,.int .u64 0,.int .i64 0,.int .u64 0,.int .u64 0] 84))):=(Z0.refl _ _).alloc _
 have HB2:=zh (Z4 w (.cells #[.int .u64 0,.string ⟨#[]⟩,.int .u64 0,.int .i64 0,.int .u64 0,.int .u64 0] 84))
 have hlx:=Z2 h.box
 obtain ⟨r2,hr2⟩:∃ r2,w.heap.size=r2:=⟨_,rfl⟩
 rw [hr2] at HB2
 have HR2:Hid (xb ≠ r2/\w.heap.size <= r2):=⟨by omega,by omega⟩
 have HH:=zh h
 clear h hlx
 go_enter Tryz.func61,Tryz.ntmps61
 go_wp2_with fail
 (try rw [hr2])
 generalize w.alloc (.cells #[.int .u64 0,.string ⟨#[]⟩,.int .u64 0,.int .i64 0,.int .u64 0,.int .u64 0] 84)=w1 at *
 have HS:Hid (∀ W,Z0 (fun k=>k=r2) w1 W->(fun w'=>w'.cell? ⟨xb,0,none⟩=some (.int .u64 (e.id:Int))/\w'.cell? ⟨xb,1,none⟩=some (.string e.name)/\w'.cell? ⟨xb,2,none⟩=some (.int .u64 (e.xmin:Int))/\w'.cell? ⟨xb,3,none⟩=some (.int .u64 (e.xmax:Int))/\w'.cell? ⟨xb,4,none⟩=some (.int .u64 (e.table:Int))/\w'.cell? ⟨xb,5,none⟩=some (.int .i64 (e.column:Int))) W):=fun W ho=>by
  obtain ⟨c0,c1,c2,c3,c4,c5⟩:=(HH.out.kept HQ0.out (fun _ _ x=>x)).cells
  exact ⟨ho.cell c0 (fun x=>HR2.out.1 x),ho.cell c1 (fun x=>HR2.out.1 x),ho.cell c2 (fun x=>HR2.out.1 x),ho.cell c3 (fun x=>HR2.out.1 x),ho.cell c4 (fun x=>HR2.out.1 x),ho.cell c5 (fun x=>HR2.out.1 x)⟩
 clear hr2
 refine zH HS ((Z0.refl _ _).drew) (fun Z3=>?_)
 have q0:Quiet w1 w1.drew:=(Z0.refl _ _).drew
 generalize w1.drew=d0 at q0 Z3 ⊢
 refine zT 0 ?_
 refine zT 1 ?_
 refine zT 2 ?_
 refine zT 3 ?_
 refine zT 4 ?_
 refine zT 5 ?_
 refine zT 6 ?_
 refine zT 7 ?_
 refine zT 8 ?_
 refine zT 9 ?_
 refine zT 10 ?_
 refine zT 11 ?_
 refine zT 12 ?_
 refine zT 13 ?_
 refine zT 14 ?_
 refine zT 15 ?_
 refine zT 16 ?_
 refine zT 17 ?_
 refine zT 18 ?_
 refine zT 19 ?_
 refine zT 20 ?_
 refine zT 21 ?_
 refine zT 22 ?_
 refine zT 23 ?_
 refine zT 24 ?_
 refine zT 25 ?_
 refine zT 26 ?_
 refine zT 27 ?_
 refine zT 28 ?_
 refine zR 29 ?_
 intro K hK
 have h2:=q0.get HB2.out (fun x=>x)
 obtain ⟨z0,z1,z2,z3,z4,z5⟩:=zC6 h2
 have zf:=fun o=>Z7 h2 o
 go_simp
 refine hK.out _ _ ?_ (fun Z3=>?_)
 ·exact HS.out _ ((q0.mono (T:=fun k=>k=r2) (fun _ _ x=>x.elim)).trans' (Z0L d0 r2 (.int .u64 (e.id:Int)) (.string e.name) (.int .u64 (e.table:Int)) (.int .i64 (e.column:Int)) (.int .u64 (e.xmin:Int)) (.int .u64 (e.xmax:Int))) (fun k _ e=>e))
 clear hK K
 (try simp only [Act.put,zPA,zPZ,zPS])
 refine zD ?_
 have HX:Hid ((sixSet d0 r2 (.int .u64 (e.id:Int)) (.string e.name) (.int .u64 (e.table:Int)) (.int .i64 (e.column:Int)) (.int .u64 (e.xmin:Int)) (.int .u64 (e.xmax:Int))).heap[r2]?=some (.cells #[.int .u64 (e.id:Int),.string e.name,.int .u64 (e.table:Int),.int .i64 (e.column:Int),.int .u64 (e.xmin:Int),.int .u64 (e.xmax:Int)] 84 (0,0))):=Z1a h2 _ _ _ _ _ _
 have HP:Hid (Zeh w e (.returned (.agg #[.int .u64 (e.id:Int),.string e.name,.int .u64 (e.table:Int),.int .i64 (e.column:Int),.int .u64 (e.xmin:Int),.int .u64 (e.xmax:Int)])) (sixSet d0 r2 (.int .u64 (e.id:Int)) (.string e.name) (.int .u64 (e.table:Int)) (.int .i64 (e.column:Int)) (.int .u64 (e.xmin:Int)) (.int .u64 (e.xmax:Int)))):=⟨rfl,(HQ0.out.trans q0).trans' (Z0L d0 r2 (.int .u64 (e.id:Int)) (.string e.name) (.int .u64 (e.table:Int)) (.int .i64 (e.column:Int)) (.int .u64 (e.xmin:Int)) (.int .u64 (e.xmax:Int))) (fun k hk e=>by have:=HR2.out.2;omega)⟩
 unfold sixSet at HX HP
 clear Z3 q0 h2 z0 z1 z2 z3 z4 z5 zf
 go_wp2
 exact bodyPost_ret (Z0j Tryz.results61 _ _ r2 _ _ (0,0) _ (by rfl) HX.out Tryz.underlying84 rfl ZcJ) (by rfl) HP.out
structure Z1Z (w wr:World) (v:Value) (l:List IE):Prop where
 quiet:Quiet w wr
 new:∀ k,v.ownBlock=some k->w.heap.size <= k
 own:wr.ownsRow 0 84 6 v l.length (idxV l)
theorem Z1Z.start {w wr:World} (h:Quiet w wr):Z1Z w wr (.slice none 0 0) []:=⟨h,(fun k e=>by cases e),World.ownsRow_nil _ _ _ _⟩
theorem Z1Z.quietly {w wr w':World} {v:Value} {l:List IE} (h:Z1Z w wr v l) (hq:Quiet wr w'):Z1Z w w' v l:=⟨h.quiet.trans hq,h.new,Z5 h.own hq (fun _ _ x=>x)⟩
theorem Z1Z.push {w w3 w4:World} {v v':Value} {l:List IE} {e:IE} (h:Z1Z w w3 v l) (hg:ZT w3 w4 84 6 v v' (l.length+1) (idxV l ++ Z5d e)):Z1Z w w4 v' (l ++ [e]):=by
 have hsz:=h.quiet.size
 refine ⟨h.quiet.trans' hg.only (fun k hk e=>by have:=h.new k e;omega),fun k e=>?_,?_⟩
 ·rcases hg.loc with y | y
  ·rw [y] at e;exact h.new k e
  ·rw [y] at e;injection e with e;omega
 ·rw [List.length_append,Z81]
  have e1:idxV [e]=Z5d e:=by simp [idxV]
  rw [e1]
  exact hg.own
def Z6p (w:World) (l:List IE) (e:Ending) (w':World):Prop:=∃ v,e=.returned v/\Z1Z w w' v l
theorem ZaX {w:World} {F Fl:Nat->Prop} {bb lb last id:Nat} {T:List TE} {I:List IE} {L:List Nat} (h:ZV w F bb T I last) (hl:ZJ w Fl lb L) (hI:I.length <= 1000) :
  Calls Tryz.prog 80 #[ptrV bb,ptrV lb,.int .u64 (id:Int)] w (Z6p w (ZQ L id I)):=by
 obtain ⟨vT,tps,vI,ips,h,h2,h3⟩:=h
 obtain ⟨_,c1,_⟩:=h.cells
 obtain ⟨A,c,hv,hc,hm,hf⟩:=Z2v h.rowI
 subst hv
 have HF:=zh hf
 have HX:=zh h3
 have HL:=zh hl
 have lbb:=Z2 h.box
 obtain ⟨n,hn⟩:∃ n,I.length=n:=⟨_,rfl⟩
 have hin:ips.length=n:=h2.trans hn
 rw [hin] at c1 hc
 have HIN:=zh hin
 have HN:=zh hn
 rw [hn] at hI
 obtain ⟨Z8,Z6⟩:∃ Z8,Z6p w (ZQ L id I)=Z8:=⟨_,rfl⟩
 rw [Z6]
 have Ze:=zh Z6
 unfold maxLen at hm
 clear h h2 h3 hf hl hn hin Z6
 go_enter Tryz.func80,Tryz.ntmps80
 go_wp2
 go_loopw [17,7,9] (fun i v _ wr=>∃ (k:Nat) (v':Value),k <= n/\i=.int .i64 (k:Int)/\v=v'/\Z1Z w wr v' (ZQ L id (I.take k))) (fun i _ _ _=>n - (intOf i).toNat)
 case atStart=>exact ⟨0,_,Nat.zero_le _,rfl,rfl,Z1Z.start (Z0.refl _ _)⟩
 case round =>
  obtain ⟨k,v',hk,rfl,rfl,hW⟩:=hrel
  have HW:=zh hW
  clear hW
  by_cases hlt:k < n
  ·obtain ⟨e,he⟩:∃ e,I[k]?=some e:=⟨_,zg (by have:=HN.out;omega)⟩
   obtain ⟨p,hp,hix⟩:=HX.out k e he
   obtain ⟨g,rfl,hg⟩:=HF.out k p hp
   have hg2:=HW.out.quiet.cell hg (fun x=>x)
   have hix2:=hix.kept HW.out.quiet (fun _ _ x=>x)
   obtain ⟨e0,e1,e2,e3,e4,e5⟩:=hix2.cells
   have HT:=zh (Zfs (L:=L) (id:=id) he)
   have HIX:=zh hix2
   have HST:Hid (Calls Tryz.prog 70 #[ptrV lb,.int .u64 (e.xmin:Int)] wr (fun r w'=>r=.returned (.int .i64 (stateL L e.xmin:Int))/\∃ m,w'=wr.drewN m)):=Z2P (HL.out.kept HW.out.quiet (fun _ _ x=>x)) hix.num.2.1
   clear he hp hg hix hix2
   by_cases ht:e.table=id
   ·obtain ⟨sx,hsx⟩:∃ sx,stateL L e.xmin=sx:=⟨_,rfl⟩
    rw [hsx] at HST HT
    have htb:((e.table:Int) == (id:Int))=true:=by simp [ht]
    have htd:decide (e.table=id)=true:=decide_eq_true ht
    rw [htd] at HT
    by_cases h3:sx=3
    ·have HEQ:Hid (ZQ L id (I.take (k+1))=ZQ L id (I.take k)):=by
      show _=_
      rw [HT.out,h3]
      simp
     subst ht
     subst h3
     clear htb htd HT
     go_wp2_with fail
     refine HST.out.mono ?_
     rintro r w2 ⟨rfl,m,rfl⟩
     have HW2:=zh (HW.out.quietly ((Z0.refl (fun _=>False) wr).drewN m))
     rw [<- HEQ.out] at HW2
     clear HST
     go_wp2
     go_roundw
     case rel=>exact ⟨k+1,_,by omega,by go_num,rfl,HW2.out⟩
     case measure=>simp [intOf];omega
    ·have HEQ:Hid (ZQ L id (I.take (k+1))=ZQ L id (I.take k) ++ [e]):=by
      show _=_
      rw [HT.out]
      simp [h3]
     have h3i:¬ (sx:Int)=3:=by omega
     subst ht
     clear htb htd HT h3
     go_wp2_with fail
     refine HST.out.mono ?_
     rintro r w2 ⟨rfl,m,rfl⟩
     have hqd:Quiet wr (wr.drewN m):=(Z0.refl (fun _=>False) wr).drewN m
     have HW2:=zh (HW.out.quietly hqd)
     have HTO:=zh (Z9t (HIX.out.kept hqd (fun _ _ x=>x)))
     clear HST hqd
     go_wp2_with fail
     refine HTO.out.mono ?_
     rintro r w3 ⟨rfl,hq3⟩
     have HW3:=zh (HW2.out.quietly hq3)
     have HRD:=zh (Rd.new w3 6 1 (Z5d e) 84 (fun _=>True) rfl trivial)
     have HW4:=zh (HW3.out.quietly ((Z0.refl (fun _=>False) w3).alloc (.cells (Z5d e).toArray 84)))
     have hml:(ZQ L e.table (I.take k)).length <= n:=by
      have e1:(ZQ L e.table (I.take k)).length <= (I.take k).length:=List.length_filter_le _ _
      rw [List.length_take] at e1
      omega
     obtain ⟨ml,hml2⟩:∃ ml,(ZQ L e.table (I.take k)).length=ml:=⟨_,rfl⟩
     have HML:=zh hml2
     have hown:=HW4.out.own
     rw [hml2] at hml hown
     have HOWN:=zh hown
     clear hq3 HTO hml2 hown e0 e1 e2 e3 e4 e5 hg2
     go_wp2_with (at_builtin;refine app ZcK rfl (.tmp 37) (.tmp 40) rfl rfl HOWN.out rfl HRD.out (Zeg e) (by unfold maxLen;omega) (by omega) ?_)
     intro v5 w5 hg5
     rw [<- HML.out] at hg5
     have HP:=zh (HW4.out.push hg5)
     rw [<- HEQ.out] at HP
     clear hg5 HW4 HRD HOWN HW3
     go_wp2
     go_roundw
     case rel=>exact ⟨k+1,_,by omega,by go_num,rfl,HP.out⟩
     case measure=>simp [intOf];omega
   ·have htb:((e.table:Int) == (id:Int))=false:=by simp;omega
    have HEQ:Hid (ZQ L id (I.take (k+1))=ZQ L id (I.take k)):=by
     show _=_
     rw [HT.out]
     simp [ht]
    have hti:¬ (e.table:Int)=(id:Int):=by omega
    have HW2:=HW.out
    rw [<- HEQ.out] at HW2
    have HW3:=zh HW2
    clear ht HT HST HW2
    go_wp2
    go_roundw
    case rel=>exact ⟨k+1,_,by omega,by go_num,rfl,HW3.out⟩
    case measure=>simp [intOf];omega
  ·obtain rfl:k=n:=by omega
   have Zc:Hid (Z8 (.returned u7) wr):=by
    rw [<- Ze.out]
    have:=HW.out
    rw [List.take_of_length_le (by have:=HN.out;omega)] at this
    exact ⟨u7,rfl,this⟩
   go_wp2
   exact Zc.out
theorem ZH.step2 {w wr w2 w4:World} {v v':Value} {l:List Nat} {x:Nat} (h:ZH w wr v l) (hq:Quiet wr w2) (hg:ZT w2 w4 5 1 v v' (l.length+1) (Z9 l ++ Z9 [x])):ZH w w4 v' (l ++ [x]):=by
 have hsz:=h.quiet.size
 have hs1:=hq.size
 refine ⟨(h.quiet.trans hq).trans' hg.only (fun k hk e=>by have:=h.new k e;omega),fun k e=>?_,?_⟩
 ·rcases hg.loc with y | y
  ·rw [y] at e;exact h.new k e
  ·rw [y] at e;injection e with e;omega
 ·rw [List.length_append,show Z9 (l ++ [x])=Z9 l ++ Z9 [x] by simp [Z9]]
  exact hg.own
theorem Z2q (s:ByteArray):s.data.toList.length=s.size:=by
 rw [Array.length_toList]
 rfl
theorem Zk4 {w:World} {S:Nat->Prop} {A:Option Addr} {v:RV} (h:Rd w S 4 A 1 (Z2x v)):∃ b off,A=some ⟨b,off,none⟩/\S b/\w.cell? ⟨b,off,none⟩=some (.int .u8 (v.k:Int))/\w.cell? ⟨b,off+1,none⟩=some (.int .i64 v.i)/\w.cell? ⟨b,off+2,none⟩=some (.string v.s)/\w.cell? ⟨b,off+3,none⟩=some (.bool v.b):=by
 obtain ⟨b,off,rfl,hb,hc⟩:=h.cells (by show 0 < 4;decide)
 exact ⟨b,off,rfl,hb,hc 0 _ rfl,hc 1 _ rfl,hc 2 _ rfl,hc 3 _ rfl⟩
theorem Za6 {w:World} {S2:Nat->Prop} {A2:Option Addr} {c2:Nat} {s:ByteArray} (hU:U8 w) (hvr:Zt ⟨2,0,s,false⟩=true) (h60:s.size <= 60) (hv:Rd w S2 4 A2 1 (Z2x ⟨2,0,s,false⟩)) (hc2:1 <= c2) (hm2:c2 <= maxLen) :
  Calls Tryz.prog 76 #[.slice A2 1 c2] w (Z40 w (ZW ⟨2,0,s,false⟩)):=by
 obtain ⟨b2,off2,rfl,_,v0,v1,v2,v3⟩:=Zk4 hv
 dsimp only at v0 v1 v2 v3
 have l2:=Zf v0
 dsimp only at l2
 unfold maxLen at hm2
 have HRT:Hid (∀ W,Quiet w W->Calls Tryz.prog 116 #[.agg #[.int .u8 2,.int .i64 0,.string s,.bool false]] W (Z0a W true)):=fun W hq=>by
  have:=Z2j ⟨2,0,s,false⟩ (by show s.size <= 1000000;omega) W (hU.quietly hq)
  rw [hvr] at this
  exact this
 obtain ⟨Z8,Z6⟩:∃ Z8,Z40 w (ZW ⟨2,0,s,false⟩)=Z8:=⟨_,rfl⟩
 rw [Z6]
 have Ze:=zh Z6
 clear hv Z6 hU hvr
 go_enter Tryz.func76,Tryz.ntmps76
 go_wp2_with fail
 refine wp_loop_rounds 2 ?_
 rw [rounds_succ]
 go_wp2_with fail
 have hb0:=Z4 w (.cells #[.int .u8 2,.int .i64 0,.string s,.bool false] 32)
 have hq0:Quiet w (w.alloc (.cells #[.int .u8 2,.int .i64 0,.string s,.bool false] 32)):=(Z0.refl _ _).alloc _
 obtain ⟨bx,hbx⟩:∃ bx,w.heap.size=bx:=⟨_,rfl⟩
 generalize w.alloc (.cells #[.int .u8 2,.int .i64 0,.string s,.bool false] 32)=w1 at *
 refine (HRT.out w1 hq0).mono ?_
 rintro e wb ⟨rfl,hq2⟩
 rw [hbx] at hb0
 have hb2:=hq2.get hb0 (fun x=>x)
 have HQ2:Hid (Quiet w wb):=hq0.trans hq2
 have HB2:=zh hb2
 have x0:wb.cell? ⟨bx,0,none⟩=some (.int .u8 2):=by rw [Z1 hb2];rfl
 have lbx:=Z2 hb2
 clear hb0 hq0 hq2 hb2 v0 v1 v2 v3 l2 HRT
 go_wp2_with fail
 have f0:ZH w wb.drew (.slice none 0 0) []:=⟨HQ2.out.drew,(fun k e=>by cases e),World.ownsRow_nil _ _ _ _⟩
 have hB0:wb.drew.heap[bx]?=some (.cells #[.int .u8 2,.int .i64 0,.string s,.bool false] 32 (0,0)):=HB2.out
 have HS8:(fun w'=>w'.cell? ⟨bx,2,none⟩=some (.string s)) wb.drew:=by show wb.drew.cell? ⟨bx,2,none⟩=some (.string s);rw [Z1 hB0];rfl
 refine wp_region_held_drew (S:=(fun w'=>w'.cell? ⟨bx,2,none⟩=some (.string s))) (by kernel_rfl) (HS8) (fun Z3=>?_)
 simp only [List.size_toArray,List.length_cons,List.length_nil,Nat.reduceAdd]
 generalize wb.drew=d0 at f0 hB0 Z3 ⊢
 refine zT 0 ?_
 refine zT 3 ?_
 refine zT 4 ?_
 refine wpAnyH_ready (rs:=[1,6]) (by kernel_rfl) (by simp) ?_
 refine zA ?_ ?_
 ·intro K hK
  go_simp
  refine hK.out _ _ ?_ (fun Z3=>?_)
  ·exact (show (d0.alloc (.cells #[.int .u8 4] 5)).cell? ⟨bx,2,none⟩=some (.string s) by rw [Z1 ((((Z0.refl (fun _=>False) d0).alloc _)).get hB0 (fun x=>x))];rfl)
  clear hK K
  (try simp only [Act.put,zPA,zPZ,zPS])
  have q1:Quiet d0 (d0.alloc (.cells #[.int .u8 4] 5)):=(Z0.refl _ _).alloc _
  have ra1:Rd (d0.alloc (.cells #[.int .u8 4] 5)) (fun k=>k=d0.heap.size) 1 (some ⟨d0.heap.size,0,none⟩) 1 (Z9 [4]):=Rd.new d0 1 1 (Z9 [4]) _ _ rfl rfl
  have la1:d0.heap.size < (d0.alloc (.cells #[.int .u8 4] 5)).heap.size:=by simp
  have ua1:∀ k,((Value.slice none 0 0):Value).ownBlock=some k->k ≠ d0.heap.size:=fun k e=>by have:=(f0.own.lt k e).2;omega
  obtain ⟨ba,hba⟩:∃ ba,d0.heap.size=ba:=⟨_,rfl⟩
  rw [hba] at ra1 la1 ua1
  (try rw [hba])
  generalize d0.alloc (.cells #[.int .u8 4] 5)=d1 at *
  have f1:=f0.quietly q1
  have hB1:=q1.get hB0 (fun x=>x)
  clear hba
  refine wpAnyH_ready (rs:=[2,6]) (by kernel_rfl) (by simp) ?_
  refine zA ?_ ?_
  ·intro K hK
   refine Z0B Z17 rfl (.tmp 21) (.tmp 22) rfl rfl f1.own rfl ra1 (Z0A [4]) (by simp only [List.length_nil];unfold maxLen;omega) (by simp only [List.length_nil];omega) ?_
   intro w2 d2 hg2
   have f2:=f1.step2 (x:=4) (Z0.refl _ _) hg2
   have hB2:d2.heap[bx]?=some (.cells #[.int .u8 2,.int .i64 0,.string s,.bool false] 32 (0,0)):=hg2.only.get hB1 (fun e=>by obtain ⟨cc,hcc⟩:=Zh f1.own e;exact Zb hcc hB1 (by decide) rfl)
   obtain ⟨g2,cap2,hv2⟩:∃ g cap,w2=.slice (some ⟨g,0,none⟩) 1 cap:=by
    rcases ZB f2.own with ⟨_,e⟩ | ⟨g2,cap2,e,_⟩
    ·simp at e
    ·exact ⟨g2,cap2,e⟩
   subst hv2
   refine hK.out _ _ ?_ (fun Z3=>?_)
   ·exact (show d2.cell? ⟨bx,2,none⟩=some (.string s) by rw [Z1 hB2];rfl)
   clear hK K
   (try simp only [Act.put,zPA,zPZ,zPS])
   refine wpAnyH_ready (rs:=[5,6]) (by kernel_rfl) (by simp) ?_
   refine zA ?_ ?_
   ·intro K hK
    refine Z2T (P:=Tryz.prog) (e:=5) Tryz.underlying22 Tryz.underlying9 (by kernel_rfl) rfl (.tmp 23) (.tmp 25) rfl rfl (by have:=f2.own;simpa using this) rfl (by omega) ?_
    intro w3 d3 hg3
    have f3:=f2.text (Z0.refl _ _) (by simpa using hg3)
    have hB3:d3.heap[bx]?=some (.cells #[.int .u8 2,.int .i64 0,.string s,.bool false] 32 (0,0)):=hg3.only.get hB2 (fun e=>by obtain ⟨cc,hcc⟩:=Zh f2.own e;exact Zb hcc hB2 (by decide) rfl)
    refine hK.out _ _ ?_ (fun Z3=>?_)
    ·exact (show d3.cell? ⟨bx,2,none⟩=some (.string s) by rw [Z1 hB3];rfl)
    clear hK K
    (try simp only [Act.put,zPA,zPZ,zPS])
    refine zR 6 ?_
    intro K hK
    go_simp
    refine hK.out _ _ ?_ (fun Z3=>?_)
    ·exact (show (d3.alloc (.cells #[.int .u8 0] 5)).cell? ⟨bx,2,none⟩=some (.string s) by rw [Z1 ((((Z0.refl (fun _=>False) d3).alloc _)).get hB3 (fun x=>x))];rfl)
    clear hK K
    (try simp only [Act.put,zPA,zPZ,zPS])
    have q4:Quiet d3 (d3.alloc (.cells #[.int .u8 0] 5)):=(Z0.refl _ _).alloc _
    have rz4:Rd (d3.alloc (.cells #[.int .u8 0] 5)) (fun k=>k=d3.heap.size) 1 (some ⟨d3.heap.size,0,none⟩) 1 (Z9 [0]):=Rd.new d3 1 1 (Z9 [0]) _ _ rfl rfl
    have lz4:d3.heap.size < (d3.alloc (.cells #[.int .u8 0] 5)).heap.size:=by simp
    have uz4:∀ k,(w3:Value).ownBlock=some k->k ≠ d3.heap.size:=fun k e=>by have:=(f3.own.lt k e).2;omega
    obtain ⟨bz,hbz⟩:∃ bz,d3.heap.size=bz:=⟨_,rfl⟩
    rw [hbz] at rz4 lz4 uz4
    (try rw [hbz])
    generalize d3.alloc (.cells #[.int .u8 0] 5)=d4 at *
    have f4:=f3.quietly q4
    have hB4:=q4.get hB3 (fun x=>x)
    clear hbz
    refine zR 7 ?_
    intro K hK
    refine Z0B Z17 rfl (.tmp 26) (.tmp 27) rfl rfl f4.own rfl rz4 (Z0A [0]) (by simp only [List.length_append,List.length_map,List.length_cons,List.length_nil,Z2q];unfold maxLen;omega) (by simp only [List.length_append,List.length_map,List.length_cons,List.length_nil,Z2q];omega) ?_
    intro w5 d5 hg5
    have f5:=f4.step2 (x:=0) (Z0.refl _ _) hg5
    have hB5:d5.heap[bx]?=some (.cells #[.int .u8 2,.int .i64 0,.string s,.bool false] 32 (0,0)):=hg5.only.get hB4 (fun e=>by obtain ⟨cc,hcc⟩:=Zh f4.own e;exact Zb hcc hB4 (by decide) rfl)
    refine hK.out _ _ ?_ (fun Z3=>?_)
    ·exact (show d5.cell? ⟨bx,2,none⟩=some (.string s) by rw [Z1 hB5];rfl)
    clear hK K
    (try simp only [Act.put,zPA,zPZ,zPS])
    refine zT 8 ?_
    refine zD ?_
    have Zc:Hid (Z8 (.returned (.tuple #[w5,.int .i64 0])) d5):=by
     rw [<- Ze.out]
     exact ⟨_,rfl,f5⟩
    clear Z3 f0 hB0 f1 hB1 f2 hB2 f3 hB3 f4 hB4 f5 hB5
    go_wp2_with fail
    rw [rounds_succ]
    go_wp2_with fail
    exact Zc.out
   refine zA ?_ AllReadyH.nil
   intro K hK
   go_simp
   refine hK.out _ _ ?_ (fun Z3=>?_)
   ·exact (show (d2.alloc (.cells #[.int .u8 0] 5)).cell? ⟨bx,2,none⟩=some (.string s) by rw [Z1 ((((Z0.refl (fun _=>False) d2).alloc _)).get hB2 (fun x=>x))];rfl)
   clear hK K
   (try simp only [Act.put,zPA,zPZ,zPS])
   have q3:Quiet d2 (d2.alloc (.cells #[.int .u8 0] 5)):=(Z0.refl _ _).alloc _
   have rz3:Rd (d2.alloc (.cells #[.int .u8 0] 5)) (fun k=>k=d2.heap.size) 1 (some ⟨d2.heap.size,0,none⟩) 1 (Z9 [0]):=Rd.new d2 1 1 (Z9 [0]) _ _ rfl rfl
   have lz3:d2.heap.size < (d2.alloc (.cells #[.int .u8 0] 5)).heap.size:=by simp
   have uz3:∀ k,((Value.slice (some ⟨g2,0,none⟩) 1 cap2):Value).ownBlock=some k->k ≠ d2.heap.size:=fun k e=>by have:=(f2.own.lt k e).2;omega
   obtain ⟨bz,hbz⟩:∃ bz,d2.heap.size=bz:=⟨_,rfl⟩
   rw [hbz] at rz3 lz3 uz3
   (try rw [hbz])
   generalize d2.alloc (.cells #[.int .u8 0] 5)=d3 at *
   have f3:=f2.quietly q3
   have hB3:=q3.get hB2 (fun x=>x)
   clear hbz
   refine zR 5 ?_
   intro K hK
   refine Z2T (P:=Tryz.prog) (e:=5) Tryz.underlying22 Tryz.underlying9 (by kernel_rfl) rfl (.tmp 23) (.tmp 25) rfl rfl (by have:=f3.own;simpa using this) rfl (by omega) ?_
   intro w4 d4 hg4
   have f4:=f3.text (Z0.refl _ _) (by simpa using hg4)
   have hB4:d4.heap[bx]?=some (.cells #[.int .u8 2,.int .i64 0,.string s,.bool false] 32 (0,0)):=hg4.only.get hB3 (fun e=>by obtain ⟨cc,hcc⟩:=Zh f3.own e;exact Zb hcc hB3 (by decide) rfl)
   have rz4:=rz3.kept hg4.only (fun k hk e=>by subst hk;exact uz3 _ e rfl)
   have lz4:bz < d4.heap.size:=Nat.lt_of_lt_of_le lz3 hg4.only.size
   have uz4:∀ k,(w4:Value).ownBlock=some k->k ≠ bz:=fun k e=>by
    rcases hg4.loc with y | y
    ·rw [y] at e;exact uz3 k e
    ·rw [y] at e;injection e with e;omega
   refine hK.out _ _ ?_ (fun Z3=>?_)
   ·exact (show d4.cell? ⟨bx,2,none⟩=some (.string s) by rw [Z1 hB4];rfl)
   clear hK K
   (try simp only [Act.put,zPA,zPZ,zPS])
   refine zR 7 ?_
   intro K hK
   refine Z0B Z17 rfl (.tmp 26) (.tmp 27) rfl rfl f4.own rfl rz4 (Z0A [0]) (by simp only [List.length_append,List.length_map,List.length_cons,List.length_nil,Z2q];unfold maxLen;omega) (by simp only [List.length_append,List.length_map,List.length_cons,List.length_nil,Z2q];omega) ?_
   intro w5 d5 hg5
   have f5:=f4.step2 (x:=0) (Z0.refl _ _) hg5
   have hB5:d5.heap[bx]?=some (.cells #[.int .u8 2,.int .i64 0,.string s,.bool false] 32 (0,0)):=hg5.only.get hB4 (fun e=>by obtain ⟨cc,hcc⟩:=Zh f4.own e;exact Zb hcc hB4 (by decide) rfl)
   refine hK.out _ _ ?_ (fun Z3=>?_)
   ·exact (show d5.cell? ⟨bx,2,none⟩=some (.string s) by rw [Z1 hB5];rfl)
   clear hK K
   (try simp only [Act.put,zPA,zPZ,zPS])
   refine zT 8 ?_
   refine zD ?_
   have Zc:Hid (Z8 (.returned (.tuple #[w5,.int .i64 0])) d5):=by
    rw [<- Ze.out]
    exact ⟨_,rfl,f5⟩
   clear Z3 f0 hB0 f1 hB1 f2 hB2 f3 hB3 f4 hB4 f5 hB5
   go_wp2_with fail
   rw [rounds_succ]
   go_wp2_with fail
   exact Zc.out
  refine zA ?_ AllReadyH.nil
  intro K hK
  go_simp
  refine hK.out _ _ ?_ (fun Z3=>?_)
  ·exact (show (d1.alloc (.cells #[.int .u8 0] 5)).cell? ⟨bx,2,none⟩=some (.string s) by rw [Z1 ((((Z0.refl (fun _=>False) d1).alloc _)).get hB1 (fun x=>x))];rfl)
  clear hK K
  (try simp only [Act.put,zPA,zPZ,zPS])
  have q2:Quiet d1 (d1.alloc (.cells #[.int .u8 0] 5)):=(Z0.refl _ _).alloc _
  have rz2:Rd (d1.alloc (.cells #[.int .u8 0] 5)) (fun k=>k=d1.heap.size) 1 (some ⟨d1.heap.size,0,none⟩) 1 (Z9 [0]):=Rd.new d1 1 1 (Z9 [0]) _ _ rfl rfl
  have lz2:d1.heap.size < (d1.alloc (.cells #[.int .u8 0] 5)).heap.size:=by simp
  have uz2:∀ k,((Value.slice none 0 0):Value).ownBlock=some k->k ≠ d1.heap.size:=fun k e=>by have:=(f1.own.lt k e).2;omega
  obtain ⟨bz,hbz⟩:∃ bz,d1.heap.size=bz:=⟨_,rfl⟩
  rw [hbz] at rz2 lz2 uz2
  (try rw [hbz])
  generalize d1.alloc (.cells #[.int .u8 0] 5)=d2 at *
  have f2:=f1.quietly q2
  have hB2:=q2.get hB1 (fun x=>x)
  have ra2:=ra1.kept q2 (fun _ _ x=>x)
  have la2:ba < d2.heap.size:=Nat.lt_of_lt_of_le la1 q2.size
  have ua2:=ua1
  clear hbz
  refine zR 2 ?_
  intro K hK
  refine Z0B Z17 rfl (.tmp 21) (.tmp 22) rfl rfl f2.own rfl ra2 (Z0A [4]) (by simp only [List.length_nil];unfold maxLen;omega) (by simp only [List.length_nil];omega) ?_
  intro w3 d3 hg3
  have f3:=f2.step2 (x:=4) (Z0.refl _ _) hg3
  have hB3:d3.heap[bx]?=some (.cells #[.int .u8 2,.int .i64 0,.string s,.bool false] 32 (0,0)):=hg3.only.get hB2 (fun e=>by obtain ⟨cc,hcc⟩:=Zh f2.own e;exact Zb hcc hB2 (by decide) rfl)
  have rz3:=rz2.kept hg3.only (fun k hk e=>by subst hk;exact uz2 _ e rfl)
  have lz3:bz < d3.heap.size:=Nat.lt_of_lt_of_le lz2 hg3.only.size
  have uz3:∀ k,(w3:Value).ownBlock=some k->k ≠ bz:=fun k e=>by
   rcases hg3.loc with y | y
   ·rw [y] at e;exact uz2 k e
   ·rw [y] at e;injection e with e;omega
  obtain ⟨g3,cap3,hv3⟩:∃ g cap,w3=.slice (some ⟨g,0,none⟩) 1 cap:=by
   rcases ZB f3.own with ⟨_,e⟩ | ⟨g2,cap2,e,_⟩
   ·simp at e
   ·exact ⟨g2,cap2,e⟩
  subst hv3
  refine hK.out _ _ ?_ (fun Z3=>?_)
  ·exact (show d3.cell? ⟨bx,2,none⟩=some (.string s) by rw [Z1 hB3];rfl)
  clear hK K
  (try simp only [Act.put,zPA,zPZ,zPS])
  refine zR 5 ?_
  intro K hK
  refine Z2T (P:=Tryz.prog) (e:=5) Tryz.underlying22 Tryz.underlying9 (by kernel_rfl) rfl (.tmp 23) (.tmp 25) rfl rfl (by have:=f3.own;simpa using this) rfl (by omega) ?_
  intro w4 d4 hg4
  have f4:=f3.text (Z0.refl _ _) (by simpa using hg4)
  have hB4:d4.heap[bx]?=some (.cells #[.int .u8 2,.int .i64 0,.string s,.bool false] 32 (0,0)):=hg4.only.get hB3 (fun e=>by obtain ⟨cc,hcc⟩:=Zh f3.own e;exact Zb hcc hB3 (by decide) rfl)
  have rz4:=rz3.kept hg4.only (fun k hk e=>by subst hk;exact uz3 _ e rfl)
  have lz4:bz < d4.heap.size:=Nat.lt_of_lt_of_le lz3 hg4.only.size
  have uz4:∀ k,(w4:Value).ownBlock=some k->k ≠ bz:=fun k e=>by
   rcases hg4.loc with y | y
   ·rw [y] at e;exact uz3 k e
   ·rw [y] at e;injection e with e;omega
  refine hK.out _ _ ?_ (fun Z3=>?_)
  ·exact (show d4.cell? ⟨bx,2,none⟩=some (.string s) by rw [Z1 hB4];rfl)
  clear hK K
  (try simp only [Act.put,zPA,zPZ,zPS])
  refine zR 7 ?_
  intro K hK
  refine Z0B Z17 rfl (.tmp 26) (.tmp 27) rfl rfl f4.own rfl rz4 (Z0A [0]) (by simp only [List.length_append,List.length_map,List.length_cons,List.length_nil,Z2q];unfold maxLen;omega) (by simp only [List.length_append,List.length_map,List.length_cons,List.length_nil,Z2q];omega) ?_
  intro w5 d5 hg5
  have f5:=f4.step2 (x:=0) (Z0.refl _ _) hg5
  have hB5:d5.heap[bx]?=some (.cells #[.int .u8 2,.int .i64 0,.string s,.bool false] 32 (0,0)):=hg5.only.get hB4 (fun e=>by obtain ⟨cc,hcc⟩:=Zh f4.own e;exact Zb hcc hB4 (by decide) rfl)
  refine hK.out _ _ ?_ (fun Z3=>?_)
  ·exact (show d5.cell? ⟨bx,2,none⟩=some (.string s) by rw [Z1 hB5];rfl)
  clear hK K
  (try simp only [Act.put,zPA,zPZ,zPS])
  refine zT 8 ?_
  refine zD ?_
  have Zc:Hid (Z8 (.returned (.tuple #[w5,.int .i64 0])) d5):=by
   rw [<- Ze.out]
   exact ⟨_,rfl,f5⟩
  clear Z3 f0 hB0 f1 hB1 f2 hB2 f3 hB3 f4 hB4 f5 hB5
  go_wp2_with fail
  rw [rounds_succ]
  go_wp2_with fail
  exact Zc.out
 refine zA ?_ AllReadyH.nil
 intro K hK
 go_simp
 refine hK.out _ _ ?_ (fun Z3=>?_)
 ·exact (show (d0.alloc (.cells #[.int .u8 0] 5)).cell? ⟨bx,2,none⟩=some (.string s) by rw [Z1 ((((Z0.refl (fun _=>False) d0).alloc _)).get hB0 (fun x=>x))];rfl)
 clear hK K
 (try simp only [Act.put,zPA,zPZ,zPS])
 have q1:Quiet d0 (d0.alloc (.cells #[.int .u8 0] 5)):=(Z0.refl _ _).alloc _
 have rz1:Rd (d0.alloc (.cells #[.int .u8 0] 5)) (fun k=>k=d0.heap.size) 1 (some ⟨d0.heap.size,0,none⟩) 1 (Z9 [0]):=Rd.new d0 1 1 (Z9 [0]) _ _ rfl rfl
 have lz1:d0.heap.size < (d0.alloc (.cells #[.int .u8 0] 5)).heap.size:=by simp
 have uz1:∀ k,((Value.slice none 0 0):Value).ownBlock=some k->k ≠ d0.heap.size:=fun k e=>by have:=(f0.own.lt k e).2;omega
 obtain ⟨bz,hbz⟩:∃ bz,d0.heap.size=bz:=⟨_,rfl⟩
 rw [hbz] at rz1 lz1 uz1
 (try rw [hbz])
 generalize d0.alloc (.cells #[.int .u8 0] 5)=d1 at *
 have f1:=f0.quietly q1
 have hB1:=q1.get hB0 (fun x=>x)
 clear hbz
 refine zR 1 ?_
 intro K hK
 go_simp
 refine hK.out _ _ ?_ (fun Z3=>?_)
 ·exact (show (d1.alloc (.cells #[.int .u8 4] 5)).cell? ⟨bx,2,none⟩=some (.string s) by rw [Z1 ((((Z0.refl (fun _=>False) d1).alloc _)).get hB1 (fun x=>x))];rfl)
 clear hK K
 (try simp only [Act.put,zPA,zPZ,zPS])
 have q2:Quiet d1 (d1.alloc (.cells #[.int .u8 4] 5)):=(Z0.refl _ _).alloc _
 have ra2:Rd (d1.alloc (.cells #[.int .u8 4] 5)) (fun k=>k=d1.heap.size) 1 (some ⟨d1.heap.size,0,none⟩) 1 (Z9 [4]):=Rd.new d1 1 1 (Z9 [4]) _ _ rfl rfl
 have la2:d1.heap.size < (d1.alloc (.cells #[.int .u8 4] 5)).heap.size:=by simp
 have ua2:∀ k,((Value.slice none 0 0):Value).ownBlock=some k->k ≠ d1.heap.size:=fun k e=>by have:=(f1.own.lt k e).2;omega
 obtain ⟨ba,hba⟩:∃ ba,d1.heap.size=ba:=⟨_,rfl⟩
 rw [hba] at ra2 la2 ua2
 (try rw [hba])
 generalize d1.alloc (.cells #[.int .u8 4] 5)=d2 at *
 have f2:=f1.quietly q2
 have hB2:=q2.get hB1 (fun x=>x)
 have rz2:=rz1.kept q2 (fun _ _ x=>x)
 have lz2:bz < d2.heap.size:=Nat.lt_of_lt_of_le lz1 q2.size
 have uz2:=uz1
 clear hba
 refine zR 2 ?_
 intro K hK
 refine Z0B Z17 rfl (.tmp 21) (.tmp 22) rfl rfl f2.own rfl ra2 (Z0A [4]) (by simp only [List.length_nil];unfold maxLen;omega) (by simp only [List.length_nil];omega) ?_
 intro w3 d3 hg3
 have f3:=f2.step2 (x:=4) (Z0.refl _ _) hg3
 have hB3:d3.heap[bx]?=some (.cells #[.int .u8 2,.int .i64 0,.string s,.bool false] 32 (0,0)):=hg3.only.get hB2 (fun e=>by obtain ⟨cc,hcc⟩:=Zh f2.own e;exact Zb hcc hB2 (by decide) rfl)
 have rz3:=rz2.kept hg3.only (fun k hk e=>by subst hk;exact uz2 _ e rfl)
 have lz3:bz < d3.heap.size:=Nat.lt_of_lt_of_le lz2 hg3.only.size
 have uz3:∀ k,(w3:Value).ownBlock=some k->k ≠ bz:=fun k e=>by
  rcases hg3.loc with y | y
  ·rw [y] at e;exact uz2 k e
  ·rw [y] at e;injection e with e;omega
 obtain ⟨g3,cap3,hv3⟩:∃ g cap,w3=.slice (some ⟨g,0,none⟩) 1 cap:=by
  rcases ZB f3.own with ⟨_,e⟩ | ⟨g2,cap2,e,_⟩
  ·simp at e
  ·exact ⟨g2,cap2,e⟩
 subst hv3
 refine hK.out _ _ ?_ (fun Z3=>?_)
 ·exact (show d3.cell? ⟨bx,2,none⟩=some (.string s) by rw [Z1 hB3];rfl)
 clear hK K
 (try simp only [Act.put,zPA,zPZ,zPS])
 refine zR 5 ?_
 intro K hK
 refine Z2T (P:=Tryz.prog) (e:=5) Tryz.underlying22 Tryz.underlying9 (by kernel_rfl) rfl (.tmp 23) (.tmp 25) rfl rfl (by have:=f3.own;simpa using this) rfl (by omega) ?_
 intro w4 d4 hg4
 have f4:=f3.text (Z0.refl _ _) (by simpa using hg4)
 have hB4:d4.heap[bx]?=some (.cells #[.int .u8 2,.int .i64 0,.string s,.bool false] 32 (0,0)):=hg4.only.get hB3 (fun e=>by obtain ⟨cc,hcc⟩:=Zh f3.own e;exact Zb hcc hB3 (by decide) rfl)
 have rz4:=rz3.kept hg4.only (fun k hk e=>by subst hk;exact uz3 _ e rfl)
 have lz4:bz < d4.heap.size:=Nat.lt_of_lt_of_le lz3 hg4.only.size
 have uz4:∀ k,(w4:Value).ownBlock=some k->k ≠ bz:=fun k e=>by
  rcases hg4.loc with y | y
  ·rw [y] at e;exact uz3 k e
  ·rw [y] at e;injection e with e;omega
 refine hK.out _ _ ?_ (fun Z3=>?_)
 ·exact (show d4.cell? ⟨bx,2,none⟩=some (.string s) by rw [Z1 hB4];rfl)
 clear hK K
 (try simp only [Act.put,zPA,zPZ,zPS])
 refine zR 7 ?_
 intro K hK
 refine Z0B Z17 rfl (.tmp 26) (.tmp 27) rfl rfl f4.own rfl rz4 (Z0A [0]) (by simp only [List.length_append,List.length_map,List.length_cons,List.length_nil,Z2q];unfold maxLen;omega) (by simp only [List.length_append,List.length_map,List.length_cons,List.length_nil,Z2q];omega) ?_
 intro w5 d5 hg5
 have f5:=f4.step2 (x:=0) (Z0.refl _ _) hg5
 have hB5:d5.heap[bx]?=some (.cells #[.int .u8 2,.int .i64 0,.string s,.bool false] 32 (0,0)):=hg5.only.get hB4 (fun e=>by obtain ⟨cc,hcc⟩:=Zh f4.own e;exact Zb hcc hB4 (by decide) rfl)
 refine hK.out _ _ ?_ (fun Z3=>?_)
 ·exact (show d5.cell? ⟨bx,2,none⟩=some (.string s) by rw [Z1 hB5];rfl)
 clear hK K
 (try simp only [Act.put,zPA,zPZ,zPS])
 refine zT 8 ?_
 refine zD ?_
 have Zc:Hid (Z8 (.returned (.tuple #[w5,.int .i64 0])) d5):=by
  rw [<- Ze.out]
  exact ⟨_,rfl,f5⟩
 clear Z3 f0 hB0 f1 hB1 f2 hB2 f3 hB3 f4 hB4 f5 hB5
 go_wp2_with fail
 rw [rounds_succ]
 go_wp2_with fail
 exact Zc.out
theorem Zj1 {n:Nat} (hn:n < 256):ZW ⟨1,n,⟨#[]⟩,false⟩=Zfu n:=by
 show 3 :: beI (n:Int) 8=3 :: Z2L n 8
 congr 1
 unfold beI Z2L
 apply List.map_congr_left
 intro k hk
 have hk8:k < 8:=List.mem_range.1 hk
 have e:beZ (n:Int)=9223372036854775808+n:=by unfold beZ;omega
 rw [e]
 have h:=ZcM (n:=n) (j:=7 - k) hn (by omega)
 rw [show 7 - (7 - k)=k by omega] at h
 generalize 9223372036854775808+n=a at h ⊢
 have e2:(a:Int) / 2 ^ (8 * (7 - k)) % 256=((a / 2 ^ (8 * (7 - k)) % 256:Nat):Int):=by
  obtain ⟨d,hd⟩:∃ d,8 * (7 - k)=d:=⟨_,rfl⟩
  rw [hd,Int.natCast_emod,Int.natCast_ediv,Int.natCast_pow]
  rfl
 rw [e2] at h
 exact Int.ofNat.inj h
theorem Zj2:∀ n:Fin 256,bits BinOp.xor IntKind.u64 ((n.val:Nat):Int) 9223372036854775808=((9223372036854775808+n.val:Nat):Int):=by decide +kernel
theorem Zbu {w:World} {S2:Nat->Prop} {A2:Option Addr} {c2:Nat} {n:Nat} (hn:n < 256) (hv:Rd w S2 4 A2 1 (intRow n)) (hc2:1 <= c2) (hm2:c2 <= maxLen) :
  Calls Tryz.prog 76 #[.slice A2 1 c2] w (Z40 w (Zfu n)):=by
 obtain ⟨b2,off2,rfl,_,v0,v1,v2,v3⟩:=intRow.get hv
 have l2:=Zf v0
 dsimp only at l2
 have hx0:=Zj2 ⟨n,hn⟩
 obtain ⟨z,hz⟩:∃ z:Nat,9223372036854775808+n=z:=⟨_,rfl⟩
 have hx:bits BinOp.xor IntKind.u64 (n:Int) 9223372036854775808=(z:Int):=by rw [<- hz];exact hx0
 have HZ:=zh hz
 unfold maxLen at hm2
 obtain ⟨Z8,Z6⟩:∃ Z8,Z40 w (Zfu n)=Z8:=⟨_,rfl⟩
 rw [Z6]
 have Ze:=zh Z6
 clear hv hx0 hz Z6
 go_enter Tryz.func76,Tryz.ntmps76
 go_wp2_with fail
 refine wp_loop_rounds 2 ?_
 rw [rounds_succ]
 go_wp2_with fail
 have hb0:(w.alloc (.cells (intCells n) 32)).heap[w.heap.size]?=some (.cells (intCells n) 32 (0,0)):=Z4 w _
 have hq0:Quiet w (w.alloc (.cells (intCells n) 32)):=(Z0.refl _ _).alloc _
 obtain ⟨bx,hbx⟩:∃ bx,w.heap.size=bx:=⟨_,rfl⟩
 generalize w.alloc (.cells (intCells n) 32)=w1 at *
 refine (Z9X (n:Int) w1).mono ?_
 rintro e w2 ⟨rfl,hq2⟩
 rw [hbx] at hb0
 have hb2:=hq2.get hb0 (fun x=>x)
 have HQ2:Hid (Quiet w w2):=hq0.trans hq2
 have HB2:=zh hb2
 have x0:w2.cell? ⟨bx,0,none⟩=some (.int .u8 1):=by rw [Z1 hb2];rfl
 have x1:w2.cell? ⟨bx,1,none⟩=some (.int .i64 (n:Int)):=by rw [Z1 hb2];rfl
 have lbx:=Z2 hb2
 have HRD3:Hid (Rd (w2.alloc (.cells #[.int .u8 3] 5)) (fun _=>True) 1 (some ⟨w2.heap.size,0,none⟩) 1 (Z9 [3])):=Rd.new w2 1 1 (Z9 [3]) _ _ rfl trivial
 clear hb0 hq0 hq2 hb2 v0 v1 v2 v3 l2
 go_wp2_with (at_builtin;refine app Z17 rfl (.tmp 44) (.tmp 45) rfl rfl (World.ownsRow_nil _ _ _ _) rfl HRD3.out (Z0A [3]) (by unfold maxLen;omega) (by omega) ?_)
 intro v4 w4 hg4
 have hF0:ZH w w4 v4 (3 :: Z2L n 0):=by
  refine ⟨(HQ2.out.alloc _).trans' hg4.only (fun k hk e=>by cases e),fun k e=>?_,hg4.own⟩
  have:=HQ2.out.size
  rcases hg4.loc with y | y
  ·rw [y] at e;cases e
  ·rw [y] at e;injection e with e;simp only [World.size_alloc] at e;omega
 have hN4:w4.cell? ⟨bx,1,none⟩=some (.int .i64 (n:Int)):=hg4.only.cell (((Z0.refl (fun _=>False) w2).alloc (.cells #[.int .u8 3] 5)).cell x1 (fun x=>x)) (fun e=>by cases e)
 have HF0:=zh hF0
 have HB4:Hid (∀ j,v4.ownBlock=some j->j ≠ bx):=fun j e=>by
  rcases hg4.loc with y | y
  ·rw [y] at e;cases e
  ·rw [y] at e;injection e with e;simp only [World.size_alloc] at e;omega
 have lbx4:=Zf hN4
 dsimp only at lbx4
 clear hg4 HRD3 hF0 x0 x1 lbx
 go_wp2_with fail
 go_loopw [9,4] (fun i o wr=>∃ (m:Nat) (v':Value),m <= 8/\i=.int .i64 ((m:Int) - 1)/\o=v'/\ZH w wr v' (3 :: Z2L n (8 - m))) (fun i _ _=>((intOf i)+1).toNat)
 case atStart=>exact ⟨8,_,Nat.le_refl _,rfl,rfl,HF0.out⟩
 case round =>
  obtain ⟨m,v',hm,rfl,rfl,hW⟩:=hrel
  rcases m with _ | j
  ·have hFR:ZH w wr u4 (Zfu n):=hW
   have Zc:Hid (Z8 (.returned (.tuple #[u4,.int .i64 0])) wr):=by
    rw [<- Ze.out]
    exact ⟨u4,rfl,hFR⟩
   clear hW hFR
   go_wp2_with fail
   rw [rounds_succ]
   go_wp2_with fail
   exact Zc.out
  ·have ej:(((j+1:Nat):Int) - 1)=(j:Int):=by omega
   rw [ej]
   have hj:j < 8:=by omega
   obtain ⟨x,hxx⟩:∃ x:Nat,Z8w n (7 - j)=x:=⟨_,rfl⟩
   have e1:(z:Int) / 2 ^ (8 * j) % 256=(x:Int):=by rw [<- HZ.out,ZcM hn hj,hxx]
   have hx256:x < 256:=by rw [<- hxx];exact Zk5 hn _
   have HS:Hid (Z2L n (8 - j)=Z2L n (8 - (j+1)) ++ [x]):=by
    show _=_
    rw [show 8 - j=(8 - (j+1))+1 by omega,Zfv,show 8 - (j+1)=7 - j by omega,hxx]
   have hl:(3 :: Z2L n (8 - (j+1))).length <= 9:=by rw [List.length_cons,ZcL];omega
   have HRD:Hid (Rd (wr.alloc (.cells #[.int .u8 (x:Int)] 5)) (fun _=>True) 1 (some ⟨wr.heap.size,0,none⟩) 1 (Z9 [x])):=Rd.new wr 1 1 (Z9 [x]) _ _ rfl trivial
   have hown:=Z5 hW.own ((Z0.refl (fun _=>False) wr).alloc (.cells #[.int .u8 (x:Int)] 5)) (fun _ _ x=>x)
   obtain ⟨q,hq⟩:∃ q,3 :: Z2L n (8 - (j+1))=q:=⟨_,rfl⟩
   rw [hq] at hW hown hl
   obtain ⟨ql,hql⟩:∃ ql,q.length=ql:=⟨_,rfl⟩
   rw [hql] at hown hl
   have HR1:=zh hown
   have HW:=zh hW
   have HQL:=zh hql
   have HQ:=zh hq
   clear hW hown hxx hq hql ej
   go_wp2_with (at_builtin;refine app Z17 rfl (.tmp 55) (.tmp 61) rfl rfl HR1.out rfl HRD.out (Z0A [x]) (by unfold maxLen;omega) (by omega) ?_)
   intro v6 w6 hg6
   rw [<- HQL.out] at hg6
   have HST:=zh (HW.out.step hg6)
   rw [<- HQ.out,List.cons_append,<- HS.out] at HST
   clear hg6 HR1 HRD HW HS e1
   go_wp2
   go_roundw
   case rel=>exact ⟨j,_,by omega,rfl,rfl,HST.out⟩
   case measure=>simp [intOf]
theorem Z44 {α:Type} (f:Nat->α) (i:Nat) (a b:α):upd (upd f i a) i b=upd f i b:=by
 funext k
 by_cases e:k=i <;> simp [upd,e]
def Z4W (w:World) (sb:Nat) (o:Nat->Nat) (s s':St) (code:Nat) (z:Int) (e:Ending) (w':World):Prop :=
 if code=0 then e=.returned (.int .i64 z)/\Z0Z w sb o s' w' else e=.returned (.int .i64 (code:Int))/\Z0Z w sb o s w'
theorem Z9u {w:World} {sb x i c3 nr cr code:Nat} {o:Nat->Nat} {s s1:St} {y:ZA} {t:TE} {name:ByteArray} {l:List RV} {Sv:Nat->Prop} {A3 Ar:Option Addr} {H H1 H2:List (List (Option Tup))} {p q pg sl z:Int} {v:Tup} (h:Zn w sb o s) (hx:U64 x) (hy:s.sn x=some y) (hf:Z1r s.L y name s.T=some i) (ht:s.T[i]?=some t) (hU:U8 w) (hc:t.cols.length <= 8) (hid:U64 t.id)
  (hH:s.hs t.id=some H) (hn:Z2A (Z04 t) l) (hv:Rd w Sv 4 A3 l.length (Z0P l)) (hc3:l.length <= c3) (hm3:c3 <= maxLen) (hg:ZM H pg sl=some v) (hx1:U64 v.xmin) (hx2:U64 v.xmax) (hcode:freeS s.L y v.xmin v.xmax=code)
  (hs1:s1.hs t.id=some H1) (hst:Z1l H1 pg sl x p q=(z,H2))
  (hput:code=0->∀ (W:World) (A2:Option Addr) (c2:Nat) (A5:Option Addr) (c5:Nat),Quiet w W->Rd W (fun k=>w.heap.size <= k) 2 A2 t.cols.length (ZZ t.cols)->t.cols.length <= c2->c2 <= maxLen->Rd W (fun k=>w.heap.size <= k) 1 A5 (Zq l).length (Z9 (Zq l))->(Zq l).length <= c5->c5 <= maxLen →
    Calls Tryz.prog 39 #[ptrV sb,Z0g t A2 c2,ZC ⟨v.row,x,0,-1,-1,Zq l⟩ A5 c5] W (Z4V W sb o s1 p q)) :
  Calls Tryz.prog 13 #[ptrV sb,.int .u64 (x:Int),.string name,.agg #[.int .u64 v.row,.int .i64 pg,.int .i64 sl,.slice Ar nr cr],.slice A3 l.length c3] w (Z4W w sb o s { s1 with hs:=upd s1.hs t.id (some H2) } code z):=by
 have hq0:Quiet w (w.alloc (.cells #[.int .u64 v.row,.int .i64 pg,.int .i64 sl,.slice Ar nr cr] 50)):=(Z0.refl _ _).alloc _
 have HO:=zh (Z6m (h.quietly hq0) hx hy hf ht)
 have HB8:=zh (Z4 w (.cells #[.int .u64 v.row,.int .i64 pg,.int .i64 sl,.slice Ar nr cr] 50))
 have HQ0:=zh hq0
 obtain ⟨r8,hr8⟩:∃ r8,w.heap.size=r8:=⟨_,rfl⟩
 rw [hr8] at HB8
 have HR8:=zh hr8
 have HH:=zh h
 have HC:=zh hc
 have HU:=zh hU
 have HID:=zh hid
 have HH0:=zh hH
 have HS1':=zh hs1
 have HN:=zh hn
 have HV:=zh hv
 have HC3:=zh (And.intro hc3 hm3)
 have HG:=zh (And.intro hg (And.intro hx1 (And.intro hx2 hcode)))
 have HPU:=zh hput
 have HST:=zh hst
 obtain ⟨Z8,Z6⟩:∃ Z8,Z4W w sb o s { s1 with hs:=upd s1.hs t.id (some H2) } code z=Z8:=⟨_,rfl⟩
 rw [Z6]
 have Ze:=zh Z6
 clear h hx hy hf ht hU hc hid hH hn hv hc3 hm3 hg hx1 hx2 hcode hput hs1 hst hq0 Z6 hr8
 go_enter Tryz.func13,Tryz.ntmps13
 go_wp2_with fail
 rw [HR8.out]
 generalize w.alloc (.cells #[.int .u64 v.row,.int .i64 pg,.int .i64 sl,.slice Ar nr cr] 50)=w0 at *
 refine HO.out.mono ?_
 rintro e w1 ⟨A,c,A2,c2,rfl,hq1,hs1,hf1,hc2,hm2⟩
 clear HO
 have HQ1:=zh (HQ0.out.trans hq1)
 have HF1:=zh hf1
 have HS1:=zh hs1
 have HC2:=zh (And.intro hc2 hm2)
 have HB81:=zh (hq1.get HB8.out (fun x=>x))
 have q2:Quiet w1 ((w1.alloc (.cells (snapCells y A c) 76)).alloc (.cells #[.int .u64 (t.id:Int),.string t.name,.slice A2 t.cols.length c2,.int .u64 (t.xmin:Int),.int .u64 (t.xmax:Int)] 90)):=((Z0.refl _ _).alloc _).alloc _
 have b12:=Z0y w1 (.cells (snapCells y A c) 76) (.cells #[.int .u64 (t.id:Int),.string t.name,.slice A2 t.cols.length c2,.int .u64 (t.xmin:Int),.int .u64 (t.xmax:Int)] 90)
 have b11:=Zd (Z4 w1 (.cells (snapCells y A c) 76)) (.cells #[.int .u64 (t.id:Int),.string t.name,.slice A2 t.cols.length c2,.int .u64 (t.xmin:Int),.int .u64 (t.xmax:Int)] 90)
 have HQ2:=zh q2
 have HB12:=zh b12
 have HB11:=zh b11
 obtain ⟨r11,hr11⟩:∃ r11,w1.heap.size=r11:=⟨_,rfl⟩
 obtain ⟨r12,hr12⟩:∃ r12,r11+1=r12:=⟨_,rfl⟩
 rw [hr11] at HB12 HB11
 rw [hr12] at HB12
 have HR12:Hid (w1.heap.size <= r12):=by show _ <= _;omega
 have HE11:=zh hr11
 have HE12:=zh hr12
 clear hq1 hs1 hf1 hc2 hm2 q2 b12 b11 hr11 hr12
 unfold Zm Z0g
 go_wp2_with fail
 (try simp only [World.size_alloc])
 rw [HE11.out,HE12.out]
 generalize (w1.alloc (.cells #[.int .u64 (y.own:Int),.int .u64 (y.xmin:Int),.int .u64 (y.xmax:Int),.slice A y.run.length c] 76)).alloc (.cells #[.int .u64 (t.id:Int),.string t.name,.slice A2 t.cols.length c2,.int .u64 (t.xmin:Int),.int .u64 (t.xmax:Int)] 90)=w2 at *
 have HKND:Hid (Calls Tryz.prog 38 #[Z0g t A2 c2] w2 (Z3B w2 (Z04 t))):=by
  obtain ⟨A',c',e',h1,h2,h3⟩:=Za HF1.out.own
  injection e' with e1 _ e2
  subst e1 e2
  have h4:=h3.kept HQ2.out (fun _ _ x=>x)
  exact Z4d h4 HC2.out.1 HC2.out.2 (by have:=HC.out;omega)
 unfold Z0g at HKND
 refine HKND.out.mono ?_
 rintro e w3 ⟨v3,rfl,hf3⟩
 obtain ⟨A9,c9,rfl,hc9,hm9,hrd9⟩:=Za hf3.own
 have HQ3:Hid (Quiet w2 w3):=hf3.quiet
 have HQV:Hid (Quiet w w3):=(HQ1.out.trans HQ2.out).trans HQ3.out
 have HRB:=zh (Z7f (HU.out.quietly HQV.out) HN.out (by exact hrd9) rfl (HV.out.kept HQV.out (fun _ _ x=>x)) rfl hc9 hm9 HC3.out.1 HC3.out.2)
 clear hf3 hc9 hm9 hrd9 HKND
 go_wp2_with fail
 refine HRB.out.mono ?_
 rintro e w4 ⟨v5,rfl,hf5⟩
 obtain ⟨A5,c5,rfl,hc5,hm5,hrd5⟩:=Za hf5.own
 have HQ4:Hid (Quiet w w4):=HQV.out.trans hf5.quiet
 have HQ24:Hid (Quiet w2 w4):=HQ3.out.trans hf5.quiet
 have HRD5:=zh hrd5
 have HNEW5:Hid (∀ k,(Value.slice A5 (Zq l).length c5).ownBlock=some k->w.heap.size <= k):=fun k e=>Nat.le_trans HQV.out.size (hf5.new k e)
 have HHW:=zh (HH.out.quietly HQ4.out)
 have HSW:=zh (HS1.out.kept (HQ2.out.trans HQ24.out) (fun _ _ x=>x))
 have HVE:Hid (Calls Tryz.prog 43 #[ptrV sb,Zm y A c,Z0g t A2 c2,.agg #[.int .u64 v.row,.int .i64 pg,.int .i64 sl,.slice Ar nr cr]] w4 (Z8v w4 v code)):=by
  have hv:=Zbt (A2:=A2) (c2:=c2) (A3:=Ar) (n3:=nr) (c3:=cr) HHW.out HSW.out HID.out HH0.out HG.out.1 HG.out.2.1 HG.out.2.2.1
  rw [HG.out.2.2.2] at hv
  exact hv
 unfold Zm Z0g at HVE
 have b12:=Z0w (HQ24.out.get HB12.out (fun x=>x))
 have b11:=Z07 (HQ24.out.get HB11.out (fun x=>x))
 have hb8:=(HQ2.out.trans HQ24.out).get HB81.out (fun x=>x)
 have x0:w4.cell? ⟨r8,0,none⟩=some (.int .u64 v.row):=by rw [Z1 hb8];rfl
 have x1:w4.cell? ⟨r8,1,none⟩=some (.int .i64 pg):=by rw [Z1 hb8];rfl
 have x2:w4.cell? ⟨r8,2,none⟩=some (.int .i64 sl):=by rw [Z1 hb8];rfl
 have x3:w4.cell? ⟨r8,3,none⟩=some (.slice Ar nr cr):=by rw [Z1 hb8];rfl
 have HB8W:=zh hb8
 have HB12W:=zh (HQ24.out.get HB12.out (fun x=>x))
 have HC5:Hid ((Zq l).length <= c5/\c5 <= maxLen):=⟨hc5,hm5⟩
 clear hf5 hrd5 hc5 hm5 HRB hb8
 go_wp2_with fail
 refine HVE.out.mono ?_
 rintro e w5 ⟨A6,c6,rfl,hq5⟩
 have HQB:Hid (Quiet w4 (w5.alloc (.cells #[.int .u64 v.row,.int .u64 v.xmin,.int .u64 v.xmax,.int .i64 v.pg,.int .i64 v.sl,.slice A6 v.data.length c6] 96))):=hq5.alloc _
 clear hq5 x0 x1 x2 x3 b11 b12 HVE
 unfold ZC
 by_cases hz:code=0
 ·subst hz
  go_wp2_with fail
  generalize w5.alloc (.cells #[.int .u64 v.row,.int .u64 v.xmin,.int .u64 v.xmax,.int .i64 v.pg,.int .i64 v.sl,.slice A6 v.data.length c6] 96)=wb at *
  have HHB:=zh (HHW.out.quietly HQB.out)
  have HQWB:Hid (Quiet w wb):=HQ4.out.trans HQB.out
  have HB8b:=zh (HQB.out.get HB8W.out (fun x=>x))
  have HB12b:=zh (HQB.out.get HB12W.out (fun x=>x))
  have HBZ:Hid (∀ k,wb.heap.size <= k->o k=0):=HHB.out.big
  have HBG:Hid (∀ k,wb.heap.size <= k->¬ o k ≠ 0):=fun k hk e=>e (HBZ.out k hk)
  have HX12:Hid (¬ o r12 ≠ 0):=fun e=>e (HH.out.big r12 (by have:=HQ1.out.size;have:=HR12.out;omega))
  have HX8:Hid (¬ o r8 ≠ 0):=fun e=>e (HH.out.big r8 (by have:=HR8.out;omega))
  have HS7:Hid (∀ W,Z0 (fun k=>o k ≠ 0) wb W->(fun w'=>w'.cell? ⟨r8,0,none⟩=some (.int .u64 (v.row:Int))/\w'.cell? ⟨r12,0,none⟩=some (.int .u64 (t.id:Int))/\w'.cell? ⟨r12,1,none⟩=some (.string t.name)/\w'.cell? ⟨r12,2,none⟩=some (.slice A2 t.cols.length c2)/\w'.cell? ⟨r12,3,none⟩=some (.int .u64 (t.xmin:Int))/\w'.cell? ⟨r12,4,none⟩=some (.int .u64 (t.xmax:Int))) W):=fun W hq=>by
   have b:=Z0w (hq.get HB12b.out HX12.out)
   have b8:=hq.get HB8b.out HX8.out
   exact ⟨by rw [Z1 b8];rfl,b⟩
  have HPUT:Hid (∀ W,Quiet wb W->Calls Tryz.prog 39 #[ptrV sb,.agg #[.int .u64 (t.id:Int),.string t.name,.slice A2 t.cols.length c2,.int .u64 (t.xmin:Int),.int .u64 (t.xmax:Int)],.agg #[.int .u64 (v.row:Int),.int .u64 (x:Int),.int .u64 0,.int .i64 (-1),.int .i64 (-1),.slice A5 (Zq l).length c5]] W (Z4V W sb o s1 p q)):=fun W hq=>by
   obtain ⟨A',c',e',h1,h2,h3⟩:=Za HF1.out.own
   injection e' with e1 _ e2
   subst e1 e2
   have hp:=HPU.out (by trivial) W A2 c2 A5 c5 (HQWB.out.trans hq) ((((h3.kept (HQ2.out.trans HQ24.out) (fun _ _ x=>x)).kept (HQB.out.trans hq) (fun _ _ x=>x))).mono (fun k e=>Nat.le_trans HQ0.out.size (HF1.out.new k e))) HC2.out.1 HC2.out.2 (by have:=(HRD5.out.kept (HQB.out.trans hq) (fun _ _ x=>x)).mono (T:=fun k=>w.heap.size <= k) (fun k e=>HNEW5.out k e);exact this) HC5.out.1 HC5.out.2
   unfold Z0g ZC at hp
   dsimp only at hp
   skip
   exact hp
  apply Zef (wb:=wb) (sb:=sb) (p:=p) (q:=q) (o:=o) (s':=s1)
  case main =>
    intro KEY
    refine zH HS7 ((Z0.refl _ _).drew) (fun Z3=>?_)
    have q0:Quiet wb wb.drew:=(Z0.refl _ _).drew
    generalize wb.drew=d0 at q0 Z3 ⊢
    refine zT 0 ?_
    refine zT 1 ?_
    refine zT 2 ?_
    refine zT 3 ?_
    refine zT 4 ?_
    refine zT 6 ?_
    refine wpAnyH_ready (rs:=[5,12]) (by kernel_rfl) (by simp) ?_
    refine zA ?_ ?_
    ·intro K hK
     go_simp
     go_at_call 40
     refine (Z3h _).mono ?_
     rintro e d1 ⟨rfl,hqn⟩
     have q1:=q0.trans hqn
     clear hqn
     dsimp only
     refine hK.out _ _ ?_ (fun Z3=>?_)
     ·exact HS7.out _ (q1.mono (fun _ _ x=>x.elim))
     clear hK K
     (try simp only [Act.put,zPA,zPZ,zPS])
     refine zT 7 ?_
     refine wpAnyH_ready (rs:=[8,12]) (by kernel_rfl) (by simp) ?_
     refine zA ?_ ?_
     ·intro K hK
      go_simp
      go_at_call 39
      refine (HPUT.out _ q1).mono ?_
      rintro e d2 ⟨rfl,o2,ho2,hw2,hst2⟩
      have q2:=(q1.mono (T:=(fun k=>o k ≠ 0)) (fun _ _ x=>x.elim)).trans hw2
      have hz2:=q1.size
      have ho3:∀ k,k < wb.heap.size->o2 k=o k:=fun k hk=>ho2 k (by omega)
      clear ho2 hw2 hz2
      dsimp only
      refine hK.out _ _ ?_ (fun Z3=>?_)
      ·exact HS7.out _ q2
      clear hK K
      (try simp only [Act.put,zPA,zPZ,zPS])
      refine zT 9 ?_
      refine zT 10 ?_
      refine zT 11 ?_
      refine zR 12 ?_
      intro K hK
      go_simp
      refine hK.out _ _ ?_ (fun Z3=>?_)
      ·exact HS7.out _ (q2.alloc _)
      clear hK K
      (try simp only [Act.put,zPA,zPZ,zPS])
      have hbig2:=Zn.big hst2
      have qe2:=q2.alloc (.cells #[.int .i64 0,.int .i64 0] 48)
      have hb1:=Z4 d2 (.cells #[.int .i64 0,.int .i64 0] 48)
      have hnp:wb.heap.size <= d2.heap.size:=q2.size
      have hst2:=hst2.quietly ((Z0.refl (fun _=>False) d2).alloc (.cells #[.int .i64 0,.int .i64 0] 48))
      have hop:o2 d2.heap.size=0:=hbig2 _ (Nat.le_refl _)
      obtain ⟨pt,hpt⟩:∃ pt,d2.heap.size=pt:=⟨_,rfl⟩
      (try rw [hpt] at hb1)
      (try rw [hpt] at hnp)
      (try rw [hpt])
      (try rw [hpt] at hop)
      generalize d2.alloc (.cells #[.int .i64 0,.int .i64 0] 48)=e2 at *
      clear hpt
      obtain ⟨z0,z1⟩:=zC2 hb1
      have zf:=fun o=>Z7 hb1 o
      refine zR 13 ?_
      intro K hK
      go_simp
      refine hK.out _ _ ?_ (fun Z3=>?_)
      ·exact HS7.out _ (Z15 qe2 hnp hb1 hst2 hop ho3 (p:=p) (q:=q)).only
      clear hK K
      (try simp only [Act.put,zPA,zPZ,zPS])
      have HG:=(Z15 qe2 hnp hb1 hst2 hop ho3 (p:=p) (q:=q))
      refine zT 14 ?_
      refine zD ?_
      generalize (e2.setCell ⟨pt,0,none⟩ (.int .i64 p)).setCell ⟨pt,1,none⟩ (.int .i64 q)=WF at HG ⊢
      exact KEY _ _ HG
     refine zA ?_ AllReadyH.nil
     intro K hK
     go_simp
     refine hK.out _ _ ?_ (fun Z3=>?_)
     ·exact HS7.out _ ((q1.alloc _).mono (fun _ _ x=>x.elim))
     clear hK K
     (try simp only [Act.put,zPA,zPZ,zPS])
     have qe1:=q1.alloc (.cells #[.int .i64 0,.int .i64 0] 48)
     have hb1:=Z4 d1 (.cells #[.int .i64 0,.int .i64 0] 48)
     have hnp:wb.heap.size <= d1.heap.size:=q1.size
     obtain ⟨pt,hpt⟩:∃ pt,d1.heap.size=pt:=⟨_,rfl⟩
     (try rw [hpt] at hb1)
     (try rw [hpt] at hnp)
     (try rw [hpt])
     generalize d1.alloc (.cells #[.int .i64 0,.int .i64 0] 48)=e1 at *
     clear hpt
     refine zR 8 ?_
     intro K hK
     go_simp
     go_at_call 39
     refine (HPUT.out _ qe1).mono ?_
     rintro e d2 ⟨rfl,o2,ho2,hw2,hst2⟩
     have q2:=(qe1.mono (T:=(fun k=>o k ≠ 0)) (fun _ _ x=>x.elim)).trans hw2
     have hz2:=qe1.size
     have hb2:=hw2.get hb1 (HBG.out _ hnp)
     have hop:o2 pt=0:=by rw [ho2 pt (Z2 hb1)];exact HBZ.out _ hnp
     have ho3:∀ k,k < wb.heap.size->o2 k=o k:=fun k hk=>ho2 k (by omega)
     clear ho2 hw2 hz2
     dsimp only
     refine hK.out _ _ ?_ (fun Z3=>?_)
     ·exact HS7.out _ q2
     clear hK K
     (try simp only [Act.put,zPA,zPZ,zPS])
     obtain ⟨z0,z1⟩:=zC2 hb2
     have zf:=fun o=>Z7 hb2 o
     refine zT 9 ?_
     refine zT 10 ?_
     refine zT 11 ?_
     refine zR 13 ?_
     intro K hK
     go_simp
     refine hK.out _ _ ?_ (fun Z3=>?_)
     ·exact HS7.out _ (Z15 q2 hnp hb2 hst2 hop ho3 (p:=p) (q:=q)).only
     clear hK K
     (try simp only [Act.put,zPA,zPZ,zPS])
     have HG:=(Z15 q2 hnp hb2 hst2 hop ho3 (p:=p) (q:=q))
     refine zT 14 ?_
     refine zD ?_
     generalize (d2.setCell ⟨pt,0,none⟩ (.int .i64 p)).setCell ⟨pt,1,none⟩ (.int .i64 q)=WF at HG ⊢
     exact KEY _ _ HG
    refine zA ?_ AllReadyH.nil
    intro K hK
    go_simp
    refine hK.out _ _ ?_ (fun Z3=>?_)
    ·exact HS7.out _ ((q0.alloc _).mono (fun _ _ x=>x.elim))
    clear hK K
    (try simp only [Act.put,zPA,zPZ,zPS])
    have qe0:=q0.alloc (.cells #[.int .i64 0,.int .i64 0] 48)
    have hb1:=Z4 d0 (.cells #[.int .i64 0,.int .i64 0] 48)
    have hnp:wb.heap.size <= d0.heap.size:=q0.size
    obtain ⟨pt,hpt⟩:∃ pt,d0.heap.size=pt:=⟨_,rfl⟩
    (try rw [hpt] at hb1)
    (try rw [hpt] at hnp)
    (try rw [hpt])
    generalize d0.alloc (.cells #[.int .i64 0,.int .i64 0] 48)=e0 at *
    clear hpt
    refine zR 5 ?_
    intro K hK
    go_simp
    go_at_call 40
    refine (Z3h _).mono ?_
    rintro e d1 ⟨rfl,hqn⟩
    have q1:=qe0.trans hqn
    have hbq:=hqn.get hb1 (fun x=>x)
    clear hb1
    have hb1:=hbq
    clear hbq
    clear hqn
    dsimp only
    refine hK.out _ _ ?_ (fun Z3=>?_)
    ·exact HS7.out _ (q1.mono (fun _ _ x=>x.elim))
    clear hK K
    (try simp only [Act.put,zPA,zPZ,zPS])
    refine zT 7 ?_
    refine zR 8 ?_
    intro K hK
    go_simp
    go_at_call 39
    refine (HPUT.out _ q1).mono ?_
    rintro e d2 ⟨rfl,o2,ho2,hw2,hst2⟩
    have q2:=(q1.mono (T:=(fun k=>o k ≠ 0)) (fun _ _ x=>x.elim)).trans hw2
    have hz2:=q1.size
    have hb2:=hw2.get hb1 (HBG.out _ hnp)
    have hop:o2 pt=0:=by rw [ho2 pt (Z2 hb1)];exact HBZ.out _ hnp
    have ho3:∀ k,k < wb.heap.size->o2 k=o k:=fun k hk=>ho2 k (by omega)
    clear ho2 hw2 hz2
    dsimp only
    refine hK.out _ _ ?_ (fun Z3=>?_)
    ·exact HS7.out _ q2
    clear hK K
    (try simp only [Act.put,zPA,zPZ,zPS])
    obtain ⟨z0,z1⟩:=zC2 hb2
    have zf:=fun o=>Z7 hb2 o
    refine zT 9 ?_
    refine zT 10 ?_
    refine zT 11 ?_
    refine zR 13 ?_
    intro K hK
    go_simp
    refine hK.out _ _ ?_ (fun Z3=>?_)
    ·exact HS7.out _ (Z15 q2 hnp hb2 hst2 hop ho3 (p:=p) (q:=q)).only
    clear hK K
    (try simp only [Act.put,zPA,zPZ,zPS])
    have HG:=(Z15 q2 hnp hb2 hst2 hop ho3 (p:=p) (q:=q))
    refine zT 14 ?_
    refine zD ?_
    generalize (d2.setCell ⟨pt,0,none⟩ (.int .i64 p)).setCell ⟨pt,1,none⟩ (.int .i64 q)=WF at HG ⊢
    exact KEY _ _ HG
  case key =>
   intro pt W HL0
   have HL:=zh HL0
   obtain ⟨o',ho',hst,hop⟩:=HL0.st
   have HOW:=zh HL0.only
   obtain ⟨lb,bb,pb,mh,mt,ms,fh,ft,fs,h'⟩:=hst
   obtain ⟨hb,hf,hp⟩:=h'.heaps.2 t.id H1 HS1'.out
   have HR:=zh h'
   have HF:=zh hf
   have HP:=zh hp
   have HOP:=zh hop
   have HO':=zh ho'
   have h8:o' r8=0:=by rw [ho' r8 (Z2 HB8b.out)];have:=HX8.out;omega
   have h12:o' r12=0:=by rw [ho' r12 (Z2 HB12b.out)];have:=HX12.out;omega
   have HO8:=zh (And.intro h8 h12)
   clear HL0 HS7 HPUT hop ho' h' hf hp h8 h12
   have HS13:Hid (∀ W',Z0 (fun k=>o' k=10+2 * t.id) W W'->(fun w'=>w'.cell? ⟨sb,3,none⟩=some (.map (some mh))/\w'.cell? ⟨r12,0,none⟩=some (.int .u64 (t.id:Int))/\w'.cell? ⟨r8,1,none⟩=some (.int .i64 pg)/\w'.cell? ⟨r8,2,none⟩=some (.int .i64 sl)/\w'.cell? ⟨pt,0,none⟩=some (.int .i64 p)/\w'.cell? ⟨pt,1,none⟩=some (.int .i64 q)/\(Instr.lookup 66 (.map (some mh)) (.int .u64 (t.id:Int)) false).run Tryz.prog w'=.ok (ptrV hb) w') W'):=fun W' hq=>by
    have b12:=Z0w (hq.get (HOW.out.get HB12b.out HX12.out) (fun e=>by have:=HO8.out.2;(try dsimp only at e);omega))
    have b8:=hq.get (HOW.out.get HB8b.out HX8.out) (fun e=>by have:=HO8.out.1;(try dsimp only at e);omega)
    have bp:=hq.get HL.out.box (fun e=>by have:=HOP.out;(try dsimp only at e);omega)
    have t1:=HR.out.tags
    have c3:=hq.cell HR.out.cells.2.2.2.1 (fun e=>by (try dsimp only at e);omega)
    have hm:=HR.out.mH.kept hq (fun e=>by (try dsimp only at e);omega)
    exact ⟨c3,b12.1,by rw [Z1 b8];rfl,by rw [Z1 b8];rfl,by rw [Z1 bp];rfl,by rw [Z1 bp];rfl,Z1P hm HF.out HID.out⟩
   have HSTAMP:Hid (∀ W',Quiet W W'->Calls Tryz.prog 44 #[ptrV hb,.agg #[.int .i64 pg,.int .i64 sl],.int .u64 (x:Int),.agg #[.int .i64 p,.int .i64 q]] W' (fun e w'=>e=.returned (.int .i64 z)/\Z0 (fun k=>o' k=10+2 * t.id) W' w'/\Zo w' hb pb (fun k=>o' k=10+2 * t.id) H2)):=fun W' hq=>by
    have:=Zf2 pg sl x p q (HP.out.kept hq (fun _ _ x=>x))
    rw [HST.out] at this
    exact this
   go_wp2_with fail
   refine zH HS13 ((Z0.refl _ _).drew) (fun Z3=>?_)
   have q6:Quiet W W.drew:=(Z0.refl _ _).drew
   generalize W.drew=d6 at q6 Z3 ⊢
   refine zT 0 ?_
   refine zT 1 ?_
   refine zT 2 ?_
   refine zT 3 ?_
   refine zT 4 ?_
   refine zT 5 ?_
   refine zT 6 ?_
   refine zT 7 ?_
   refine zT 8 ?_
   refine zT 9 ?_
   refine zT 10 ?_
   refine zR 11 ?_
   intro K hK
   go_simp
   go_at_call 44
   refine (HSTAMP.out _ q6).mono ?_
   rintro e d7 ⟨rfl,ho7,hh7⟩
   dsimp only
   refine hK.out _ _ ?_ (fun Z3=>?_)
   ·exact HS13.out _ ((q6.mono (T:=fun k=>o' k=10+2 * t.id) (fun _ _ x=>x.elim)).trans ho7)
   clear hK K
   (try simp only [Act.put,zPA,zPZ,zPS])
   refine zT 12 ?_
   refine zD ?_
   have Zc:Hid (Z8 (.returned (.int .i64 z)) d7):=by
    rw [<- Ze.out]
    unfold Z4W
    rw [if_pos rfl]
    have ho:=(q6.mono (T:=fun k=>o' k=10+2 * t.id) (fun _ _ x=>x.elim)).trans ho7
    have tg:=HR.out.tags
    have hpo:=(HR.out.pool.kept q6 (fun x=>x)).kept ho7 (fun e=>by (try dsimp only at e);omega)
    have h9:=HR.out.setHeap (id:=t.id) HF.out (ho.mono (fun k _ x=>Or.inl x)) hpo (hh7.mono (fun k x=>Or.inl x))
    have hsz:=HOW.out.size
    have hzz:=HQWB.out.size
    have hon:Z0 (fun k=>o k ≠ 0) w d7:=((HQWB.out.mono (fun _ _ x=>x.elim)).trans' HOW.out (fun k _ x=>x)).trans' ho (fun k hk x=>by
      rw [<- HO'.out k (by omega)]
      omega)
    exact ⟨rfl,_,fun k hk=>by rw [Z0K (by omega)];exact HO'.out k (by omega),hon,lb,bb,pb,mh,mt,ms,fh,ft,fs,h9⟩
   clear Z3 q6 ho7 hh7 HS13 HSTAMP
   go_wp2
   exact Zc.out
 ·have hne:¬ (code:Int)=0:=by omega
  have Zc:Hid (Z8 (.returned (.int .i64 (code:Int))) (w5.alloc (.cells #[.int .u64 v.row,.int .u64 v.xmin,.int .u64 v.xmax,.int .i64 v.pg,.int .i64 v.sl,.slice A6 v.data.length c6] 96))):=by
   rw [<- Ze.out]
   unfold Z4W
   rw [if_neg hz]
   have hq:=HQ4.out.trans HQB.out
   exact ⟨rfl,o,fun _ _=>rfl,hq.mono (fun _ _ x=>x.elim),HH.out.quietly hq⟩
  go_wp2
  exact Zc.out
def Z2D (w:World) (R:List RowR) (e:Ending) (w':World):Prop :=
 ∃ v M,e=.returned (.tuple #[v,.int .i64 0])/\Z0V w w' v M/\(M.map Z0G.told).Perm R/\M.Pairwise (fun a b=>a.id <= b.id)
def Z5X (ks:List Nat) (H:List (List (Option Tup))):Prop:=∀ pg sl v,ZM H pg sl=some v->U64 v.xmin/\U64 v.xmax/\∃ l,Z2A ks l/\v.data=Zq l
theorem Z5e {p:Int} {T:List (Option Tup)} {k:Nat} {a:Int × Int} (h:a ∈ Zk p T k):a.1=p/\∃ j,j < k/\a.2=(j:Int)/\∃ v,T[j]?=some (some v):=by
 unfold Zk at h
 obtain ⟨j,hj,e⟩:=List.mem_filterMap.1 h
 split at e
 ·rename_i hs
  injection e with e
  subst e
  obtain ⟨v,hv⟩:=Option.isSome_iff_exists.1 hs
  refine ⟨rfl,j,List.mem_range.1 hj,rfl,v,?_⟩
  cases hT:T[j]? with
  | none=>rw [hT] at hv;cases hv
  | some u=>rw [hT] at hv;cases u with
   | none=>cases hv
   | some u=>simpa using hv
 ·cases e
theorem Z4e {H:List (List (Option Tup))} {a:Int × Int} {k:Nat} (h:a ∈ Zx H k):∃ v,ZM H a.1 a.2=some v:=by
 induction k with
 | zero=>cases h
 | succ k ih =>
  rcases List.mem_append.1 h with h | h
  ·exact ih h
  ·obtain ⟨h1,j,_,h2,v,h3⟩:=Z5e h
   refine ⟨v,?_⟩
   unfold ZM
   rw [h1,if_neg (by omega),h2]
   unfold ZY
   rw [if_neg (by omega)]
   show ((H.getD k [])[((j:Nat):Int).toNat]?).join=some v
   rw [Int.toNat_natCast,h3]
   rfl
theorem Zfw {w:World} {sb x i:Nat} {o:Nat->Nat} {s:St} {y:ZA} {t:TE} {name:ByteArray} {H:List (List (Option Tup))} (h:Zn w sb o s) (hx:U64 x) (hy:s.sn x=some y) (hf:Z1r s.L y name s.T=some i) (ht:s.T[i]?=some t) (hU:U8 w) (hc:t.cols.length <= 8) (hid:U64 t.id)
  (hH:s.hs t.id=some H) (hN:∀ k,k <= H.length->(Zx H k).length <= 1000000) (hI:Z5X (Z04 t) H) :
  Calls Tryz.prog 12 #[ptrV sb,.int .u64 (x:Int),.string name] w (Z2D w (Z2z H s.L y (Zx H H.length))):=by
 have HO:=zh (Z6m h hx hy hf ht)
 have HH:=zh h
 have HC:=zh hc
 have HU:=zh hU
 have HID:=zh hid
 have HHH:=zh (And.intro hH (And.intro hN hI))
 obtain ⟨Z8,Z6⟩:∃ Z8,Z2D w (Z2z H s.L y (Zx H H.length))=Z8:=⟨_,rfl⟩
 rw [Z6]
 have Ze:=zh Z6
 clear h hx hy hf ht hc hU hid hH hN hI Z6
 go_enter Tryz.func12,Tryz.ntmps12
 go_wp2_with fail
 refine HO.out.mono ?_
 rintro e w1 ⟨A,c,A2,c2,rfl,hq1,hs1,hf1,hc2,hm2⟩
 clear HO
 have HQ1:=zh hq1
 have HF1:=zh hf1
 have HS1:=zh hs1
 have HC2:=zh (And.intro hc2 hm2)
 have q2:Quiet w1 ((w1.alloc (.cells (snapCells y A c) 76)).alloc (.cells #[.int .u64 (t.id:Int),.string t.name,.slice A2 t.cols.length c2,.int .u64 (t.xmin:Int),.int .u64 (t.xmax:Int)] 90)):=((Z0.refl _ _).alloc _).alloc _
 have b9:=Z0y w1 (.cells (snapCells y A c) 76) (.cells #[.int .u64 (t.id:Int),.string t.name,.slice A2 t.cols.length c2,.int .u64 (t.xmin:Int),.int .u64 (t.xmax:Int)] 90)
 have b8:=Zd (Z4 w1 (.cells (snapCells y A c) 76)) (.cells #[.int .u64 (t.id:Int),.string t.name,.slice A2 t.cols.length c2,.int .u64 (t.xmin:Int),.int .u64 (t.xmax:Int)] 90)
 have HQ2:=zh q2
 have HB9:=zh b9
 have HB8:=zh b8
 obtain ⟨r8,hr8⟩:∃ r8,w1.heap.size=r8:=⟨_,rfl⟩
 obtain ⟨r9,hr9⟩:∃ r9,r8+1=r9:=⟨_,rfl⟩
 rw [hr8] at HB9 HB8
 rw [hr9] at HB9
 have HE8:=zh hr8
 have HE9:=zh hr9
 clear hq1 hs1 hf1 hc2 hm2 q2 b9 b8 hr8 hr9
 unfold Zm Z0g
 go_wp2_with fail
 (try simp only [World.size_alloc])
 rw [HE8.out,HE9.out]
 generalize (w1.alloc (.cells #[.int .u64 (y.own:Int),.int .u64 (y.xmin:Int),.int .u64 (y.xmax:Int),.slice A y.run.length c] 76)).alloc (.cells #[.int .u64 (t.id:Int),.string t.name,.slice A2 t.cols.length c2,.int .u64 (t.xmin:Int),.int .u64 (t.xmax:Int)] 90)=w2 at *
 have HQW:Hid (Quiet w w2):=HQ1.out.trans HQ2.out
 have HHW:=zh (HH.out.quietly HQW.out)
 have HS4:Hid (∀ W,Quiet w2 W->(fun w'=>w'.cell? ⟨r8,0,none⟩=some (.int .u64 (y.own:Int))/\w'.cell? ⟨r8,1,none⟩=some (.int .u64 (y.xmin:Int))/\w'.cell? ⟨r8,2,none⟩=some (.int .u64 (y.xmax:Int))/\w'.cell? ⟨r8,3,none⟩=some (.slice A y.run.length c)/\w'.cell? ⟨r9,0,none⟩=some (.int .u64 (t.id:Int))/\w'.cell? ⟨r9,1,none⟩=some (.string t.name)/\w'.cell? ⟨r9,2,none⟩=some (.slice A2 t.cols.length c2)/\w'.cell? ⟨r9,3,none⟩=some (.int .u64 (t.xmin:Int))/\w'.cell? ⟨r9,4,none⟩=some (.int .u64 (t.xmax:Int))) W):=fun W hq=>by
  have b9:=Z0w (hq.get HB9.out (fun x=>x))
  have b8:=Z07 (hq.get HB8.out (fun x=>x))
  exact ⟨b8.1,b8.2.1,b8.2.2.1,b8.2.2.2,b9⟩
 have HPL:Hid (∀ W,Quiet w2 W->Calls Tryz.prog 31 #[ptrV sb,.int .u64 (t.id:Int)] W (Z1h W (Zx H H.length))):=fun W hq=>Z7c (HHW.out.quietly hq) HID.out HHH.out.1 HHH.out.2.1
 have HRW:Hid (∀ W,Quiet w2 W->∀ A3 c3 (Sl:Nat->Prop),Rd W Sl 2 A3 (Zx H H.length).length (ZU (Zx H H.length))->Calls Tryz.prog 42 #[ptrV sb,Zm y A c,Z0g t A2 c2,.slice A3 (Zx H H.length).length c3] W (Z8u W (Z2z H s.L y (Zx H H.length)))):=fun W hq A3 c3 Sl hr=>by
  obtain ⟨A',c',e',h1,h2,h3⟩:=Za HF1.out.own
  injection e' with e1 _ e2
  subst e1 e2
  exact Zfr (HHW.out.quietly hq) ((HS1.out.kept HQ2.out (fun _ _ x=>x)).kept hq (fun _ _ x=>x)) (HU.out.quietly (HQW.out.trans hq)) HC.out HID.out ((h3.kept HQ2.out (fun _ _ x=>x)).kept hq (fun _ _ x=>x)) HC2.out.1 HC2.out.2 HHH.out.1 hr (HHH.out.2.1 _ (Nat.le_refl _)) (fun a ha=>by
    obtain ⟨v,hv⟩:=Z4e ha
    obtain ⟨i1,i2,i3⟩:=HHH.out.2.2 _ _ _ hv
    exact ⟨v,hv,i1,i2,fun _=>i3⟩)
 unfold Zm Z0g at HRW
 refine zH HS4 ((Z0.refl _ _).drew) (fun Z3=>?_)
 have q0:Quiet w2 w2.drew:=(Z0.refl _ _).drew
 generalize w2.drew=d0 at q0 Z3 ⊢
 refine zT 0 ?_
 refine zT 1 ?_
 refine zT 2 ?_
 refine zT 3 ?_
 refine zT 4 ?_
 refine zT 5 ?_
 refine zR 6 ?_
 intro K hK
 go_simp
 go_at_call 31
 refine (HPL.out _ q0).mono ?_
 rintro e d1 ⟨v3,rfl,hq3,_,ht3⟩
 obtain ⟨A3,c3,rfl,hc3,hm3,hrd3⟩:=Za ht3
 have q1:=q0.trans hq3
 clear hq3 ht3
 dsimp only
 refine hK.out _ _ ?_ (fun Z3=>?_)
 ·exact HS4.out _ q1
 clear hK K
 (try simp only [Act.put,zPA,zPZ,zPS])
 refine zR 7 ?_
 intro K hK
 go_simp
 go_at_call 42
 refine (HRW.out _ q1 A3 c3 _ hrd3).mono ?_
 rintro e d2 ⟨v4,M,rfl,hrw,hpm,hpw⟩
 have q2:=q1.trans hrw.quiet
 dsimp only
 refine hK.out _ _ ?_ (fun Z3=>?_)
 ·exact HS4.out _ q2
 clear hK K
 (try simp only [Act.put,zPA,zPZ,zPS])
 refine zT 8 ?_
 refine zT 9 ?_
 refine zD ?_
 have Zc:Hid (Z8 (.returned (.tuple #[v4,.int .i64 0])) d2):=by
  rw [<- Ze.out]
  exact ⟨v4,M,rfl,hrw.from (HQW.out.trans q1),hpm,hpw⟩
 clear Z3 q0 q1 q2 hrw hpm hpw HS4 HPL HRW hrd3 hc3 hm3
 go_wp2
 exact Zc.out
theorem Zhp {w:World} {v:Value} {l:List RV} {x:RV} (h:w.ownsRow 0 32 4 v l.length (Z0P l)) (hx:l[0]?=some x):∃ b c,v=.slice (some ⟨b,0,none⟩) l.length c/\b < w.heap.size/\w.cell? ⟨b,0,none⟩=some (.int .u8 (x.k:Int))/\w.cell? ⟨b,1,none⟩=some (.int .i64 x.i)/\w.cell? ⟨b,2,none⟩=some (.string x.s)/\w.cell? ⟨b,3,none⟩=some (.bool x.b):=by
 rcases ZB h with ⟨_,e⟩ | ⟨b,c,rfl,_,_⟩
 ·have:=(zi.1 hx).1
  omega
 obtain ⟨cb,hcb⟩:=Zh h (k:=b) rfl
 have key:∀ j u,(Z2x x)[j]?=some u->w.cell? ⟨b,j,none⟩=some u:=fun j u hu=>by
  have:=h.cells (by rfl) (0 * 4+j) u (Z5b hx hu)
  rw [Zl,Nat.zero_mul,Nat.zero_add,Nat.zero_add] at this
  exact this
 exact ⟨b,c,rfl,Z2 hcb,key 0 _ rfl,key 1 _ rfl,key 2 _ rfl,key 3 _ rfl⟩
abbrev gA8:Nat:=Tryz.validLay_ren.g 3
abbrev gB8:Nat:=Tryz.validLay_ren.g 4
theorem U8.lt {w:World} (h:U8 w):gA8 < w.heap.size/\gB8 < w.heap.size:=⟨Zf (h.1 0 (by decide)),Zf (h.2 0 (by decide)).1⟩
theorem U8.only {w w':World} {S:Nat->Prop} (h:U8 w) (ho:Z0 S w w') (n3:¬ S gA8) (n4:¬ S gB8):U8 w' :=
 ⟨fun c hc=>ho.cell (h.1 c hc) n3,fun i hi=>⟨ho.cell (h.2 i hi).1 n4,ho.cell (h.2 i hi).2 n4⟩⟩
def U8o (o:Nat->Nat):Prop:=o gA8=0/\o gB8=0
def Z4M (x:RV):Prop:=Zt x=true/\ZcE x/\(x.k=2 ∨ x.k=1/\0 <= x.i/\x.i < 256)
theorem Zbv {w:World} {S2:Nat->Prop} {A2:Option Addr} {c2:Nat} {x:RV} (hU:U8 w) (hx:Z4M x) (hv:Rd w S2 4 A2 1 (Z2x x)) (hc2:1 <= c2) (hm2:c2 <= maxLen) :
  Calls Tryz.prog 76 #[.slice A2 1 c2] w (Z40 w (ZW x)):=by
 obtain ⟨h1,_,h3⟩:=hx
 obtain ⟨h60,h⟩:=Z1U h1
 rcases h with ⟨e,_⟩ | ⟨_,e⟩ | ⟨_,e⟩ | ⟨e,_⟩
 ·omega
 ·rcases h3 with h3 | ⟨_,h3,h4⟩
  ·rw [e] at h3;cases h3
  ·obtain ⟨n,hn⟩:∃ n:Nat,x.i=n:=⟨x.i.toNat,by omega⟩
   rw [hn] at e h4
   rw [e] at hv ⊢
   rw [Zj1 (by omega)]
   exact Zbu (by omega) hv hc2 hm2
 ·rw [e] at h1 hv ⊢
  exact Za6 hU h1 h60 hv hc2 hm2
 ·omega
theorem Zhq {w:World} {c2 cd:Nat} {t:TE} {l:List RV} {x:RV} {Sc Sd:Nat->Prop} {A A2:Option Addr} {v:Tup} (hU:U8 w) (ht:t.cols.length <= 8) (hx0:l[0]?=some x) (hkx:Z4M x) (hr:Rd w Sc 2 A2 t.cols.length (ZZ t.cols)) (hc2:t.cols.length <= c2) (hm2:c2 <= maxLen) (hn:Z2A (Z04 t) l) (hdat:v.data=Zq l) (hd:Rd w Sd 1 A v.data.length (Z9 v.data)) (hcd:v.data.length <= cd) (hmd:cd <= maxLen) :
  Calls Tryz.prog 35 #[Z0g t A2 c2,ZC v A cd,.int .i64 0] w (Z4f w (ZW x)):=by
 have HQ0:Hid (Quiet w ((w.alloc (.cells #[.int .u64 (t.id:Int),.string t.name,.slice A2 t.cols.length c2,.int .u64 (t.xmin:Int),.int .u64 (t.xmax:Int)] 90)).alloc (.cells #[.int .u64 v.row,.int .u64 v.xmin,.int .u64 v.xmax,.int .i64 v.pg,.int .i64 v.sl,.slice A v.data.length cd] 96))):=((Z0.refl _ _).alloc _).alloc _
 have HB3:=zh (Zd (Z4 w (.cells #[.int .u64 (t.id:Int),.string t.name,.slice A2 t.cols.length c2,.int .u64 (t.xmin:Int),.int .u64 (t.xmax:Int)] 90)) (.cells #[.int .u64 v.row,.int .u64 v.xmin,.int .u64 v.xmax,.int .i64 v.pg,.int .i64 v.sl,.slice A v.data.length cd] 96))
 have HB4:=zh (Z0y w (.cells #[.int .u64 (t.id:Int),.string t.name,.slice A2 t.cols.length c2,.int .u64 (t.xmin:Int),.int .u64 (t.xmax:Int)] 90) (.cells #[.int .u64 v.row,.int .u64 v.xmin,.int .u64 v.xmax,.int .i64 v.pg,.int .i64 v.sl,.slice A v.data.length cd] 96))
 obtain ⟨r3,hr3⟩:∃ r3,w.heap.size=r3:=⟨_,rfl⟩
 obtain ⟨r4,hr4⟩:∃ r4,r3+1=r4:=⟨_,rfl⟩
 rw [hr3] at HB3 HB4
 rw [hr4] at HB4
 have HR:=zh hr
 have HC2:=zh (And.intro hc2 hm2)
 have HT:=zh ht
 have HU:=zh hU
 have HX0:=zh hx0
 have HKX:=zh hkx
 have HDT:=zh hdat
 have HX:=zh hn
 have HD:=zh hd
 have HDC:=zh (And.intro hcd hmd)
 obtain ⟨Z8,Z6⟩:∃ Z8,Z4f w (ZW x)=Z8:=⟨_,rfl⟩
 rw [Z6]
 have Ze:=zh Z6
 unfold Z0g ZC
 clear hr hc2 hm2 ht hn hd hcd hmd Z6 hdat hU hx0 hkx
 go_enter Tryz.func35,Tryz.ntmps35
 go_wp2_with fail
 (try simp only [World.size_alloc] at *)
 (try rw [hr3]);(try rw [hr4])
 generalize (w.alloc (.cells #[.int .u64 (t.id:Int),.string t.name,.slice A2 t.cols.length c2,.int .u64 (t.xmin:Int),.int .u64 (t.xmax:Int)] 90)).alloc (.cells #[.int .u64 v.row,.int .u64 v.xmin,.int .u64 v.xmax,.int .i64 v.pg,.int .i64 v.sl,.slice A v.data.length cd] 96)=w2 at *
 have HS1:Hid (∀ W,Quiet w2 W->(fun w'=>w'.cell? ⟨r3,0,none⟩=some (.int .u64 (t.id:Int))/\w'.cell? ⟨r3,1,none⟩=some (.string t.name)/\w'.cell? ⟨r3,2,none⟩=some (.slice A2 t.cols.length c2)/\w'.cell? ⟨r3,3,none⟩=some (.int .u64 (t.xmin:Int))/\w'.cell? ⟨r3,4,none⟩=some (.int .u64 (t.xmax:Int))/\w'.cell? ⟨r4,5,none⟩=some (.slice A v.data.length cd)) W):=fun W hq=>by
  have b3:=Z0w (hq.get HB3.out (fun x=>x))
  have b4:=hq.get HB4.out (fun x=>x)
  exact ⟨b3.1,b3.2.1,b3.2.2.1,b3.2.2.2.1,b3.2.2.2.2,by rw [Z1 b4];rfl⟩
 have HKND:Hid (∀ W',Quiet w2 W'->Calls Tryz.prog 38 #[Z0g t A2 c2] W' (Z3B W' (Z04 t))):=fun W' hq =>
  Z4d (HR.out.kept (HQ0.out.trans hq) (fun _ _ x=>x)) HC2.out.1 HC2.out.2 (by have:=HT.out;omega)
 have HDAT:Hid (∀ W',Quiet w2 W'->Rd W' Sd 1 A v.data.length (Z9 (Zq l))):=fun W' hq=>by
  have:=HD.out.kept (HQ0.out.trans hq) (fun _ _ x=>x)
  have e:Z9 v.data=Z9 (Zq l):=by rw [HDT.out]
  rw [e] at this
  exact this
 unfold Z0g at HKND
 clear hr3 hr4
 refine zH HS1 (Z0.refl _ _).drew (fun Z3=>?_)
 have q8:Quiet w2 w2.drew:=(Z0.refl _ _).drew
 generalize w2.drew=d8 at q8 Z3 ⊢
 refine zT 0 ?_
 refine zT 2 ?_
 refine zT 3 ?_
 refine zR 1 ?_
 intro K hK
 go_simp
 go_at_call 38
 refine (HKND.out _ q8).mono ?_
 rintro e d9 ⟨v9,rfl,hf9⟩
 have q9:=q8.trans hf9.quiet
 obtain ⟨A9,c9,rfl,hc9,hm9,hrd9⟩:=Za hf9.own
 clear hf9
 dsimp only
 refine hK.out _ _ ?_ (fun Z3=>?_)
 ·exact HS1.out _ q9
 clear hK K
 (try simp only [Act.put,zPA,zPZ,zPS])
 refine zR 4 ?_
 intro K hK
 go_simp
 go_at_call 75
 refine (Z7e (HU.out.quietly (HQ0.out.trans q9)) HX.out.1 HX.out.2 (by exact hrd9) rfl (HDAT.out _ q9) (by rw [HDT.out]) hc9 hm9 HDC.out.1 HDC.out.2).mono ?_
 rintro e d10 ⟨v10,rfl,hf10⟩
 have q10:=q9.trans hf10.quiet
 have hfv:=Z2F.from9 q9 hf10
 clear hf10
 dsimp only
 refine hK.out _ _ ?_ (fun Z3=>?_)
 ·exact HS1.out _ q10
 clear hK K
 (try simp only [Act.put,zPA,zPZ,zPS])
 refine zT 5 ?_
 refine zT 6 ?_
 refine zT 7 ?_
 refine zT 8 ?_
 refine zT 9 ?_
 refine zD ?_
 clear Z3 q8 q9 hrd9 hc9 hm9
 obtain ⟨b,cb,rfl,hlb,x0,x1,x2,x3⟩:=Zhp hfv.own HX0.out
 have hl0:0 < l.length:=(zi.1 HX0.out).1
 have HQ10:Hid (Quiet w d10):=HQ0.out.trans q10
 have HKB:Hid (Calls Tryz.prog 76 #[.slice (some ⟨d10.heap.size,0,none⟩) 1 1] (d10.alloc (.cells #[.int .u8 (x.k:Int),.int .i64 x.i,.string x.s,.bool x.b] 32)) (Z40 (d10.alloc (.cells #[.int .u8 (x.k:Int),.int .i64 x.i,.string x.s,.bool x.b] 32)) (ZW x))):=Zbv (HU.out.quietly (HQ10.out.trans ((Z0.refl (fun _=>False) d10).alloc (.cells #[.int .u8 (x.k:Int),.int .i64 x.i,.string x.s,.bool x.b] 32)))) HKX.out (Rd.new d10 4 1 (Z2x x) 32 (fun _=>True) rfl trivial) (Nat.le_refl _) (by unfold maxLen;omega)
 have hqa:Quiet d10 (d10.alloc (.cells #[.int .u8 (x.k:Int),.int .i64 x.i,.string x.s,.bool x.b] 32)):=(Z0.refl _ _).alloc _
 have HQA:Hid (Quiet w (d10.alloc (.cells #[.int .u8 (x.k:Int),.int .i64 x.i,.string x.s,.bool x.b] 32))):=HQ10.out.trans hqa
 clear hfv q10 HDAT HKND HS1 hqa
 go_wp2_with fail
 refine HKB.out.mono ?_
 rintro e w5 ⟨v5,rfl,hf5⟩
 have Zc:Hid (Z8 (.returned v5) w5):=by
  rw [<- Ze.out]
  exact ⟨v5,rfl,HQA.out.trans hf5.quiet,fun k e=>Nat.le_trans HQA.out.size (hf5.new k e),hf5.own⟩
 clear hf5 HKB x0 x1 x2 x3 hlb
 go_wp2
 exact Zc.out
end Go.Proofs.YtobhgnjblniphaaGreatDoor
