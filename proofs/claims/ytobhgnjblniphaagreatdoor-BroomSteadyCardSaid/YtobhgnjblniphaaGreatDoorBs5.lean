/- store.put, with the indexes that must be kept up. The contract of a node's all: every entry, in order. The contract of parts: n things in parts. A row of nodes that grows: what build keeps. The contract of build: a tree of entries. slices.Delete of one entry: in place. The contract of the tree's Delete. The contract of the tree's Prune. Plain: what a stamp leaves at every place; the places of a heap. What the broom asks of a store: dead, Pages, Gather, Unlink, Release. The book of one table: Tables, entries, taken. book.Prune and store.Prune where nothing is dead. No condition. -/
import Derived.Test.YtobhgnjblniphaaGreatDoorBs4
import Derived.BigRegion
import Derived.Deep.CutBlock
set_option linter.unusedVariables false
set_option linter.unusedSimpArgs false
set_option maxRecDepth 100000
set_option maxHeartbeats 8000000
namespace Go.Lap
def cutAt (n i:Nat):Nat:=n * i / ((n+7) / 8)
def Z25 (n:Nat):Nat:=(n+7) / 8
def Z9v (n i:Nat):List Value:=[.int .i64 (cutAt n i:Int),.int .i64 (cutAt n (i+1):Int)]
def Z3L (n i:Nat):List Value:=(List.range i).flatMap (Z9v n)
theorem Z5M (n i:Nat):Z3L n (i+1)=Z3L n i ++ Z9v n i:=by
 unfold Z3L
 rw [List.range_succ,List.flatMap_append]
 simp
theorem Z2E (n i:Nat):(Z3L n i).length=i * 2:=by
 induction i with
 | zero=>rfl
 | succ i ih=>rw [Z5M,List.length_append,ih];simp [Z9v];omega
theorem Z9w (n:Nat):∀ {k i:Nat},i < k->(Z3L n k)[i * 2]?=some (.int .i64 (cutAt n i:Int))/\(Z3L n k)[i * 2+1]?=some (.int .i64 (cutAt n (i+1):Int))
 | 0,i,h=>by omega
 | k+1,i,h=>by
  rw [Z5M]
  by_cases x:i < k
  ·have:=Z9w n x
   rw [List.getElem?_append_left (by rw [Z2E];omega),List.getElem?_append_left (by rw [Z2E];omega)]
   exact this
  ·have:i=k:=by omega
   subst this
   rw [List.getElem?_append_right (by rw [Z2E];omega),List.getElem?_append_right (by rw [Z2E];omega),Z2E,Nat.sub_self,show i * 2+1 - i * 2=1 by omega]
   exact ⟨rfl,rfl⟩
theorem ZcN (n:Nat):cutAt n 0=0:=by unfold cutAt;rw [Nat.mul_zero,Nat.zero_div]
theorem Za7 (n:Nat):cutAt n (Z25 n)=n:=by
 unfold cutAt Z25
 rcases Nat.eq_zero_or_pos ((n+7) / 8) with h | h
 ·rw [h];simp;omega
 ·exact Nat.mul_div_cancel _ h
theorem Z8y (n i:Nat):cutAt n i+n / ((n+7) / 8) <= cutAt n (i+1):=by
 unfold cutAt
 rcases Nat.eq_zero_or_pos ((n+7) / 8) with h | h
 ·rw [h];simp
 ·rw [Nat.le_div_iff_mul_le h,Nat.add_mul,Nat.mul_add,Nat.mul_one]
  have h1:=Nat.div_mul_le_self (n * i) ((n+7) / 8)
  have h2:=Nat.div_mul_le_self n ((n+7) / 8)
  omega
theorem Zj5 (n:Nat):∀ {i j:Nat},i <= j->cutAt n i <= cutAt n j:=by
 intro i j h
 obtain ⟨d,rfl⟩:=Nat.le.dest h
 induction d with
 | zero=>exact Nat.le_refl _
 | succ d ih =>
  have h1:cutAt n (i+d) <= cutAt n (i+d+1):=Nat.le_trans (Nat.le_add_right _ _) (Z8y n (i+d))
  have h2:=ih (Nat.le_add_right _ _)
  rw [<- Nat.add_assoc]
  omega
theorem Zhs {n i:Nat} (h:i <= Z25 n):cutAt n i <= n:=by
 have:=Zj5 n h
 rw [Za7] at this
 exact this
theorem Zk6 {n:Nat} (h:0 < n) (i:Nat):cutAt n i+1 <= cutAt n (i+1):=by
 have h1:=Z8y n i
 have h2:1 <= n / ((n+7) / 8):=by
  rw [Nat.le_div_iff_mul_le (by omega)]
  omega
 omega
theorem Zk7 {n:Nat} (h:2 <= n) (i:Nat):cutAt n i+2 <= cutAt n (i+1):=by
 have h1:=Z8y n i
 have h2:2 <= n / ((n+7) / 8):=by
  rw [Nat.le_div_iff_mul_le (by omega)]
  omega
 omega
theorem Zht {n:Nat} (h:2 <= n):Z25 n < n:=by unfold Z25;omega
theorem Zfz {n:Nat} (h:0 < n):0 < Z25 n:=by unfold Z25;omega
theorem ZdI:Z25 0=0:=rfl
theorem Zb1 (ks:List Kid) (x:Kid):flat (ks ++ [x])=flat ks ++ x.xs:=by simp [flat]
theorem Z7h {α:Type} (xs:List α) {a b:Nat} (h:a <= b):xs.take a ++ (xs.drop a).take (b - a)=xs.take b:=by
 have e:b=a+(b - a):=by omega
 conv=>rhs;rw [e]
 rw [List.take_add]
section
open Go.RowKit
end
theorem Zhw {w:World} {S:Nat->Prop} {A:Option Addr} {n i:Nat} {ps:List (Int × Int)} {p:Int × Int} (h:Rd w S 2 A n (ZU ps)) (hi:ps[i]?=some p) :
  ∃ b off,A=some ⟨b,off,none⟩/\S b/\w.cell? ⟨b,off+i * 2,none⟩=some (.int .i64 p.1)/\w.cell? ⟨b,off+i * 2+1,none⟩=some (.int .i64 p.2):=by
 obtain ⟨h1,h2⟩:=ZaD hi
 have hl:=(zi.1 h1).1
 obtain ⟨b,off,e,hs,hc⟩:=h.cells (by omega)
 exact ⟨b,off,e,hs,hc _ _ h1,by have:=hc _ _ h2;rw [<- Nat.add_assoc] at this;exact this⟩
def Za8 (ps:List (Int × Int)) (x:Ent):Bool:=decide ((x.pg,x.sl) ∈ ps)
def Z11 (ps:List (Int × Int)) (es:List Ent):List Ent:=es.filter (fun x=>!Za8 ps x)
def Z0U (ps:List (Int × Int)) (xs:List EV):List EV:=xs.filter (fun x=>!Za8 ps x.e)
theorem Z3M (ps:List (Int × Int)) (xs:List EV):ents (Z0U ps xs)=Z11 ps (ents xs):=by
 unfold ents Z11 Z0U
 rw [List.filter_map]
 rfl
theorem Zhx (ps:List (Int × Int)) (xs:List EV):(Z0U ps xs).length <= xs.length:=List.length_filter_le _ _
theorem Zhy (ps:List (Int × Int)) (es:List Ent):(Z11 ps es).length <= es.length:=List.length_filter_le _ _
theorem Zj8 {ps:List (Int × Int)} {x:EV} (xs:List EV) (h:Za8 ps x.e=true):Z0U ps (xs ++ [x])=Z0U ps xs:=by
 unfold Z0U
 rw [List.filter_append,List.filter_cons_of_neg (by simp [h])]
 simp
theorem Zhz {ps:List (Int × Int)} {x:EV} (xs:List EV) (h:Za8 ps x.e=false):Z0U ps (xs ++ [x])=Z0U ps xs ++ [x]:=by
 unfold Z0U
 rw [List.filter_append,List.filter_cons_of_pos (by simp [h])]
 rfl
theorem ZfA {ps:List (Int × Int)} {xs:List EV} (h:xs.length <= (Z0U ps xs).length):Z0U ps xs=xs:=by
 unfold Z0U at h ⊢
 rw [List.filter_eq_self]
 rw [<- List.length_filter_eq_length_iff]
 exact Nat.le_antisymm (List.length_filter_le _ _) h
theorem ZS.prune {es:List Ent} (h:ZS es) (ps:List (Int × Int)):ZS (Z11 ps es):=List.Pairwise.filter _ h
theorem ZhA {ps:List (Int × Int)} {xs:List EV} {x:EV} (h:x ∈ Z0U ps xs):x ∈ xs:=(List.mem_filter.1 h).1
def ZN (L:List Nat) (H:List (List (Option Tup))) (hz:Nat) (a:Int × Int):Bool:=match ZM H a.1 a.2 with | some v=>Z0h L v.xmin v.xmax hz | none=>false
def Z0D (L:List Nat) (hz:Nat) (H:List (List (Option Tup))) (l:List (Int × Int)):List (List (Option Tup)):=l.foldl (fun H a=>if ZN L H hz a then (Z1q H a.1 a.2).2 else H) H
theorem Zb3 (L:List Nat) (hz:Nat) (H:List (List (Option Tup))) (l:List (Int × Int)) (a:Int × Int):Z0D L hz H (l ++ [a])=if ZN L (Z0D L hz H l) hz a then (Z1q (Z0D L hz H l) a.1 a.2).2 else Z0D L hz H l:=by
 unfold Z0D
 rw [List.foldl_append]
 rfl
section
open Go.RowKit
def Z0e (ps:List Nat) (ds:List Bool) (k:Nat):List Nat:=(((ps.zip ds).take k).filter (fun z=>!z.2)).map (fun z=>z.1)
theorem Z32 {ps:List Nat} {ds:List Bool} {k p:Nat} {d:Bool} (hp:ps[k]?=some p) (hd:ds[k]?=some d):Z0e ps ds (k+1)=Z0e ps ds k ++ (if d=true then [] else [p]):=by
 unfold Z0e
 have hz:(ps.zip ds)[k]?=some (p,d):=by rw [List.getElem?_zip_eq_some];exact ⟨hp,hd⟩
 rw [List.take_add_one,hz,List.filter_append,List.map_append]
 congr 1
 cases d <;> simp
theorem Z3C {ps:List Nat} {ds:List Bool} {k:Nat} (h:∀ j:Nat,j < k->ds[j]?=some false) (hl:ps.length=ds.length) (hk:k <= ps.length):Z0e ps ds k=ps.take k:=by
 unfold Z0e
 rw [List.filter_eq_self.2 (fun z hz=>?_)]
 ·rw [List.map_take,List.map_fst_zip (by omega)]
 ·obtain ⟨i,hi⟩:=List.mem_iff_getElem?.1 hz
  have hlt:=(zi.1 hi).1
  rw [List.length_take] at hlt
  rw [List.getElem?_take_of_lt (by omega),List.getElem?_zip_eq_some] at hi
  have:=h i (by omega)
  rw [hi.2] at this
  injection this with this
  rw [this]
  rfl
theorem Z83 (cur:Array Value) (o:Nat) (xs:List Value) {x:Nat} (hx:x < o) (hf:o+xs.length <= cur.size):(laid cur o xs)[x]?=cur[x]?:=by
 rw [<- Array.getElem?_toList,Z4s,List.append_assoc,List.getElem?_append_left (by rw [List.length_take,Array.length_toList];omega),List.getElem?_take_of_lt hx,Array.getElem?_toList]
theorem Z61 {P:Program} (w:World) (t e:TypeId) (ht:P.underlying t=some (.slice e)) (hv:∀ w,(zeroValue e).run P w=.ok (.pointer none) w) {g o d c:Nat} {cur:Array Value} (hg:w.heap[g]?=some (.cells cur e (0,0))) (hfit:o+(d+1) <= cur.size) :
  ∃ w',(∀ ty,(Builtin.clear_ #[t] ty #[.slice (some ⟨g,o,none⟩) (d+1) c]).run P w=.ok (.tuple #[]) w')/\w'.heap[g]?=some (.cells (laid cur o (List.replicate (d+1) (.pointer none))) e (0,0))/\Z0 (·=g) w w':=by
 have hzc:(Builtin.zeroCells #[Value.pointer none] (d+1)).toList=List.replicate (d+1) (.pointer none):=by
  simp only [Builtin.zeroCells,Array.toList_map,Array.toList_range]
  apply List.ext_getElem
  ·simp
  ·intro i h1 h2
   simp [Nat.mod_one]
 have hst:=run_storeCells_at (P:=P) g o e (List.replicate (d+1) (.pointer none)) 0 cur w hg (by simpa using hfit) (fun u hu=>by rw [List.eq_of_mem_replicate hu];rfl)
 simp only [Nat.add_zero] at hst
 refine ⟨_,fun ty=>?_,setRow_heap w g cur _ e (0,0) hg,(Z0.refl _ _).setRow g _ (fun _=>rfl)⟩
 have hc1:(Value.pointer none).cells=#[Value.pointer none]:=rfl
 simp only [List.length_replicate] at hst
 simp [Builtin.clear_,run_underlying ht,hv,hc1,hzc,hst,laid]
end
structure EB where
 id:Nat
 name:ByteArray
 xmin:Nat
 xmax:Nat
 rest:List Go.Value
 ty:Go.TypeId
end Go.Lap
namespace Go.Proofs.YtobhgnjblniphaaGreatDoor
open Go.RowKit Go.Lap
def Z31 (ent:Ent) (ts:Nat->Option (List Ent)) (l:List IE):Nat->Option (List Ent):=l.foldl (fun ts e=>upd ts e.id (some (Z2H ent ((ts e.id).getD [])))) ts
theorem Zfx (ent:Ent) (ts:Nat->Option (List Ent)) (l:List IE) (e:IE):Z31 ent ts (l ++ [e])=upd (Z31 ent ts l) e.id (some (Z2H ent ((Z31 ent ts l e.id).getD []))):=by
 unfold Z31
 rw [List.foldl_append]
 rfl
theorem ZdH {ent:Ent} {l:List IE} {i:Nat}:∀ {ts:Nat->Option (List Ent)},(∀ e ∈ l,e.id ≠ i)->Z31 ent ts l i=ts i:=by
 induction l with
 | nil=>intro ts _;rfl
 | cons e l ih =>
  intro ts h
  have h1:e.id ≠ i:=h e (List.mem_cons_self ..)
  have h2:=ih (ts:=upd ts e.id (some (Z2H ent ((ts e.id).getD [])))) (fun x hx=>h x (List.mem_cons_of_mem _ hx))
  show Z31 ent (upd ts e.id _) l i=ts i
  rw [h2]
  simp [upd,Ne.symm h1]
def putSx (s:St) (id:Nat) (H':List (List (Option Tup))) (left':Nat) (ent:Ent):St:={ s with left:=left',hs:=upd s.hs id (some H'),ts:=Z31 ent s.ts (ZQ s.L id s.I) }
theorem Zfy (w:World):(zeroValue 87).run Tryz.prog w=.ok (.pointer none) w:=by kernel_rfl
theorem Z7g {W:World} {mt tb id:Nat} {ft:Nat->Option Value} (h:Z0f W mt ft) (hf:ft id=some (ptrV tb)) (hid:U64 id):(Instr.lookup 67 (.map (some mt)) (.int .u64 (id:Int)) false).run Tryz.prog W=.ok (ptrV tb) W:=by
 have:=h.lookup Tryz.underlying67 Tryz.underlying34 false (Zfy _) hid
 rw [hf] at this
 simpa using this
theorem Z8x:∀ (M:List IE) (i:Nat) (m:IE),M[i]?=some m->(idxV M)[i * 6]?=some (.int .u64 (m.id:Int))/\(idxV M)[i * 6+1]?=some (.string m.name)/\(idxV M)[i * 6+2]?=some (.int .u64 (m.table:Int))/\(idxV M)[i * 6+3]?=some (.int .i64 (m.column:Int))/\(idxV M)[i * 6+4]?=some (.int .u64 (m.xmin:Int))/\(idxV M)[i * 6+5]?=some (.int .u64 (m.xmax:Int))
 | [],i,m,h=>by simp at h
 | x :: M,0,m,h=>by
  simp at h
  subst h
  exact ⟨rfl,rfl,rfl,rfl,rfl,rfl⟩
 | x :: M,i+1,m,h=>by
  have ih:=Z8x M i m (by simpa using h)
  have e:idxV (x :: M)=.int .u64 (x.id:Int) :: .string x.name :: .int .u64 (x.table:Int) :: .int .i64 (x.column:Int) :: .int .u64 (x.xmin:Int) :: .int .u64 (x.xmax:Int) :: idxV M:=rfl
  rw [e,show (i+1) * 6=i * 6+1+1+1+1+1+1 by omega]
  exact ih
theorem Zj3 {l:List IE} {k:Nat} {x:IE} (h:(l.map (fun e=>e.id)).Nodup) (hx:l[k]?=some x):∀ e ∈ l.take k,e.id ≠ x.id:=by
 intro e he hid
 obtain ⟨j,hj⟩:=List.mem_iff_getElem?.1 he
 have hjk:j < k:=by
  have:=(zi.1 hj).1
  rw [List.length_take] at this
  omega
 rw [List.getElem?_take_of_lt hjk] at hj
 obtain ⟨l1,e1⟩:=zi.1 hj
 obtain ⟨l2,e2⟩:=zi.1 hx
 have:=(List.pairwise_iff_getElem.1 h) j k (by simpa using l1) (by simpa using l2) hjk
 simp only [List.getElem_map] at this
 rw [e1,e2] at this
 exact this hid
theorem Zj.setTree {w w':World} {sb:Nat} {o:Nat->Nat} {s:St} {lb bb pb mh mt ms:Nat} {fh ft fs:Nat->Option Value} {id tb:Nat} {es':List Ent} (h:Zj w sb o s lb bb pb mh mt ms fh ft fs) (hid:ft id=some (ptrV tb)) (ho:Z0 (fun k=>o k=11+2 * id) w w') (hl:Z0x w' (fun k=>o k=11+2 * id ∨ w.heap.size <= k) tb es') :
  Zj w' sb (grow o w.heap.size w'.heap.size (11+2 * id)) { s with ts:=upd s.ts id (some es') } lb bb pb mh mt ms fh ft fs:=by
 obtain ⟨t1,t2,t3,t4,t5⟩:=h.tags
 have hg:Z0J o (grow o w.heap.size w'.heap.size (11+2 * id)):=Z0J.grow h.big
 refine ⟨ho.get h.box (fun x=>by omega),Z4B h.log ho hg (by omega) (fun k x=>by omega),Z3f h.book ho hg (by omega) (fun k x=>by omega),h.pool.kept ho (fun x=>by omega),
   h.mH.kept ho (fun x=>by omega),h.mT.kept ho (fun x=>by omega),h.mS.kept ho (fun x=>by omega),⟨by rw [hg _ (by omega)];exact t1,by rw [hg _ (by omega)];exact t2,by rw [hg _ (by omega)];exact t3,by rw [hg _ (by omega)];exact t4,by rw [hg _ (by omega)];exact t5⟩,fun k hk=>Z3q h.big ho.size hk,
   Z3I h.heaps ho hg (fun k x i H _=>by omega),⟨fun i hi=>?_,fun i es hi=>?_⟩,Z35 h.snaps ho hg (fun k x=>by omega),h.num⟩
 ·by_cases e:i=id
  ·subst e;simp [upd] at hi
  ·exact h.trees.1 i (by simpa [upd,e] using hi)
 ·by_cases e:i=id
  ·subst e
   have:es'=es:=by simpa [upd] using hi
   subst this
   exact ⟨tb,hid,hl.mono (fun k hk hlt=>by rcases hk with x | x;rw [hg k (by omega)];exact x;exact Z2w x hlt)⟩
  ·obtain ⟨tb2,e2,h2⟩:=h.trees.2 i es (by simpa [upd,e] using hi)
   exact ⟨tb2,e2,ZbI h2 ho hg (by omega) (fun k x=>by omega)⟩
theorem ZaY {w:World} {sb c2 cd left':Nat} {o:Nat->Nat} {s:St} {t:TE} {l:List RV} {x0:RV} {Sc Sd:Nat->Prop} {A A2:Option Addr} {H H':List (List (Option Tup))} {p q:Int} {v:Tup} (h:Zn w sb o s) (hI:s.I.length <= 1000) (hid:U64 t.id) (hH:s.hs t.id=some H) (hle:H.length+s.left <= 256)
  (hU:U8 w) (hUo:U8o o) (hc:t.cols.length <= 8) (hx0:l[0]?=some x0) (hkx:Z4M x0) (hr:Rd w Sc 2 A2 t.cols.length (ZZ t.cols)) (hSc:∀ k,Sc k->o k=0) (hc2:t.cols.length <= c2) (hm2:c2 <= maxLen) (hn:Z2A (Z04 t) l) (hdat:v.data=Zq l) (hcd:v.data.length <= cd) (hmd:cd <= maxLen) (hd:Rd w Sd 1 A v.data.length (Z9 v.data)) (hS:∀ k,Sd k->o k=0) (hins:Z12 H s.left v=((p,q,0),H',left'))
  (hx:∀ e ∈ ZQ s.L t.id s.I,e.column=0/\U64 e.id/\∃ es,s.ts e.id=some es/\es.length <= 10000) (hnd:((ZQ s.L t.id s.I).map (fun e=>e.id)).Nodup) :
  Calls Tryz.prog 39 #[ptrV sb,Z0g t A2 c2,ZC v A cd] w (Z4V w sb o (putSx s t.id H' left' ⟨ZW x0,p,q⟩) p q):=by
 obtain ⟨lb,bb,pb,mh,mt,ms,fh,ft,fs,h⟩:=h
 obtain ⟨hb,hf,hp⟩:=h.heaps.2 t.id H hH
 have HH:=zh h
 have HP:=zh hp
 have HF:=zh hf
 have HID:=zh hid
 have HD:=zh hd
 have HI:=zh hI
 have HIN:=zh hins
 have HBY:Hid (∀ x ∈ v.data,x < 256):=by rw [hdat];exact Zk2 hn
 have HCC:=zh (And.intro hc (And.intro hc2 hm2))
 have HCR:=zh hr
 have HSC:=zh hSc
 have HN:=zh hn
 have HDAT:=zh hdat
 have HCD:=zh (And.intro hcd hmd)
 have HKX:=zh (And.intro hx hnd)
 have HU:=zh hU
 have HUO:=zh hUo
 have HLX0:=zh hx0
 have HKV:=zh hkx
 have HSD:=zh hS
 have HLE:=zh hle
 obtain ⟨q0,b4,b5,b6⟩:=ZiY w (.cells #[.int .u64 (t.id:Int),.string t.name,.slice A2 t.cols.length c2,.int .u64 (t.xmin:Int),.int .u64 (t.xmax:Int)] 90) (.cells #[.int .u64 v.row,.int .u64 v.xmin,.int .u64 v.xmax,.int .i64 v.pg,.int .i64 v.sl,.slice A v.data.length cd] 96) (.cells #[.int .i64 0,.int .i64 0] 48)
 have HQ0:=zh q0
 have HB4:=zh b4
 have HB5:=zh b5
 have HB6:=zh b6
 obtain ⟨r4,hr4⟩:∃ r4,w.heap.size=r4:=⟨_,rfl⟩
 obtain ⟨r5,hr5⟩:∃ r5,r4+1=r5:=⟨_,rfl⟩
 obtain ⟨r6,hr6⟩:∃ r6,r5+1=r6:=⟨_,rfl⟩
 rw [hr4] at HB4 HB5 HB6
 rw [hr5] at HB5 HB6
 rw [hr6] at HB6
 have HR6:Hid (w.heap.size <= r6/\w.heap.size <= r4/\w.heap.size <= r5):=⟨by omega,by omega,by omega⟩
 clear h hp hf hid hd hI hins hS hH q0 b4 b5 b6 hle hc hr hSc hc2 hm2 hn hdat hcd hmd hx hnd hU hUo hx0 hkx
 unfold Z0g ZC
 go_enter Tryz.func39,Tryz.ntmps39
 go_wp2_with fail
 (try simp only [World.size_alloc] at *)
 (try rw [hr4]);(try rw [hr5]);(try rw [hr6])
 generalize ((w.alloc (.cells #[.int .u64 (t.id:Int),.string t.name,.slice A2 t.cols.length c2,.int .u64 (t.xmin:Int),.int .u64 (t.xmax:Int)] 90)).alloc (.cells #[.int .u64 v.row,.int .u64 v.xmin,.int .u64 v.xmax,.int .i64 v.pg,.int .i64 v.sl,.slice A v.data.length cd] 96)).alloc (.cells #[.int .i64 0,.int .i64 0] 48)=wb at *
 have HBIG:Hid (∀ k,w.heap.size <= k->o k=0):=HH.out.big
 have HPB:Hid (pb < w.heap.size):=HH.out.pool.lt
 have HGN:Hid (∀ k,wb.heap.size <= k->¬ (o k=10+2 * t.id ∨ k=pb)):=fun k hk x=>by
  have:=HBIG.out k (by have:=HQ0.out.size;omega)
  have:=HPB.out
  have:=HQ0.out.size
  rcases x with x | x <;> omega
 have HS5:Hid (∀ W,Z0 (fun k=>o k=10+2 * t.id ∨ k=pb) wb W->(fun w'=>w'.cell? ⟨sb,3,none⟩=some (.map (some mh))/\w'.cell? ⟨r4,0,none⟩=some (.int .u64 (t.id:Int))/\w'.cell? ⟨r5,0,none⟩=some (.int .u64 v.row)/\w'.cell? ⟨r5,1,none⟩=some (.int .u64 v.xmin)/\w'.cell? ⟨r5,2,none⟩=some (.int .u64 v.xmax)/\w'.cell? ⟨r5,3,none⟩=some (.int .i64 v.pg)/\w'.cell? ⟨r5,4,none⟩=some (.int .i64 v.sl)/\w'.cell? ⟨r5,5,none⟩=some (.slice A v.data.length cd)/\(Instr.lookup 66 (.map (some mh)) (.int .u64 (t.id:Int)) false).run Tryz.prog w'=.ok (ptrV hb) w') W):=fun W hq=>by
  have h2:=HH.out.quietly HQ0.out
  obtain ⟨t1,t2,t3,t4,t5⟩:=h2.tags
  have b4:=hq.get HB4.out (fun x=>by have:=HBIG.out r4 HR6.out.2.1;have:=HPB.out;have:=HR6.out;rcases x with x | x <;> omega)
  have b5:=hq.get HB5.out (fun x=>by have:=HBIG.out r5 HR6.out.2.2;have:=HPB.out;have:=HR6.out;rcases x with x | x <;> omega)
  have c3:=hq.cell h2.cells.2.2.2.1 (fun x=>by dsimp only at x;rcases x with x | x;omega;rw [x] at t1;omega)
  have hm:=h2.mH.kept hq (fun x=>by rcases x with x | x;omega;rw [x] at t3;omega)
  refine ⟨c3,(Z0w b4).1,?_,?_,?_,?_,?_,?_,Z1P hm HF.out HID.out⟩ <;> (rw [Z1 b5];rfl)
 have HINS:Hid (∀ W,Quiet wb W->Calls Tryz.prog 79 #[ptrV hb,.agg #[.int .u64 v.row,.int .u64 v.xmin,.int .u64 v.xmax,.int .i64 v.pg,.int .i64 v.sl,.slice A v.data.length cd]] W (fun e w'=>e=.returned (.tuple #[.agg #[.int .i64 p,.int .i64 q],.int .i64 0])/\Z0 (fun k=>o k=10+2 * t.id ∨ k=pb) W w'/\ZR w' pb left'/\Zo w' hb pb (fun k=>o k=10+2 * t.id ∨ W.heap.size <= k) H')):=fun W hq=>by
  have hq2:=HQ0.out.trans hq
  have:=Zdl s.left v A cd Sd (HP.out.kept hq2 (fun _ _ x=>x)) (HH.out.pool.kept hq2 (fun x=>x)) HLE.out HBY.out (HD.out.kept hq2 (fun _ _ x=>x)) (fun k hk=>⟨fun x=>by have:=HSD.out k hk;omega,fun x=>by have:=HSD.out k hk;have:=HH.out.tags.2.1;rw [x] at *;omega⟩)
  rw [HIN.out] at this
  exact this
 clear hr4 hr5 hr6
 apply Zk1 (wb:=wb) (hb:=hb) (pb:=pb) (left':=left') (p:=p) (q:=q) (Gw:=fun k=>o k=10+2 * t.id) (H':=H')
 case main =>
   intro KEY
   refine zH HS5 ((Z0.refl _ _).drew) (fun Z3=>?_)
   have q0:Quiet wb wb.drew:=(Z0.refl _ _).drew
   generalize wb.drew=d0 at q0 Z3 ⊢
   refine zT 0 ?_
   refine zT 1 ?_
   refine zT 2 ?_
   refine zT 3 ?_
   refine zT 4 ?_
   refine zT 5 ?_
   refine zT 6 ?_
   refine zT 7 ?_
   refine wpAnyH_ready (rs:=[8,12]) (by kernel_rfl) (by simp) ?_
   refine zA ?_ ?_
   ·intro K hK
    go_simp
    go_at_call 79
    refine (HINS.out _ q0).mono ?_
    rintro e d2 ⟨rfl,hi1,hi2,hi3⟩
    have q2:=(q0.mono (T:=(fun k=>o k=10+2 * t.id ∨ k=pb)) (fun _ _ x=>x.elim)).trans hi1
    have hheap:=hi3.lim
    have hpool:=hi2
    clear hi1 hi2 hi3
    dsimp only
    refine hK.out _ _ ?_ (fun Z3=>?_)
    ·exact HS5.out _ q2
    clear hK K
    (try simp only [Act.put,zPA,zPZ,zPS])
    refine zT 9 ?_
    refine zT 10 ?_
    refine zT 11 ?_
    refine zR 12 ?_
    intro K hK
    go_simp
    refine hK.out _ _ ?_ (fun Z3=>?_)
    ·exact HS5.out _ (q2.alloc _)
    clear hK K
    (try simp only [Act.put,zPA,zPZ,zPS])
    have qd3:=q2.alloc (.cells #[.int .i64 0,.int .i64 0] 48)
    have hb1:=Z4 d2 (.cells #[.int .i64 0,.int .i64 0] 48)
    have hnp:wb.heap.size <= d2.heap.size:=q2.size
    have hpool:=hpool.kept ((Z0.refl (fun _=>False) d2).alloc (.cells #[.int .i64 0,.int .i64 0] 48)) (fun x=>x)
    have hheap:=hheap.kept ((Z0.refl (fun _=>False) d2).alloc (.cells #[.int .i64 0,.int .i64 0] 48)) (fun _ _ x=>x)
    obtain ⟨pt,hpt⟩:∃ pt,d2.heap.size=pt:=⟨_,rfl⟩
    (try rw [hpt] at hb1)
    (try rw [hpt] at hnp)
    (try rw [hpt])
    (try rw [hpt] at hheap)
    have hheap:Zo (d2.alloc (.cells #[.int .i64 0,.int .i64 0] 48)) hb pb (fun k=>o k=10+2 * t.id ∨ (wb.heap.size <= k/\k ≠ pt)) H':=hheap.mono (fun k x=>by rcases x.1 with y | y;exact Or.inl y;exact Or.inr ⟨by have:=q0.size;omega,by omega⟩)
    generalize d2.alloc (.cells #[.int .i64 0,.int .i64 0] 48)=d3 at *
    clear hpt
    obtain ⟨z0,z1⟩:=zC2 hb1
    have zf:=fun o=>Z7 hb1 o
    refine zR 13 ?_
    intro K hK
    go_simp
    refine hK.out _ _ ?_ (fun Z3=>?_)
    ·exact HS5.out _ (Z6o qd3 hb1 hnp hpool hheap HGN.out (p:=p) (q:=q)).only
    clear hK K
    (try simp only [Act.put,zPA,zPZ,zPS])
    have HG:=(Z6o qd3 hb1 hnp hpool hheap HGN.out (p:=p) (q:=q))
    refine zT 14 ?_
    refine zD ?_
    generalize (d3.setCell ⟨pt,0,none⟩ (.int .i64 p)).setCell ⟨pt,1,none⟩ (.int .i64 q)=WF at HG ⊢
    exact KEY _ _ HG
   refine zA ?_ AllReadyH.nil
   intro K hK
   go_simp
   refine hK.out _ _ ?_ (fun Z3=>?_)
   ·exact HS5.out _ ((q0.alloc _).mono (fun _ _ x=>x.elim))
   clear hK K
   (try simp only [Act.put,zPA,zPZ,zPS])
   have qd1:=q0.alloc (.cells #[.int .i64 0,.int .i64 0] 48)
   have hb1:=Z4 d0 (.cells #[.int .i64 0,.int .i64 0] 48)
   have hnp:wb.heap.size <= d0.heap.size:=q0.size
   have hnz:(d0.alloc (.cells #[.int .i64 0,.int .i64 0] 48)).heap.size=d0.heap.size+1:=by simp
   obtain ⟨pt,hpt⟩:∃ pt,d0.heap.size=pt:=⟨_,rfl⟩
   (try rw [hpt] at hb1)
   (try rw [hpt] at hnp)
   (try rw [hpt])
   (try rw [hpt] at hnz)
   generalize d0.alloc (.cells #[.int .i64 0,.int .i64 0] 48)=d1 at *
   clear hpt
   refine zR 8 ?_
   intro K hK
   go_simp
   go_at_call 79
   refine (HINS.out _ qd1).mono ?_
   rintro e d2 ⟨rfl,hi1,hi2,hi3⟩
   have q2:=(qd1.mono (T:=(fun k=>o k=10+2 * t.id ∨ k=pb)) (fun _ _ x=>x.elim)).trans hi1
   have hb2:=hi1.get hb1 (fun x=>HGN.out _ hnp x)
   have hheap:Zo d2 hb pb (fun k=>o k=10+2 * t.id ∨ (wb.heap.size <= k/\k ≠ pt)) H':=hi3.mono (fun k x=>by rcases x with x | x;exact Or.inl x;exact Or.inr ⟨by omega,by omega⟩)
   have hpool:=hi2
   clear hi1 hi2 hi3
   dsimp only
   refine hK.out _ _ ?_ (fun Z3=>?_)
   ·exact HS5.out _ q2
   clear hK K
   (try simp only [Act.put,zPA,zPZ,zPS])
   obtain ⟨z0,z1⟩:=zC2 hb2
   have zf:=fun o=>Z7 hb2 o
   refine zT 9 ?_
   refine zT 10 ?_
   refine zT 11 ?_
   refine zR 13 ?_
   intro K hK
   go_simp
   refine hK.out _ _ ?_ (fun Z3=>?_)
   ·exact HS5.out _ (Z6o q2 hb2 hnp hpool hheap HGN.out (p:=p) (q:=q)).only
   clear hK K
   (try simp only [Act.put,zPA,zPZ,zPS])
   have HG:=(Z6o q2 hb2 hnp hpool hheap HGN.out (p:=p) (q:=q))
   refine zT 14 ?_
   refine zD ?_
   generalize (d2.setCell ⟨pt,0,none⟩ (.int .i64 p)).setCell ⟨pt,1,none⟩ (.int .i64 q)=WF at HG ⊢
   exact KEY _ _ HG
 case key =>
  intro pt W HL0
  have HL:=zh HL0
  clear HL0 HS5 HINS
  have HOW:Hid (Z0 (fun k=>o k=10+2 * t.id ∨ k=pb) w W):=(HQ0.out.mono (fun _ _ x=>x.elim)).trans' HL.out.only (fun k _ x=>x)
  have HBW:Hid (∀ k,(o k=10+2 * t.id ∨ k=pb)->o k=10+2 * t.id ∨ o k=4):=fun k x=>by rcases x with x | x;exact Or.inl x;rw [x];exact Or.inr HH.out.tags.2.1
  have HS4:Hid (∀ W',Quiet W W'->(fun w'=>w'.cell? ⟨sb,1,none⟩=some (ptrV bb)/\w'.cell? ⟨sb,0,none⟩=some (ptrV lb)/\w'.cell? ⟨r4,0,none⟩=some (.int .u64 (t.id:Int))) W'):=fun W' hq=>by
   have ho:=HOW.out.trans' hq (fun k _ x=>x.elim)
   have b4:=hq.get (HL.out.only.get HB4.out (fun x=>by have:=HBIG.out r4 HR6.out.2.1;have:=HPB.out;have:=HR6.out;rcases x with x | x <;> omega)) (fun x=>x)
   have t1:=HH.out.tags.1
   have c:=HH.out.cells
   exact ⟨ho.cell c.2.1 (fun x=>by have:=HBW.out _ x;dsimp only at this;omega),ho.cell c.1 (fun x=>by have:=HBW.out _ x;dsimp only at this;omega),(Z0w b4).1⟩
  have HKEEP:Hid (∀ W',Quiet W W'->Calls Tryz.prog 80 #[ptrV bb,ptrV lb,.int .u64 (t.id:Int)] W' (Z6p W' (ZQ s.L t.id s.I))):=fun W' hq=>by
   have ho:=HOW.out.trans' hq (fun k _ x=>x.elim)
   have hbk:=Z3f HH.out.book ho (Z0J.refl) (by omega) (fun k x=>by have:=HBW.out _ x;omega)
   have hlg:=Z4B HH.out.log ho (Z0J.refl) (by omega) (fun k x=>by have:=HBW.out _ x;omega)
   exact ZaX hbk hlg HI.out
  obtain ⟨o1,ho1⟩:∃ o1,grow o wb.heap.size W.heap.size (10+2 * t.id)=o1:=⟨_,rfl⟩
  have hst:=(HH.out.quietly HQ0.out).setHeap (id:=t.id) HF.out HL.out.only HL.out.pool (HL.out.heap.mono (fun k x=>by rcases x with x | x;exact Or.inl x;exact Or.inr x.1))
  rw [ho1] at hst
  have HST:=zh hst
  have HO1:Hid ((∀ k,k < wb.heap.size->o1 k=o k)/\o1 pt=10+2 * t.id):=⟨fun k hk=>by rw [<- ho1];exact Z0K hk,by rw [<- ho1];exact Z2w HL.out.new (Z2 HL.out.box)⟩
  obtain ⟨z0,z1⟩:=zC2 HL.out.box
  clear z0 z1 hst ho1
  go_wp2_with fail
  refine zH HS4 ((Z0.refl _ _).drew) (fun Z3=>?_)
  have q6:Quiet W W.drew:=(Z0.refl _ _).drew
  generalize W.drew=d6 at q6 Z3 ⊢
  refine zT 0 ?_
  refine zT 1 ?_
  refine zT 2 ?_
  refine zT 3 ?_
  refine zT 4 ?_
  refine zT 5 ?_
  refine zT 6 ?_
  refine zT 7 ?_
  refine zT 8 ?_
  refine zT 9 ?_
  refine zT 12 ?_
  refine zR 10 ?_
  intro K hK
  go_simp
  go_at_call 80
  refine (HKEEP.out _ q6).mono ?_
  rintro e d7 ⟨vk,rfl,hkw⟩
  obtain ⟨Ak,ck,rfl,hck,hmk,hrk⟩:=Za hkw.own
  have q7:=q6.trans hkw.quiet
  dsimp only
  refine hK.out _ _ ?_ (fun Z3=>?_)
  ·exact HS4.out _ q7
  clear hK K
  (try simp only [Act.put,zPA,zPZ,zPS])
  refine zT 11 ?_
  refine zD ?_
  obtain ⟨kl,hkl⟩:∃ kl,ZQ s.L t.id s.I=kl:=⟨_,rfl⟩
  rw [hkl] at hkw hck hrk
  rw [hkl]
  obtain ⟨m,hm⟩:∃ m,kl.length=m:=⟨_,rfl⟩
  rw [hm] at hck hrk
  rw [hm]
  have HKL:=zh hkl
  have HM:=zh hm
  have hm2:m <= 1000:=by
   rw [<- hm,<- hkl]
   exact Nat.le_trans (List.length_filter_le _ _) HI.out
  have HQ7:Hid (Quiet W d7):=q7
  have HNK:Hid (∀ k,(Value.slice Ak m ck).ownBlock=some k->W.heap.size <= k):=fun k e=>by
   have:=hkw.new k (by rw [hm];exact e)
   have:=q6.size
   omega
  have HRK:=zh hrk
  have HRD7:=zh (HST.out.quietly q7)
  have B4:=HQ7.out.get (HL.out.only.get HB4.out (fun x=>by have:=HBIG.out r4 HR6.out.2.1;have:=HPB.out;have:=HR6.out;rcases x with x | x <;> omega)) (fun x=>x)
  have B5:=HQ7.out.get (HL.out.only.get HB5.out (fun x=>by have:=HBIG.out r5 HR6.out.2.2;have:=HPB.out;have:=HR6.out;rcases x with x | x <;> omega)) (fun x=>x)
  have B6:=HQ7.out.get (HL.out.only.get HB6.out (fun x=>by have:=HBIG.out r6 HR6.out.1;have:=HPB.out;have:=HR6.out;rcases x with x | x <;> omega)) (fun x=>x)
  have BP:=HQ7.out.get HL.out.box (fun x=>x)
  have O4:o1 r4=0:=by rw [HO1.out.1 r4 (Z2 HB4.out)];exact HBIG.out r4 HR6.out.2.1
  have O5:o1 r5=0:=by rw [HO1.out.1 r5 (Z2 HB5.out)];exact HBIG.out r5 HR6.out.2.2
  have O6:o1 r6=0:=by rw [HO1.out.1 r6 (Z2 HB6.out)];exact HBIG.out r6 HR6.out.1
  have HB:=zh (And.intro B4 (And.intro B5 (And.intro B6 BP)))
  have HO:=zh (And.intro O4 (And.intro O5 O6))
  have HCRW:Hid (Rd d7 (fun k=>o1 k=0) 2 A2 t.cols.length (ZZ t.cols)/\Rd d7 (fun k=>o1 k=0) 1 A v.data.length (Z9 v.data)):=by
   have g1:∀ k,o k=0/\k < w.heap.size->o1 k=0:=fun k hk=>by rw [HO1.out.1 k (Nat.lt_of_lt_of_le hk.2 HQ0.out.size)];exact hk.1
   have g2:∀ (size:Nat) (A:Option Addr) (l:Nat) (xs:List Value),Rd w (fun k=>o k=0) size A l xs->Rd d7 (fun k=>o1 k=0) size A l xs:=fun size A l xs h=>by
    refine (((Z7K h).kept HOW.out (fun k hk x=>by have:=HBW.out k x;have:=hk.1;omega)).kept HQ7.out (fun _ _ x=>x)).mono g1
   exact ⟨g2 _ _ _ _ (HCR.out.mono HSC.out),g2 _ _ _ _ (HD.out.mono HSD.out)⟩
  have HUD:Hid (U8 d7):=(HU.out.only HOW.out (fun x=>by have:=HBW.out _ x;have:=HUO.out.1;omega) (fun x=>by have:=HBW.out _ x;have:=HUO.out.2;omega)).quietly HQ7.out
  have HUL:Hid (o1 gA8=0/\o1 gB8=0):=⟨by rw [HO1.out.1 _ (Nat.lt_of_lt_of_le HU.out.lt.1 HQ0.out.size)];exact HUO.out.1,by rw [HO1.out.1 _ (Nat.lt_of_lt_of_le HU.out.lt.2 HQ0.out.size)];exact HUO.out.2⟩
  clear hkw hck hmk hrk q6 q7 Z3 hkl hm B4 B5 B6 BP O4 O5 O6 HS4 HKEEP
  go_wp2_with fail
  go_loopw [40,11] (fun i _ wr=>∃ (k:Nat) (o':Nat->Nat),k <= m/\i=.int .i64 (k:Int)/\Zj wr sb o' { s with left:=left',hs:=upd s.hs t.id (some H'),ts:=Z31 ⟨ZW x0,p,q⟩ s.ts (kl.take k) } lb bb pb mh mt ms fh ft fs/\(∀ j,j < d7.heap.size->o' j=o1 j)/\Z0 (fun j=>∃ i,o1 j=11+2 * i) d7 wr) (fun i _ _=>m - (intOf i).toNat)
  case atStart=>exact ⟨0,o1,Nat.zero_le _,rfl,HRD7.out,fun _ _=>rfl,Z0.refl _ _⟩
  case round =>
   obtain ⟨k,o',hk,rfl,hR,hO',hT⟩:=hrel
   have HR:=zh hR
   have HO':=zh hO'
   have HT:=zh hT
   clear hR hO' hT
   by_cases hlt:k < m
   ·obtain ⟨x,hx⟩:∃ x,kl[k]?=some x:=⟨_,zg (by have:=HM.out;omega)⟩
    have hxm:x ∈ ZQ s.L t.id s.I:=by rw [HKL.out];exact List.mem_of_getElem? hx
    obtain ⟨hx0,hxu,es,hes,hel⟩:=HKX.out.1 x hxm
    have hts:Z31 ⟨ZW x0,p,q⟩ s.ts (kl.take k) x.id=some es:=by
     have hnd:=HKX.out.2
     rw [HKL.out] at hnd
     rw [ZdH (Zj3 hnd hx)]
     exact hes
    obtain ⟨tb,hft,htr⟩:=HR.out.trees.2 x.id es hts
    have hrk:=HRK.out.kept HT.out (fun j hj hx=>by
      obtain ⟨i,hi⟩:=hx
      have:=HST.out.big j (HNK.out j hj)
      omega)
    obtain ⟨bk,ofk,rfl,_,hck⟩:=hrk.cells (by rw [Z5L];have:=HM.out;omega)
    obtain ⟨i0,i1,i2,i3,i4,i5⟩:=Z8x kl k x hx
    have y0:=hck _ _ i0
    have y1:=hck _ _ i1
    have y2:=hck _ _ i2
    have y3:=hck _ _ i3
    have y4:=hck _ _ i4
    have y5:=hck _ _ i5
    rw [<- Nat.add_assoc] at y1 y2 y3 y4 y5
    have ly:=Zf y0
    dsimp only at ly
    have HX:=zh hx
    have HXU:=zh hxu
    have HTS:=zh hts
    have HFT:=zh hft
    have HTR:=zh htr
    have HEL:=zh hel
    have HX0:=zh hx0
    rw [hx0] at y3
    have y3':wr.cell? ⟨bk,ofk+k * 6+3,none⟩=some (.int .i64 0):=y3
    have hqx:Quiet wr (wr.alloc (.cells #[.int .u64 (x.id:Int),.string x.name,.int .u64 (x.table:Int),.int .i64 0,.int .u64 (x.xmin:Int),.int .u64 (x.xmax:Int)] 84)):=(Z0.refl _ _).alloc _
    have hxb:=Z4 wr (.cells #[.int .u64 (x.id:Int),.string x.name,.int .u64 (x.table:Int),.int .i64 0,.int .u64 (x.xmin:Int),.int .u64 (x.xmax:Int)] 84)
    have HZX:=zh (HR.out.big wr.heap.size (Nat.le_refl _))
    obtain ⟨xb,hxb_⟩:∃ xb,wr.heap.size=xb:=⟨_,rfl⟩
    rw [hxb_] at hxb HZX
    have HXE:=zh hxb_
    clear hx hxu hes hel hts hft htr hrk hck i0 i1 i2 i3 i4 i5 y3 hxm hx0 hxb_
    go_wp2_with fail
    rw [HXE.out]
    generalize wr.alloc (.cells #[.int .u64 (x.id:Int),.string x.name,.int .u64 (x.table:Int),.int .i64 0,.int .u64 (x.xmin:Int),.int .u64 (x.xmax:Int)] 84)=wx at *
    have HXB:=zh hxb
    have HQX:=zh hqx
    have HTX:Hid (Z0 (fun j=>∃ i,o1 j=11+2 * i) d7 wx):=HT.out.trans' hqx (fun _ _ x=>x.elim)
    have HRX:=zh (HR.out.quietly hqx)
    clear y0 y1 y2 y3' y4 y5 ly hxb hqx
    have HS7:Hid (∀ W',Z0 (fun k=>∃ i,o' k=11+2 * i) wx W'->(fun w'=>w'.cell? ⟨sb,4,none⟩=some (.map (some mt))/\w'.cell? ⟨xb,0,none⟩=some (.int .u64 (x.id:Int))/\w'.cell? ⟨xb,3,none⟩=some (.int .i64 (0:Int))/\w'.cell? ⟨r4,0,none⟩=some (.int .u64 (t.id:Int))/\w'.cell? ⟨r4,1,none⟩=some (.string t.name)/\w'.cell? ⟨r4,2,none⟩=some (.slice A2 t.cols.length c2)/\w'.cell? ⟨r4,3,none⟩=some (.int .u64 (t.xmin:Int))/\w'.cell? ⟨r4,4,none⟩=some (.int .u64 (t.xmax:Int))/\w'.cell? ⟨r5,0,none⟩=some (.int .u64 v.row)/\w'.cell? ⟨r5,1,none⟩=some (.int .u64 v.xmin)/\w'.cell? ⟨r5,2,none⟩=some (.int .u64 v.xmax)/\w'.cell? ⟨r5,3,none⟩=some (.int .i64 v.pg)/\w'.cell? ⟨r5,4,none⟩=some (.int .i64 v.sl)/\w'.cell? ⟨r5,5,none⟩=some (.slice A v.data.length cd)/\w'.cell? ⟨pt,0,none⟩=some (.int .i64 p)/\w'.cell? ⟨pt,1,none⟩=some (.int .i64 q)/\(Instr.lookup 67 (.map (some mt)) (.int .u64 (x.id:Int)) false).run Tryz.prog w'=.ok (ptrV tb) w') W'):=fun W' ho=>by
     have tg:=HRX.out.tags
     have c4:=ho.cell HRX.out.cells.2.2.2.2.1 (fun e=>by obtain ⟨i,hi⟩:=e;(try dsimp only at hi);omega)
     have bx:=ho.get HXB.out (fun e=>by obtain ⟨i,hi⟩:=e;(try dsimp only at hi);have:=HZX.out;omega)
     have nd:∀ r,r < d7.heap.size->(∀ i,o1 r ≠ 11+2 * i)->¬ (∃ i,o' r=11+2 * i):=fun r hr hn e=>by
      obtain ⟨i,hi⟩:=e
      rw [HO'.out r hr] at hi
      exact hn i hi
     have b4:=Z0w (ho.get (HTX.out.get HB.out.1 (fun e=>by obtain ⟨i,hi⟩:=e;have:=HO.out.1;omega)) (nd r4 (Z2 HB.out.1) (fun i hi=>by have:=HO.out.1;omega)))
     have b5:=ho.get (HTX.out.get HB.out.2.1 (fun e=>by obtain ⟨i,hi⟩:=e;have:=HO.out.2.1;omega)) (nd r5 (Z2 HB.out.2.1) (fun i hi=>by have:=HO.out.2.1;omega))
     have bp:=ho.get (HTX.out.get HB.out.2.2.2 (fun e=>by obtain ⟨i,hi⟩:=e;have:=HO1.out.2;omega)) (nd pt (Z2 HB.out.2.2.2) (fun i hi=>by have:=HO1.out.2;omega))
     have hmt:=HRX.out.mT.kept ho (fun e=>by obtain ⟨i,hi⟩:=e;omega)
     exact ⟨c4,by rw [Z1 bx];rfl,by rw [Z1 bx];rfl,b4.1,b4.2.1,b4.2.2.1,b4.2.2.2.1,b4.2.2.2.2,by rw [Z1 b5];rfl,by rw [Z1 b5];rfl,by rw [Z1 b5];rfl,by rw [Z1 b5];rfl,by rw [Z1 b5];rfl,by rw [Z1 b5];rfl,by rw [Z1 bp];rfl,by rw [Z1 bp];rfl,Z7g hmt HFT.out HXU.out⟩
    have HKEY:Hid (∀ W',Quiet wx W'->Calls Tryz.prog 35 #[.agg #[.int .u64 (t.id:Int),.string t.name,.slice A2 t.cols.length c2,.int .u64 (t.xmin:Int),.int .u64 (t.xmax:Int)],.agg #[.int .u64 v.row,.int .u64 v.xmin,.int .u64 v.xmax,.int .i64 v.pg,.int .i64 v.sl,.slice A v.data.length cd],.int .i64 0] W' (Z4f W' (ZW x0))):=fun W' hq=>by
     have g:=HTX.out.trans' hq (fun _ _ x=>x.elim)
     exact Zhq (v:=v) (HUD.out.only g (fun e=>by obtain ⟨i,hi⟩:=e;have:=HUL.out.1;omega) (fun e=>by obtain ⟨i,hi⟩:=e;have:=HUL.out.2;omega)) HCC.out.1 HLX0.out HKV.out (HCRW.out.1.kept g (fun k hk e=>by obtain ⟨i,hi⟩:=e;omega)) HCC.out.2.1 HCC.out.2.2 HN.out HDAT.out (HCRW.out.2.kept g (fun k hk e=>by obtain ⟨i,hi⟩:=e;omega)) HCD.out.1 HCD.out.2
    have HTIN:Hid (∀ W',Quiet wx W'->∀ A9 c9 (S9:Nat->Prop),Rd W' S9 1 A9 (ZW x0).length (Z9 (ZW x0))->Calls Tryz.prog 34 #[ptrV tb,.agg #[.slice A9 (ZW x0).length c9,.int .i64 p,.int .i64 q]] W' (fun e w'=>(∃ z:Int,e=.returned (.int .i64 z))/\Z0 (fun k=>o' k=11+2 * x.id) W' w'/\Z0x w' (fun k=>o' k=11+2 * x.id ∨ W'.heap.size <= k) tb (Z2H ⟨ZW x0,p,q⟩ es))):=fun W' hq A9 c9 S9 hr=>by
     refine (Zdz W' (fun k=>o' k=11+2 * x.id) tb es ⟨ZW x0,p,q⟩ A9 c9 S9 ((HTR.out.kept HQX.out (fun _ _ x=>x)).kept hq (fun _ _ x=>x)) hr (Zk3 x0) (by show (ZW x0).length <= 600;have:=(Zj0 (Z1U HKV.out.1).1).1;omega) HEL.out).mono ?_
     intro e w' hp
     unfold Z2H
     rcases hp with ⟨h1,h2,h3,h4⟩ | ⟨h1,h2,h3,h4⟩
     ·rw [if_pos h1];exact ⟨⟨_,h2⟩,h3,h4⟩
     ·rw [if_neg h1];exact ⟨⟨_,h2⟩,h3,h4⟩
    refine zH HS7 ((Z0.refl _ _).drew) (fun Z3=>?_)
    have q8:Quiet wx wx.drew:=(Z0.refl _ _).drew
    generalize wx.drew=d8 at q8 Z3 ⊢
    refine zT 0 ?_
    refine zT 1 ?_
    refine zT 2 ?_
    refine zT 3 ?_
    refine zT 4 ?_
    refine zT 5 ?_
    refine zT 6 ?_
    refine zT 7 ?_
    refine zT 8 ?_
    refine zT 9 ?_
    refine zT 10 ?_
    refine zT 12 ?_
    refine zR 11 ?_
    intro K hK
    go_simp
    go_at_call 35
    refine (HKEY.out _ q8).mono ?_
    rintro e d9 ⟨v9,rfl,hf9⟩
    obtain ⟨A9,c9,rfl,hc9,hm9,hrd9⟩:=Za hf9.own
    have q9:=q8.trans hf9.quiet
    dsimp only
    refine hK.out _ _ ?_ (fun Z3=>?_)
    ·exact HS7.out _ (q9.mono (fun _ _ x=>x.elim))
    clear hK K
    (try simp only [Act.put,zPA,zPZ,zPS])
    refine zT 13 ?_
    refine zR 14 ?_
    intro K hK
    go_simp
    go_at_call 34
    refine (HTIN.out _ q9 A9 c9 _ (by exact hrd9)).mono ?_
    rintro e d10 ⟨⟨ze,rfl⟩,ho10,ht10⟩
    dsimp only
    refine hK.out _ _ ?_ (fun Z3=>?_)
    ·exact HS7.out _ ((q9.mono (T:=fun k=>∃ i,o' k=11+2 * i) (fun _ _ x=>x.elim)).trans (ho10.mono (fun k _ hh=>⟨x.id,hh⟩)))
    clear hK K
    (try simp only [Act.put,zPA,zPZ,zPS])
    refine zD ?_
    have HN9:Hid (Zj d10 sb (grow o' d9.heap.size d10.heap.size (11+2 * x.id)) { s with left:=left',hs:=upd s.hs t.id (some H'),ts:=Z31 ⟨ZW x0,p,q⟩ s.ts (kl.take (k+1)) } lb bb pb mh mt ms fh ft fs):=by
     have h1:=(HRX.out.quietly q9).setTree HFT.out ho10 ht10
     have e1:Z31 ⟨ZW x0,p,q⟩ s.ts (kl.take (k+1))=upd (Z31 ⟨ZW x0,p,q⟩ s.ts (kl.take k)) x.id (some (Z2H ⟨ZW x0,p,q⟩ es)):=by
      rw [List.take_add_one,HX.out,Option.toList_some,Zfx,HTS.out]
      rfl
     show Zj d10 sb _ _ lb bb pb mh mt ms fh ft fs
     rw [e1]
     exact h1
    have hz9:=q9.size
    have hzx:=HQX.out.size
    have hzr:=HT.out.size
    have HOO:Hid (∀ j,j < d7.heap.size->grow o' d9.heap.size d10.heap.size (11+2 * x.id) j=o1 j):=fun j hj=>by
     rw [Z0K (by omega)]
     exact HO'.out j hj
    have HTT:Hid (Z0 (fun j=>∃ i,o1 j=11+2 * i) d7 d10):=(HTX.out.trans' q9 (fun _ _ x=>x.elim)).trans' ho10 (fun j hj e=>⟨x.id,by rw [<- HO'.out j hj];exact e⟩)
    clear Z3 q8 q9 ho10 ht10 hf9 hc9 hm9 hrd9 HS7 HKEY HTIN hz9 hzx hzr
    go_wp2
    go_roundw
    case rel=>exact ⟨k+1,_,by omega,by go_num,HN9.out,HOO.out,HTT.out⟩
    case measure=>simp [intOf];omega
   ·obtain rfl:m=k:=by omega
    have bp:=HT.out.get HB.out.2.2.2 (fun e=>by obtain ⟨i,hi⟩:=e;have:=HO1.out.2;omega)
    have b6:=HT.out.get HB.out.2.2.1 (fun e=>by obtain ⟨i,hi⟩:=e;have:=HO.out.2.2;omega)
    obtain ⟨z0,z1⟩:=zC2 bp
    obtain ⟨y0,y1⟩:=zC2 b6
    have yf:=fun o=>Z7 b6 o
    have hlp:=Z2 bp
    have hlr:=Z2 b6
    have hnr:pt ≠ r6:=fun e=>by have:=HL.out.new;have:=Z2 HB6.out;omega
    have HX:Hid (((wr.setCell ⟨r6,0,none⟩ (.int .i64 p)).setCell ⟨r6,1,none⟩ (.int .i64 q)).heap[r6]?=some (.cells #[.int .i64 p,.int .i64 q] 48 (0,0))):=Z3Z b6 _ _
    have HPO:Hid (Z4V w sb o (putSx s t.id H' left' ⟨ZW x0,p,q⟩) p q (.returned (.tuple #[.agg #[.int .i64 p,.int .i64 q],.int .i64 0])) ((wr.setCell ⟨r6,0,none⟩ (.int .i64 p)).setCell ⟨r6,1,none⟩ (.int .i64 q))):=by
     have h2:=Z3n wr r6 (.int .i64 p) (.int .i64 q)
     have hl6:=Z2 HB6.out
     have hzw:=HL.out.only.size
     have hz7:=HQ7.out.size
     have o6:o' r6=0:=by rw [HO'.out r6 (by omega)];exact HO.out.2.2
     have hst:=HR.out.kept h2 (fun k e=>by rw [e];exact o6)
     rw [List.take_of_length_le (by have:=HM.out;omega),<- HKL.out] at hst
     have hz0:=HQ0.out.size
     refine ⟨rfl,o',fun k hk=>?_,?_,_,_,_,_,_,_,_,_,_,hst⟩
     ·rw [HO'.out k (by omega)]
      exact HO1.out.1 k (by omega)
     ·refine ((((HOW.out.mono (T:=fun k=>o k ≠ 0) (fun k _ x=>by have:=HBW.out k x;omega)).trans' HQ7.out (fun _ _ x=>x.elim)).trans' HT.out (fun k hk e=>?_)).trans' h2 (fun k hk e=>by have:=HR6.out.1;omega))
      obtain ⟨i,hi⟩:=e
      rw [HO1.out.1 k (by omega)] at hi
      omega
    clear bp b6
    go_wp2
    exact bodyPost_ret (ZG Tryz.results39 _ _ r6 _ _ (0,0) _ (by rfl) HX.out Tryz.underlying48 rfl Z52) (by rfl) HPO.out
structure Z6v (w0 w:World) (v0 v:Value) (ys xs:List EV):Prop where
 only:Z0 (fun k=>v0.ownBlock=some k) w0 w
 row:RowAt w v (ys ++ xs)
 loc:v.ownBlock=v0.ownBlock ∨ ∃ k,v.ownBlock=some k/\w0.heap.size <= k
theorem Z6v.start {w:World} {v:Value} {ys:List EV} (h:RowAt w v ys):Z6v w w v v ys []:=⟨Z0.refl _ _,by rw [List.append_nil];exact h,Or.inl rfl⟩
theorem Z6v.join {w0 w w':World} {v0 v v':Value} {ys xs zs:List EV} (h:Z6v w0 w v0 v ys xs) (h':Z6v w w' v v' (ys ++ xs) zs):Z6v w0 w' v0 v' ys (xs ++ zs):=by
 have hz0:=h.only.size
 refine ⟨h.only.trans' h'.only (fun k hk e=>?_),by rw [<- List.append_assoc];exact h'.row,?_⟩
 ·rcases h.loc with x | ⟨j,x,y⟩
  ·rw [x] at e;exact e
  ·rw [x] at e;injection e with e;omega
 ·rcases h'.loc with x | ⟨j,x,y⟩
  ·rw [x];exact h.loc
  ·exact Or.inr ⟨j,x,by omega⟩
def Z5Y (w:World) (v:Value) (ys xs:List EV) (e:Ending) (w':World):Prop:=∃ v',e=.returned v'/\Z6v w w' v v' ys xs
theorem Zj4 {K F:Nat->Prop} {w:World} {b:Nat} {xs ys:List EV} {v0 v:Value} (hl:Z7s K w b F xs v0) (hrow:RowAt w v ys) (hn:ys.length+xs.length <= 40000) :
  Calls Tryz.prog 169 #[ptrV b,v] w (Z5Y w v ys xs):=by
 obtain ⟨A0,c0,hv0,_,_,hr0⟩:=Za hl.row
 obtain ⟨Av,cv,hvv,_,_,_⟩:=Za hrow
 have hbox:=hl.box
 rw [hv0] at hbox
 have b0:w.cell? ⟨b,0,none⟩=some (.slice A0 xs.length c0):=by rw [Z1 hbox];rfl
 have HLF:=zh (Z41 b _ none 0 0 _ hbox)
 have HR0:=zh hr0
 have HROW:=zh hrow
 obtain ⟨Z8,Z6⟩:∃ Z8,Z5Y w v ys xs=Z8:=⟨_,rfl⟩
 have Ze:=zh Z6
 rw [Z6]
 subst hvv
 clear hl hrow hbox hr0 hv0 Z6
 go_enter Tryz.func169,Tryz.ntmps169
 go_wp2_with fail
 refine HLF.out.mono ?_
 rintro r w1 ⟨rfl,rfl⟩
 clear HLF
 go_wp2_with (at_builtin;refine app Z3o rfl (.tmp 9) (.tmp 13) rfl rfl HROW.out rfl HR0.out (Z20 xs) (by unfold maxLen;omega) (by omega) ?_)
 intro v5 w5 hg
 have HR:Hid (Z8 (.returned v5) w5):=by
  rw [<- Ze.out]
  refine ⟨v5,rfl,hg.only,?_,?_⟩
  ·unfold RowAt
   rw [Z2a,List.length_append]
   exact hg.own
  ·rcases hg.loc with x | x
   ·exact Or.inl x
   ·exact Or.inr ⟨_,x,Nat.le_refl _⟩
 clear hg HR0 HROW b0
 go_wp2
 exact HR.out
def Zju (K:Nat->Prop) (h:Nat):Prop:=∀ (F:Nat->Prop) (w:World) (b:Nat) (xs ys:List EV) (v:Value),Zi K h w b F xs->(∀ k,F k ∨ K k->k < w.heap.size/\v.ownBlock ≠ some k)->RowAt w v ys->ys.length+xs.length <= 40000 →
 Calls Tryz.prog 169 #[ptrV b,v] w (Z5Y w v ys xs)
theorem Zhr {K F:Nat->Prop} {h:Nat} {w:World} {b:Nat} {ks:List Kid} {ys:List EV} {v0 u0 v:Value} (hih:Zju K h) (hl:Z5E (Zi K h) w b F v0 u0 ks) (hR:∀ k,F k ∨ K k->k < w.heap.size/\v.ownBlock ≠ some k) (hrow:RowAt w v ys) (hn:ys.length+(flat ks).length <= 40000) :
  Calls Tryz.prog 169 #[ptrV b,v] w (Z5Y w v ys (flat ks)):=by
 obtain ⟨gu,cu,hu0,hcu,_⟩:=hl.form
 obtain ⟨n,hnn⟩:∃ n,ks.length=n:=⟨_,rfl⟩
 have hnk:n <= 40000:=by have:=Z9Z (fun x hx=>(hl.kid x hx).1);omega
 have hbox:=hl.box
 rw [hnn] at hu0
 rw [hu0] at hbox
 have b1:w.cell? ⟨b,1,none⟩=some (.slice (some ⟨gu,0,none⟩) n cu):=by rw [Z1 hbox];rfl
 have HLF:=zh (Z41 b _ _ _ _ _ hbox)
 have HNN:=zh hnn
 have HI:=zh hl
 have HR:=zh hR
 have HU0:=zh hu0
 have HO0:=zh (Z6v.start hrow)
 have HIH:=zh hih
 have HN4:=zh hn
 obtain ⟨Z8,Z6⟩:∃ Z8,Z5Y w v ys (flat ks)=Z8:=⟨_,rfl⟩
 have Ze:=zh Z6
 rw [Z6]
 clear hl hR hrow hnn Z6 hu0 hn hcu hih hbox
 go_enter Tryz.func169,Tryz.ntmps169
 go_wp2_with fail
 refine HLF.out.mono ?_
 rintro r w1 ⟨rfl,rfl⟩
 clear HLF
 go_wp2_with fail
 clear b1
 go_loopw [20,1,6] (fun ci cv _ wr=>∃ (i:Nat) (v':Value),i <= n/\ci=.int .i64 (i:Int)/\v'=cv/\Z6v w wr v v' ys (flat (ks.take i))) (fun ci _ _ _=>n - (intOf ci).toNat)
 case atStart=>exact ⟨0,v,Nat.zero_le _,rfl,rfl,HO0.out⟩
 case round =>
  obtain ⟨i,v',hi',rfl,rfl,hO⟩:=hrel
  clear HO0
  have HO:=zh hO
  obtain ⟨Av,cv',hvv,_,_,_⟩:=Za hO.row
  obtain ⟨m,hm⟩:∃ m,(ys ++ flat (ks.take i)).length=m:=⟨_,rfl⟩
  rw [hm] at hvv
  subst hvv
  clear hm
  by_cases hlt:i < n
  ·obtain ⟨x,hx⟩:∃ x,ks[i]?=some x:=⟨_,zg (by have:=HNN.out;omega)⟩
   have hxm:x ∈ ks:=List.mem_of_getElem? hx
   have hkids:=Z5 HI.out.kids hO.only (fun k e=>(HR.out k (Or.inl (HI.out.foot.2.2 k e))).2)
   rw [HU0.out] at hkids
   have p1:wr.cell? ⟨gu,i,none⟩=some (ptrV x.b):=by
    have:=hkids.cells rfl i (ptrV x.b) (by rw [kptrs,List.getElem?_map,hx];rfl)
    rw [Zl,Nat.zero_add] at this
    exact this
   have hft:(flat (ks.take (i+1))).length <= (flat ks).length:=by
    have e:flat ks=flat (ks.take (i+1)) ++ flat (ks.drop (i+1)):=by rw [<- List.flatMap_append,List.take_append_drop]
    rw [e,List.length_append];omega
   rw [ZaT hx,List.length_append] at hft
   have hz:=hO.only.size
   have HC:=zh (HIH.out (fun k=>x.F k/\k < w.heap.size) wr x.b x.xs (ys ++ flat (ks.take i)) _ (Zi.kept hO.only (fun k z=>(HR.out k (Or.inr z)).2) ((HI.out.kid x hxm).2.lim) (fun k z=>(HR.out k (Or.inl (HI.out.sub x hxm k z.1).1)).2)) (fun k z=>by
     have hk:k < w.heap.size/\v.ownBlock ≠ some k:=by
       rcases z with z | z
       · exact HR.out k (Or.inl (HI.out.sub x hxm k z.1).1)
       · exact HR.out k (Or.inr z)
     refine ⟨by omega,fun e=>?_⟩
     rcases hO.loc with y | ⟨j,y,t⟩
     · rw [y] at e;exact hk.2 e
     · rw [y] at e;injection e with e;omega) hO.row (by have:=HN4.out;rw [List.length_append];omega))
   have HFT:=zh (ZaT hx)
   have d0:(0:Int) <= (i:Int):=by omega
   have d1:(i:Int) < (n:Int):=by omega
   clear hx hxm hkids hft hz hO
   go_wp2_with fail
   refine HC.out.mono ?_
   rintro r w2 ⟨v2,rfl,hO2⟩
   have HO2:=zh (HO.out.join hO2)
   rw [<- HFT.out] at HO2
   clear hO2 HC p1
   go_wp2
   go_roundw
   case rel=>exact ⟨i+1,v2,by omega,by go_num,rfl,HO2.out⟩
   case measure=>simp [intOf];omega
  ·have HRES:Hid (Z8 (.returned (.slice Av m cv')) wr):=by
    rw [<- Ze.out]
    refine ⟨_,rfl,?_⟩
    rw [List.take_of_length_le (by have:=HNN.out;omega)] at hO
    exact hO
   clear hO
   go_wp2
   exact HRES.out
theorem ZkC (K:Nat->Prop) (h:Nat):Zju K h:=by
 induction h with
 | zero =>
  intro F w b xs ys v ⟨v0,hl⟩ hR hrow hn
  exact Zj4 hl hrow hn
 | succ h ih =>
  intro F w b xs ys v ⟨v0,u0,ks,hi',e⟩ hR hrow hn
  subst e
  exact Zhr ih hi' hR hrow hn
theorem Zhu:Z0c Tryz.prog 300 302 2 16:=Z0c.mk' (.agg #[.int .i64 0,.int .i64 0]) Tryz.underlying300 (by kernel_rfl) rfl (by decide)
structure Z5l (w w':World) (n i:Nat) (v:Value):Prop where
 quiet:Quiet w w'
 own:w'.ownsRow 0 302 2 v i (Z3L n i)
 new:∀ k,v.ownBlock=some k->w.heap.size <= k
def ZaZ (w:World) (n:Nat) (e:Ending) (w':World):Prop:=∃ v,e=.returned v/\Z5l w w' n (Z25 n) v
theorem Z5l.push {w w1 w2 w':World} {n i:Nat} {v v':Value} (h:Z5l w w1 n i v) (hq:Quiet w1 w2) (hg:ZT w2 w' 302 2 v v' (i+1) (Z3L n i ++ Z9v n i)):Z5l w w' n (i+1) v':=by
 have hz:=h.quiet.size
 have hz2:=hq.size
 refine ⟨(h.quiet.trans hq).trans' hg.only (fun k hk e=>by have:=h.new k e;omega),by rw [Z5M];exact hg.own,fun k e=>?_⟩
 rcases hg.loc with x | x
 ·rw [x] at e;exact h.new k e
 ·rw [x] at e;injection e with e;omega
theorem Zk8 (a b:Int):∀ u ∈ [Value.int .i64 a,Value.int .i64 b],u.oneCell'=true:=by
 intro u hu
 simp at hu
 rcases hu with rfl | rfl <;> rfl
theorem Zb0 (n:Nat) (w:World) (hn:n <= 40000):Calls Tryz.prog 190 #[.int .i64 (n:Int)] w (ZaZ w n):=by
 obtain ⟨k,hk⟩:∃ k,Z25 n=k:=⟨_,rfl⟩
 have hk2:(n+7) / 8=k:=hk
 have HK:=zh hk
 have e1:((n:Int)+7).tdiv 8=(k:Int):=by
  rw [<- hk2]
  rw [Int.tdiv_eq_ediv_of_nonneg (by omega)]
  omega
 have e1':((n:Int)+8 - 1) / 8=(k:Int):=by omega
 have hk3:k <= 40000:=by omega
 have HS0:Hid (Z5l w w n 0 (.slice none 0 0)):=⟨Z0.refl _ _,World.ownsRow_nil _ _ _ _,fun _ e=>by cases e⟩
 clear hk
 go_enter Tryz.func190,Tryz.ntmps190
 go_wp2_with fail
 rw [e1']
 go_loopw [11,4,5] (fun ci cv _ wr=>∃ (i:Nat) (v':Value),i <= k/\ci=.int .i64 (i:Int)/\v'=cv/\Z5l w wr n i v') (fun ci _ _ _=>k - (intOf ci).toNat)
 case atStart=>exact ⟨0,_,Nat.zero_le _,rfl,rfl,HS0.out⟩
 case round =>
  obtain ⟨i,v',hi',rfl,rfl,hO⟩:=hrel
  clear HS0
  have HO:=zh hO
  obtain ⟨Av,cv',hvv,_,_,_⟩:=Za hO.own
  subst hvv
  clear hO
  by_cases hlt:i < k
  ·obtain ⟨p,hp⟩:∃ p:Nat,n * i=p:=⟨_,rfl⟩
   obtain ⟨q,hq⟩:∃ q:Nat,n * (i+1)=q:=⟨_,rfl⟩
   obtain ⟨a,ha⟩:∃ a:Nat,p / k=a:=⟨_,rfl⟩
   obtain ⟨b,hb⟩:∃ b:Nat,q / k=b:=⟨_,rfl⟩
   have hpb:p <= 40000 * 40000:=by rw [<- hp];exact Nat.mul_le_mul hn (by omega)
   have hqb:q <= 40000 * 40000:=by rw [<- hq];exact Nat.mul_le_mul hn (by omega)
   have hab:a <= p:=by rw [<- ha];exact Nat.div_le_self _ _
   have hbb:b <= q:=by rw [<- hb];exact Nat.div_le_self _ _
   have HA:Hid (cutAt n i=a):=by show n * i / ((n+7) / 8)=a;rw [hk2,hp,ha]
   have HB:Hid (cutAt n (i+1)=b):=by show n * (i+1) / ((n+7) / 8)=b;rw [hk2,hq,hb]
   have hpi:(n:Int) * (i:Int)=(p:Int):=by rw [<- hp];simp
   have hqi:(n:Int) * ((i:Int)+1)=(q:Int):=by rw [<- hq];simp
   have m1:IntKind.i64.wrap ((n:Int) * (i:Int))=(p:Int):=by rw [hpi];exact Z3a (by omega)
   have m2:IntKind.i64.wrap ((n:Int) * ((i:Int)+1))=(q:Int):=by rw [hqi];exact Z3a (by omega)
   have m3:IntKind.i64.wrap ((i:Int)+1)=(i:Int)+1:=Z3a (by omega)
   have ta:(p:Int).tdiv (k:Int)=(a:Int):=by rw [<- ha];rw [Int.tdiv_eq_ediv_of_nonneg (by omega)];rfl
   have tb:(q:Int).tdiv (k:Int)=(b:Int):=by rw [<- hb];rw [Int.tdiv_eq_ediv_of_nonneg (by omega)];rfl
   have q1:IntKind.i64.wrap ((p:Int).tdiv (k:Int))=(a:Int):=by rw [ta];exact Z3a (by omega)
   have q2:IntKind.i64.wrap ((q:Int).tdiv (k:Int))=(b:Int):=by rw [tb];exact Z3a (by omega)
   have k0:¬ k=0:=by omega
   have wa:IntKind.i64.wrap (a:Int)=(a:Int):=Z3a (by omega)
   have wb:IntKind.i64.wrap (b:Int)=(b:Int):=Z3a (by omega)
   clear hp hq ha hb hpi hqi hpb hqb hab hbb
   go_upto_region 6 with fail
   go_region_law (first
     | (refine Z0B Zhu rfl (.tmp 14) (.tmp 27) rfl rfl (Z5 HO.out.own (((Z0.refl (fun _=>False) wr).alloc (.cells #[.int .i64 (a:Int),.int .i64 (b:Int)] 302)).drew) (fun _ _ x=>x)) rfl (Rd.kept (Rd.new wr 2 1 [.int .i64 (a:Int),.int .i64 (b:Int)] 302 (fun _=>True) rfl trivial) ((Z0.refl (fun _=>False) _).drew) (fun _ _ x=>x)) (Zk8 a b) (by unfold maxLen;omega) (by omega) ?_;intro v5 w5 hg5;have HO5:Hid (Z5l w w5 n (i+1) v5):=HO.out.push (((Z0.refl (fun _=>False) wr).alloc (.cells #[.int .i64 (a:Int),.int .i64 (b:Int)] 302)).drew) (by unfold Z9v;rw [HA.out,HB.out];exact hg5);clear hg5)
     | fail)
   all_goals
    go_wp2
    go_roundw
    case rel=>exact ⟨i+1,v5,by omega,by go_num,rfl,HO5.out⟩
    case measure=>simp [intOf];omega
  ·have HR:Hid (ZaZ w n (.returned (.slice Av i cv')) wr):=⟨_,rfl,by rw [HK.out,show k=i by omega];exact HO.out⟩
   go_wp2
   go_ret
   exact HR.out
structure Z1n (K:Nat->Prop) (h:Nat) (w0 w:World) (v:Value) (ks:List Kid):Prop where
 quiet:Quiet w0 w
 row:w.ownsRow 0 157 1 v ks.length (kptrs ks)
 new:∀ k,v.ownBlock=some k->w0.heap.size <= k
 kid:∀ x ∈ ks,x.xs ≠ []/\Zi K h w x.b x.F x.xs
 sub:∀ x ∈ ks,∀ k,x.F k->w0.heap.size <= k/\k < w.heap.size/\v.ownBlock ≠ some k
 apart:ks.Pairwise (fun x y=>∀ k,x.F k->¬ y.F k)
theorem Z1n.start {K:Nat->Prop} {h:Nat} {w0 w:World} (hq:Quiet w0 w):Z1n K h w0 w (.slice none 0 0) [] :=
 ⟨hq,World.ownsRow_nil _ _ _ _,(fun _ e=>by cases e),(fun x hx=>by cases hx),(fun x hx=>by cases hx),List.Pairwise.nil⟩
theorem Z1n.push {K:Nat->Prop} {h:Nat} {w0 w w2 w5:World} {v v5:Value} {ks:List Kid} {x:Kid} (hK:∀ k,K k->k < w0.heap.size) (hF:Z1n K h w0 w v ks) (hq:Quiet w w2) (hx:x.xs ≠ []/\Zi K h w2 x.b x.F x.xs) (hs:∀ k,x.F k->w0.heap.size <= k/\k < w2.heap.size/\v.ownBlock ≠ some k) (ha:∀ y ∈ ks,∀ k,y.F k->¬ x.F k) (hg:ZT w2 w5 157 1 v v5 (ks.length+1) (kptrs ks ++ [ptrV x.b])):Z1n K h w0 w5 v5 (ks ++ [x]):=by
 have hz0:=hF.quiet.size
 have hz:=hq.size
 have hz5:=hg.only.size
 have hKv:∀ k,K k->¬ v.ownBlock=some k:=fun k x e=>by have:=hK k x;have:=hF.new k e;omega
 refine ⟨(hF.quiet.trans hq).trans' hg.only (fun k hk e=>by have:=hF.new k e;omega),?_,fun k e=>?_,fun y hy=>?_,fun y hy k hk=>?_,?_⟩
 ·rw [List.length_append,kptrs,List.map_append]
  exact hg.own
 ·rcases hg.loc with y | y
  ·rw [y] at e;exact hF.new k e
  ·rw [y] at e;injection e with e;omega
 ·rcases List.mem_append.1 hy with z | z
  ·exact ⟨(hF.kid y z).1,Zi.kept hg.only hKv (Zi.kept hq (fun _ _ x=>x) (hF.kid y z).2 (fun _ _ x=>x)) (fun k u e=>(hF.sub y z k u).2.2 e)⟩
  ·simp at z
   subst z
   exact ⟨hx.1,Zi.kept hg.only hKv hx.2 (fun k u e=>(hs k u).2.2 e)⟩
 ·have key:w0.heap.size <= k/\k < w2.heap.size/\v.ownBlock ≠ some k:=by
   rcases List.mem_append.1 hy with z | z
   ·have:=hF.sub y z k hk
    exact ⟨this.1,by omega,this.2.2⟩
   ·simp at z
    subst z
    exact hs k hk
  refine ⟨key.1,by omega,fun e=>?_⟩
  rcases hg.loc with u | u
  ·rw [u] at e;exact key.2.2 e
  ·rw [u] at e;injection e with e;omega
 ·rw [List.pairwise_append]
  refine ⟨hF.apart,List.pairwise_singleton _ _,fun y hy z hz k u=>?_⟩
  simp at hz
  subst hz
  exact ha y hy k u
theorem Zj6 {K:Nat->Prop} {w w2:World} {xs:List EV} {v:Value} (hn:Z2n w w2 103 3 v xs.length (Z01 xs)) (hk:∀ x ∈ xs,Z1e w K x):Zi K 0 (w2.alloc (.cells #[v,.slice none 0 0] 161)) w2.heap.size (fun k=>k=w2.heap.size ∨ v.ownBlock=some k) xs :=
 ⟨v,Z4 w2 _,Z5 hn.own ((Z0.refl (fun _=>False) w2).alloc _) (fun _ _ x=>x),fun x hx=>((hk x hx).quietly hn.quiet).quietly ((Z0.refl (fun _=>False) w2).alloc _),Or.inl rfl,fun k e=>Or.inr e⟩
structure Up (K:Nat->Prop) (h:Nat) (w1 w3 w:World) (vu:Value) (ks us:List Kid) (m:Nat):Prop where
 up:Z1n K (h+1) w1 w vu us
 nu:∀ k,vu.ownBlock=some k->w3.heap.size <= k
 old:Quiet w3 w
 sep:∀ x ∈ ks.drop m,∀ u ∈ us,∀ k,x.F k->¬ u.F k
 flt:flat us=flat (ks.take m)
theorem Up.start {K:Nat->Prop} {h:Nat} {w1 w3:World} {vr:Value} {ks:List Kid} (hb:Z1n K h w1 w3 vr ks):Up K h w1 w3 w3 (.slice none 0 0) ks [] 0 :=
 ⟨Z1n.start hb.quiet,(fun _ e=>by cases e),Z0.refl _ _,(fun x _ u hu=>by cases hu),rfl⟩
theorem Zk9 {ks:List Kid} (h:ks ≠ []) (hx:∀ x ∈ ks,x.xs ≠ []):flat ks ≠ []:=by
 rcases ks with _ | ⟨x,ks⟩
 ·exact absurd rfl h
 ·intro e
  unfold flat at e
  rw [List.flatMap_cons,List.append_eq_nil_iff] at e
  exact hx x (by simp) e.1
theorem Z1n.quietly {K:Nat->Prop} {h:Nat} {w0 w w':World} {v:Value} {ks:List Kid} (hF:Z1n K h w0 w v ks) (hq:Quiet w w'):Z1n K h w0 w' v ks:=by
 have hz:=hq.size
 exact ⟨hF.quiet.trans hq,Z5 hF.row hq (fun _ _ x=>x),hF.new,fun x hx=>⟨(hF.kid x hx).1,Zi.kept hq (fun _ _ x=>x) (hF.kid x hx).2 (fun _ _ x=>x)⟩,fun x hx k hk=>by have:=hF.sub x hx k hk;exact ⟨this.1,by omega,this.2.2⟩,hF.apart⟩
theorem Up.push {K:Nat->Prop} {h:Nat} {w1 w3 wr wa w4 w5 w7:World} {vr vu u vl v7:Value} {ks us grp:List Kid} {a b:Nat} (hK:∀ k,K k->k < w1.heap.size) (hb:Z1n K h w1 w3 vr ks) (hU:Up K h w1 w3 wr vu ks us a) (hab:a+2 <= b) (hbn:b <= ks.length) (hgrp:(ks.drop a).take (b - a)=grp)
  (hqa:Quiet wr wa) (hu:Z2n wa w4 157 1 u grp.length (kptrs grp)) (hq:Quiet w4 w5) (hbox:w5.heap[w4.heap.size]?=some (.cells #[vl,u] 161 (0,0))) (hrow:RowAt w5 vl (heads grp)) (hvl:∀ k,vl.ownBlock=some k->w4.heap.size < k)
  (hg:ZT (w5.alloc (.cells #[ptrV w4.heap.size] 157)) w7 157 1 vu v7 (us.length+1) (kptrs us ++ [ptrV w4.heap.size])):∃ F,Up K h w1 w3 w7 v7 ks (us ++ [⟨w4.heap.size,F,flat grp⟩]) b:=by
 have z1:=hU.up.quiet.size
 have z2:=hU.old.size
 have z3:=hqa.size
 have z4:=hu.quiet.size
 have z5:=hq.size
 have z0:=hb.quiet.size
 have hgl:grp.length=b - a:=by rw [<- hgrp,List.length_take,List.length_drop];omega
 have hgs:∀ x ∈ grp,x ∈ ks.drop a:=fun x hx=>by rw [<- hgrp] at hx;exact List.mem_of_mem_take hx
 have hgk:∀ x ∈ grp,x ∈ ks:=fun x hx=>List.mem_of_mem_drop (hgs x hx)
 have hq35:Quiet w3 w5:=((hU.old.trans hqa).trans hu.quiet).trans hq
 have hlb:=Z2 hbox
 obtain ⟨ju,eu1,eu2⟩:=hu.loc
 have eu3:=(hu.own.lt ju eu1).2
 have hold:∀ x ∈ ks,∀ k,x.F k->w1.heap.size <= k/\k < w3.heap.size:=fun x hx k hk=>⟨(hb.sub x hx k hk).1,(hb.sub x hx k hk).2.1⟩
 have hnode:Zi K (h+1) w5 w4.heap.size (fun k=>(k=w4.heap.size ∨ vl.ownBlock=some k ∨ u.ownBlock=some k) ∨ ∃ x ∈ grp,x.F k) (flat grp):=by
  refine ⟨vl,u,grp,⟨hbox,hrow,Z5 hu.own hq (fun _ _ x=>x),⟨ju,eu1⟩,by omega,fun x hx=>⟨(hb.kid x (hgk x hx)).1,Zi.kept hq35 (fun _ _ x=>x) (hb.kid x (hgk x hx)).2 (fun _ _ x=>x)⟩,fun x hx k hk=>⟨Or.inr ⟨x,hx,hk⟩,?_,?_,?_⟩,?_,Or.inl (Or.inl rfl),fun k e=>Or.inl (Or.inr (Or.inl e)),fun k e=>Or.inl (Or.inr (Or.inr e))⟩,rfl⟩
  ·have:=(hold x (hgk x hx) k hk).2;omega
  ·intro e;have:=(hold x (hgk x hx) k hk).2;have:=hvl k e;omega
  ·intro e;have:=(hold x (hgk x hx) k hk).2;rw [eu1] at e;injection e with e;omega
  ·rw [<- hgrp]
   exact hb.apart.sublist ((List.take_sublist _ _).trans (List.drop_sublist _ _))
 have hne:flat grp ≠ []:=Zk9 (fun e=>by rw [e] at hgl;simp at hgl;omega) (fun x hx=>(hb.kid x (hgk x hx)).1)
 have hvu:∀ k,vu.ownBlock=some k->k < wr.heap.size:=fun k e=>(hU.up.row.lt k e).2
 have hq6:Quiet wr (w5.alloc (.cells #[ptrV w4.heap.size] 157)):=(((hqa.trans hu.quiet).trans hq).alloc _)
 have hF7:=hU.up.push (x:=⟨w4.heap.size,_,flat grp⟩) hK hq6 ⟨hne,Zi.kept ((Z0.refl (fun _=>False) w5).alloc (.cells #[ptrV w4.heap.size] 157)) (fun _ _ x=>x) hnode (fun _ _ x=>x)⟩ (fun k x=>by
     rw [World.size_alloc]
     rcases x with (x | x | x) | ⟨y,hy,x⟩
     · exact ⟨by omega,by omega,fun e=>by have:=hvu k e;omega⟩
     · have h1:=hvl k x
       have h2:=(hrow.lt k x).2
       exact ⟨by omega,by omega,fun e=>by have:=hvu k e;omega⟩
     · rw [eu1] at x
       injection x with x
       exact ⟨by omega,by omega,fun e=>by have:=hvu k e;omega⟩
     · have:=hold y (hgk y hy) k x
       exact ⟨this.1,by omega,fun e=>by have:=hU.nu k e;omega⟩) (fun y hy k hk x=>by
     have h1:=(hU.up.sub y hy k hk).2.1
     rcases x with (x | x | x) | ⟨z,hz,x⟩
     · omega
     · have:=hvl k x;omega
     · rw [eu1] at x;injection x with x;omega
     · exact hU.sep z (hgs z hz) y hy k x hk) hg
 refine ⟨_,hF7,fun k e=>?_,((hU.old.trans hqa).trans hu.quiet |>.trans hq |>.alloc _).trans' hg.only (fun k hk e=>by have:=hU.nu k e;omega),fun x hx y hy k hk hk'=>?_,?_⟩
 ·rcases hg.loc with x | x
  ·rw [x] at e;exact hU.nu k e
  ·rw [x] at e;injection e with e;rw [World.size_alloc] at e;omega
 ·have hxa:x ∈ ks.drop a:=by
   have e:ks.drop b=(ks.drop a).drop (b - a):=by rw [List.drop_drop];congr 1;omega
   rw [e] at hx
   exact List.mem_of_mem_drop hx
  rcases List.mem_append.1 hy with z | z
  ·exact hU.sep x hxa y z k hk hk'
  ·simp at z
   subst z
   have h1:=hold x (List.mem_of_mem_drop hxa) k hk
   rcases hk' with (u1 | u1 | u1) | ⟨z,hz,u1⟩
   ·omega
   ·have:=hvl k u1;omega
   ·rw [eu1] at u1;injection u1 with u1;omega
   ·have hap:(ks.take b ++ ks.drop b).Pairwise (fun x y=>∀ k,x.F k->¬ y.F k):=by rw [List.take_append_drop];exact hb.apart
    rw [List.pairwise_append] at hap
    refine hap.2.2 z ?_ x hx k u1 hk
    rw [<- Z7h ks (show a <= b by omega),hgrp]
    exact List.mem_append_right _ hz
 ·rw [Zb1,hU.flt,<- Z7h ks (show a <= b by omega),hgrp]
  unfold flat
  rw [List.flatMap_append]
structure Z5F (w4 w:World) (u vl:Value) (grp:List Kid) (t:Nat):Prop where
 quiet:Quiet w4 w
 box:w.heap[w4.heap.size]?=some (.cells #[vl,u] 161 (0,0))
 row:RowAt w vl (heads (grp.take t))
 new:∀ k,vl.ownBlock=some k->w4.heap.size < k
theorem Z5F.start (w4:World) (u:Value) (grp:List Kid):Z5F w4 (w4.alloc (.cells #[.slice none 0 0,u] 161)) u (.slice none 0 0) grp 0 :=
 ⟨(Z0.refl _ _).alloc _,Z4 w4 _,World.ownsRow_nil _ _ _ _,(fun _ e=>by cases e)⟩
theorem Z5F.push {w4 w W w5:World} {u vl v5:Value} {grp:List Kid} {t:Nat} {x:Kid} (h:Z5F w4 w u vl grp t) (hx:grp[t]?=some x) (hq:Quiet w W) (hg:ZT W w5 103 3 vl v5 (t+1) (Z01 (heads (grp.take t)) ++ (hd x.xs).cells)):Z5F w4 (w5.setCell ⟨w4.heap.size,0,none⟩ v5) u v5 grp (t+1):=by
 have hset:Z0 (·=w4.heap.size) w5 (w5.setCell ⟨w4.heap.size,0,none⟩ v5):=(Z0.refl (·=w4.heap.size) w5).setCell (p:=⟨w4.heap.size,0,none⟩) (fun _=>rfl) _
 have hb:=Z2 h.box
 have hz:=hq.size
 have hv5:∀ k,v5.ownBlock=some k->w4.heap.size < k:=fun k e=>by
  rcases hg.loc with y | y
  ·rw [y] at e;exact h.new k e
  ·rw [y] at e;injection e with e;omega
 have hl:=(zi.1 hx).1
 refine ⟨((h.quiet.trans hq).trans' hg.only (fun k hk e=>by have:=h.new k e;omega)).trans' hset (fun k hk e=>by omega),by rw [Zg (hg.only.get (hq.get h.box (fun x=>x)) (fun e=>by have:=h.new _ e;omega))];rfl,?_,hv5⟩
 have e1:heads (grp.take (t+1))=heads (grp.take t) ++ [hd x.xs]:=by rw [Z3e hx];simp [heads]
 unfold RowAt
 rw [e1,Z2a,Z59,List.length_append,heads,List.length_map,List.length_take,Nat.min_eq_left (by omega)]
 exact Z5 hg.own hset (fun k e y=>by have:=hv5 k e;omega)
def Zb2 (K:Nat->Prop) (w:World) (xs:List EV) (e:Ending) (w':World):Prop:=∃ b h F,e=.returned (ptrV b)/\Quiet w w'/\Zi K h w' b F xs/\∀ k,F k->w.heap.size <= k/\k < w'.heap.size
theorem Zei {w w':World} {n k i:Nat} {v:Value} {A:Option Addr} {c:Nat} (h:w.ownsRow 0 302 2 v k (Z3L n k)) (hv:v=.slice A k c) (hi:i < k) (hq:Z0 (fun _=>False) w w'):∃ g,A=some ⟨g,0,none⟩/\w'.cell? ⟨g,i * 2,none⟩=some (.int .i64 (cutAt n i:Int))/\w'.cell? ⟨g,i * 2+1,none⟩=some (.int .i64 (cutAt n (i+1):Int)):=by
 obtain ⟨h1,h2⟩:=Z9w n hi
 rcases ZB h with ⟨_,e⟩ | ⟨g,c',e,_,_⟩
 ·omega
 ·subst e
  injection hv with e1 _ _
  subst e1
  refine ⟨g,rfl,?_,?_⟩
  ·have:=h.cells rfl (i * 2) _ h1
   rw [Zl,Nat.zero_add] at this
   exact hq.cell this (fun x=>x)
  ·have:=h.cells rfl (i * 2+1) _ h2
   rw [Zl,Nat.zero_add] at this
   exact hq.cell this (fun x=>x)
theorem Zka {w:World} {S:Nat->Prop} {g o n a b:Nat} {xs:List EV} (h:Rd w S 3 (some ⟨g,o,none⟩) n (Z01 xs)) (hab:a <= b) (hb:b <= n):Rd w S 3 (some ⟨g,o+a * 3,none⟩) (b - a) (Z01 ((xs.drop a).take (b - a))):=by
 have:=(h.drop (k:=a) (by omega)).takeK (k:=b - a) (by omega)
 rw [Z4p,Z4q]
 exact this
theorem Zj7 {w:World} {S:Nat->Prop} {g o n a b:Nat} {ks:List Kid} (h:Rd w S 1 (some ⟨g,o,none⟩) n (kptrs ks)) (hab:a <= b) (hb:b <= n):Rd w S 1 (some ⟨g,o+a,none⟩) (b - a) (kptrs ((ks.drop a).take (b - a))):=by
 have:=(h.drop (k:=a) (by omega)).takeK (k:=b - a) (by omega)
 rw [Nat.mul_one,Nat.mul_one] at this
 unfold kptrs at this ⊢
 rw [List.map_take,List.map_drop]
 exact this
theorem Z1n.leaf {K:Nat->Prop} {w w0 wr w2 w5:World} {v v1 v5:Value} {ks:List Kid} {ys:List EV} (hK:∀ k,K k->k < w.heap.size) (hF:Z1n K 0 w wr v ks) (hq:Quiet wr w0) (hn:Z2n w0 w2 103 3 v1 ys.length (Z01 ys)) (hk:∀ x ∈ ys,Z1e w K x) (hy:ys ≠ [])
  (hg:ZT ((w2.alloc (.cells #[v1,.slice none 0 0] 161)).alloc (.cells #[ptrV w2.heap.size] 157)) w5 157 1 v v5 (ks.length+1) (kptrs ks ++ [ptrV w2.heap.size])):∃ F,Z1n K 0 w w5 v5 (ks ++ [⟨w2.heap.size,F,ys⟩]):=by
 have z1:=hF.quiet.size
 have z2:=hq.size
 have z3:=hn.quiet.size
 have hq2:Quiet wr w2:=hq.trans hn.quiet
 have hl:=Zj6 hn (fun x hx=>(hk x hx).quietly (hF.quiet.trans hq))
 refine ⟨_,hF.push hK ((hq2.alloc _).alloc _) ⟨hy,Zi.kept ((Z0.refl (fun _=>False) _).alloc (.cells #[ptrV w2.heap.size] 157)) (fun _ _ x=>x) hl (fun _ _ x=>x)⟩ (fun k x=>?_) (fun y hy' k u x=>?_) hg⟩
 ·rw [World.size_alloc,World.size_alloc]
  rcases x with x | x
  ·exact ⟨by omega,by omega,fun e=>by have:=(hF.row.lt k e).2;omega⟩
  ·obtain ⟨j,e1,e2⟩:=hn.loc
   rw [e1] at x
   injection x with x
   have:=(hn.own.lt j e1).2
   exact ⟨by omega,by omega,fun e=>by have:=(hF.row.lt k e).2;omega⟩
 ·have:=(hF.sub y hy' k u).2.1
  rcases x with x | x
  ·omega
  ·obtain ⟨j,e1,e2⟩:=hn.loc
   rw [e1] at x
   injection x with x
   omega
theorem Zhv (K S:Nat->Prop) (xs:List EV) (A:Option Addr) (n cap:Nat) (w:World) (hn:xs.length=n) (hr:Rd w S 3 A n (Z01 xs)) (hk:∀ x ∈ xs,Z1e w K x) (hK:∀ k,K k->k < w.heap.size) (hc:n <= cap) (hcap:cap <= maxLen) (hl:n <= 40000) :
  Calls Tryz.prog 170 #[.slice A n cap] w (Zb2 K w xs):=by
 unfold maxLen at hcap
 have HN:=zh hn
 have HR:=zh hr
 have HK:=zh hk
 have HKO:=zh hK
 obtain ⟨m,hm⟩:∃ m,Z25 n=m:=⟨_,rfl⟩
 have hml:m <= 40000:=by unfold Z25 at hm;omega
 have HM:=zh hm
 have HF0:=zh (trivial:True)
 have HP:=zh (Zb0 n w hl)
 obtain ⟨Z8,Z6⟩:∃ Z8,Zb2 K w xs=Z8:=⟨_,rfl⟩
 have Ze:=zh Z6
 rw [Z6]
 clear hn hr hk hK hm Z6
 go_enter Tryz.func170,Tryz.ntmps170
 go_wp2_with fail
 refine HP.out.mono ?_
 rintro e w1 ⟨vp,rfl,hp⟩
 rw [HM.out] at hp
 obtain ⟨Ap,cp,hvp,hcp,hcpm,_⟩:=Za hp.own
 subst hvp
 have HPA:=zh hp
 have HKO1:Hid (∀ k,K k->k < w1.heap.size):=fun k x=>by have:=HKO.out k x;have:=hp.quiet.size;omega
 clear HP hp
 go_wp2_with fail
 go_loopw [16,3,5] (fun ci cv _ wr=>∃ (i:Nat) (v':Value) (ks:List Kid),i <= m/\ci=.int .i64 (i:Int)/\v'=cv/\Z1n K 0 w1 wr v' ks/\ks.length=i/\flat ks=xs.take (cutAt n i)) (fun ci _ _ _=>m - (intOf ci).toNat)
 case atStart=>exact ⟨0,_,[],Nat.zero_le _,rfl,rfl,Z1n.start (Z0.refl _ _),rfl,by rw [ZcN];rfl⟩
 case round =>
  obtain ⟨i,v',ks,hi,rfl,rfl,hF,hkl,hfl⟩:=hrel
  clear HF0
  have HF:=zh hF
  have HQI:=zh hF.quiet
  have HFL:=zh hfl
  have HKL:=zh hkl
  obtain ⟨Av,cv',hvv,hcv,_,_⟩:=Za hF.row
  rw [hkl] at hvv hcv
  subst hvv
  clear hF hfl hkl
  by_cases hlt:i < m
  ·obtain ⟨a,ha⟩:∃ a,cutAt n i=a:=⟨_,rfl⟩
   obtain ⟨b,hb⟩:∃ b,cutAt n (i+1)=b:=⟨_,rfl⟩
   have hn0:0 < n:=by
    rcases Nat.eq_zero_or_pos n with z | z
    ·subst z;have:=HM.out;rw [ZdI] at this;omega
    ·exact z
   have hab:a < b:=by have:=Zk6 hn0 i;omega
   have hbn:b <= n:=by rw [<- hb];exact Zhs (by have:=HM.out;omega)
   obtain ⟨g,hA,p0,p1⟩:=Zei HPA.out.own rfl hlt HQI.out
   rw [ha] at p0
   rw [hb] at p1
   subst hA
   have HAB:=zh (And.intro ha hb)
   clear ha hb
   obtain ⟨gx,ox,hAx,_,_⟩:=HR.out.cells (by rw [Z5I,HN.out];omega)
   subst hAx
   obtain ⟨ys,hys⟩:∃ ys,(xs.drop a).take (b - a)=ys:=⟨_,rfl⟩
   have HYL:Hid (ys.length=b - a):=by show ys.length=b - a;rw [<- hys,List.length_take,List.length_drop,HN.out];omega
   have HYS:=zh hys
   have HQA:=zh (((Z0.refl (fun _=>False) wr).alloc (.cells #[.int .i64 (a:Int),.int .i64 (b:Int)] 302)))
   have HCL:=zh (Z4r ⟨gx,ox+a * 3,none⟩ (b - a) (cap - a) _ _ _ ((Zka (HR.out.kept (HPA.out.quiet.trans (HF.out.quiet.trans HQA.out)) (fun _ _ x=>x)) (Nat.le_of_lt hab) hbn)) (Z20 _) (by omega))
   rw [hys] at HCL
   clear hys
   go_wp2_with fail
   refine HCL.out.mono ?_
   rintro e w2 ⟨v1,rfl,hn1⟩
   obtain ⟨A1,c1,hv1,_,_,_⟩:=Za hn1.own
   subst hv1
   have HN1:Hid (Z2n (wr.alloc (.cells #[.int .i64 (a:Int),.int .i64 (b:Int)] 302)) w2 103 3 (.slice A1 (b - a) c1) ys.length (Z01 ys)):=by rw [HYL.out];exact hn1
   clear hn1 HCL p0 p1
   have HRD:Hid (Rd ((w2.alloc (.cells #[.slice A1 (b - a) c1,.slice none 0 0] 161)).alloc (.cells #[ptrV w2.heap.size] 157)) (fun _=>True) 1 (some ⟨w2.heap.size+1,0,none⟩) 1 [ptrV w2.heap.size]):=by
    have:=Rd.new (w2.alloc (.cells #[.slice A1 (b - a) c1,.slice none 0 0] 161)) 1 1 [ptrV w2.heap.size] 157 (fun _=>True) rfl trivial
    rw [World.size_alloc] at this
    exact this
   have HRW:=zh (Z5 HF.out.row (((HQA.out.trans HN1.out.quiet).alloc (.cells #[.slice A1 (b - a) c1,.slice none 0 0] 161)).alloc (.cells #[ptrV w2.heap.size] 157)) (fun _ _ x=>x))
   have hkl1:ks.length <= 40000:=by have:=HKL.out;omega
   go_wp2_with (at_builtin;refine app Z3A rfl (.tmp 20) (.tmp 30) rfl rfl HRW.out rfl HRD.out (Z3v [w2.heap.size]) (by unfold maxLen;omega) (by omega) ?_)
   intro v5 w5 hg5
   have hyn:ys ≠ []:=fun e=>by have:=HYL.out;rw [e] at this;simp at this;omega
   have hkm:∀ x ∈ ys,Z1e w1 K x:=fun x hx=>(HK.out x (List.mem_of_mem_drop (List.mem_of_mem_take (by rw [HYS.out];exact hx)))).quietly HPA.out.quiet
   obtain ⟨F,hF5⟩:=HF.out.leaf HKO1.out HQA.out HN1.out hkm hyn hg5
   have HF5:=zh hF5
   have HFL5:Hid (flat (ks ++ [⟨w2.heap.size,F,ys⟩])=xs.take (cutAt n (i+1))):=by
    rw [Zb1,HFL.out,HAB.out.1,HAB.out.2,<- HYS.out]
    exact Z7h xs (Nat.le_of_lt hab)
   clear hg5 hF5 HRD HRW hyn hkm HF HFL HQI HQA HN1 hkl1
   go_wp2
   go_roundw
   case rel=>exact ⟨i+1,v5,_,by omega,by go_num,rfl,HF5.out,by rw [List.length_append,HKL.out];rfl,HFL5.out⟩
   case measure=>simp [intOf];omega
  ·obtain rfl:i=m:=by omega
   have HFX:Hid (flat ks=xs):=by show flat ks=xs;rw [HFL.out,<- HM.out,Za7,List.take_of_length_le (by rw [HN.out];omega)]
   have HFS:=zh HF.out
   clear HFL HQI
   by_cases hi0:i=0
   ·subst hi0
    have hx0:xs=[]:=by
     have h1:=HKL.out
     have h2:ks=[]:=List.eq_nil_of_length_eq_zero h1
     rw [<- HFX.out,h2];rfl
    have HRES:Hid (Z8 (.returned (ptrV wr.heap.size)) (wr.alloc (.cells #[.slice none 0 0,.slice none 0 0] 161))):=by
     have hz1:=HPA.out.quiet.size
     have hz2:=HF.out.quiet.size
     rw [<- Ze.out]
     exact ⟨_,0,fun k=>k=wr.heap.size,rfl,(HPA.out.quiet.trans HF.out.quiet).alloc _,⟨_,Z4 wr _,(by rw [hx0];exact World.ownsRow_nil _ _ _ _),(fun x hx=>by rw [hx0] at hx;cases hx),rfl,(fun k e=>by cases e)⟩,fun k e=>by rw [World.size_alloc];omega⟩
    go_wp2
    exact HRES.out
   ·have hib:((i:Int) == 0)=false:=by simp;omega
    go_wp2_with fail
    go_loopw [3,6,8,9,11] (fun c3 _ _ _ _ wr=>∃ (h:Nat) (v':Value) (ks:List Kid),v'=c3/\Z1n K h w1 wr v' ks/\1 <= ks.length/\flat ks=xs) (fun c3 _ _ _ _ _=>Zis c3)
    case atStart=>exact ⟨0,_,ks,rfl,HFS.out,by have:=HKL.out;omega,HFX.out⟩
    case round =>
     obtain ⟨h,v',ks2,rfl,hF2,hk1,hfx⟩:=hrel
     obtain ⟨m2,hm2⟩:∃ m2,ks2.length=m2:=⟨_,rfl⟩
     have hm2l:m2 <= n:=by have:=Z9Z (fun x hx=>(hF2.kid x hx).1);rw [hfx,HN.out] at this;omega
     obtain ⟨A2,c2,hv2,hc2,hc2m,_⟩:=Za hF2.row
     rw [hm2] at hv2 hc2 hk1
     subst hv2
     have HF2:=zh hF2
     have HFX2:=zh hfx
     have HM2:=zh hm2
     clear hF2 hfx hm2 HF HFS HFX HKL
     by_cases hone:1 < m2
     ·obtain ⟨q2,hq2⟩:∃ q2,Z25 m2=q2:=⟨_,rfl⟩
      have hq2l:q2 <= 40000:=by unfold Z25 at hq2;omega
      have hq2m:q2 < m2:=by rw [<- hq2];exact Zht hone
      have hq2p:0 < q2:=by rw [<- hq2];exact Zfz (by omega)
      have HP2:=zh (Zb0 m2 wr (by omega))
      have HQ2:=zh hq2
      clear hq2
      go_wp2_with fail
      refine HP2.out.mono ?_
      rintro e w3 ⟨vp2,rfl,hp2⟩
      rw [HQ2.out] at hp2
      obtain ⟨Ap2,cp2,hvp2,hcp2,hcpm2,_⟩:=Za hp2.own
      subst hvp2
      have HPA2:=zh hp2
      have HB:=zh (HF2.out.quietly hp2.quiet)
      clear HP2 hp2 HF2
      go_wp2_with fail
      go_loopw [45,6,8,9,11] (fun ci cv _ _ _ wr=>∃ (i:Nat) (v':Value) (us:List Kid),i <= q2/\ci=.int .i64 (i:Int)/\v'=cv/\Up K h w1 w3 wr v' ks2 us (cutAt m2 i)/\us.length=i) (fun ci _ _ _ _ _=>q2 - (intOf ci).toNat)
      case atStart=>exact ⟨0,_,[],Nat.zero_le _,rfl,rfl,by rw [ZcN];exact Up.start HB.out,rfl⟩
      case round =>
       obtain ⟨j,v',us,hj,rfl,rfl,hU,hul⟩:=hrel
       have HU:=zh hU
       have HUL:=zh hul
       obtain ⟨Au,cu,hvu,hcu,_,_⟩:=Za hU.up.row
       rw [hul] at hvu hcu
       subst hvu
       clear hU hul
       by_cases hjq:j < q2
       ·obtain ⟨a,ha⟩:∃ a,cutAt m2 j=a:=⟨_,rfl⟩
        obtain ⟨b,hb⟩:∃ b,cutAt m2 (j+1)=b:=⟨_,rfl⟩
        have hab:a+2 <= b:=by have:=Zk7 (show 2 <= m2 by omega) j;omega
        have hbn:b <= m2:=by rw [<- hb];exact Zhs (by have:=HQ2.out;omega)
        obtain ⟨g,hA,p0,p1⟩:=Zei HPA2.out.own rfl hjq HU.out.old
        rw [ha] at p0
        rw [hb] at p1
        subst hA
        rw [ha] at HU
        have HAB:=zh hb
        clear ha hb
        obtain ⟨grp,hgrp⟩:∃ grp,(ks2.drop a).take (b - a)=grp:=⟨_,rfl⟩
        have HGL:Hid (grp.length=b - a):=by show grp.length=b - a;rw [<- hgrp,List.length_take,List.length_drop,HM2.out];omega
        have HGRP:=zh hgrp
        have HQA:=zh (((Z0.refl (fun _=>False) wr).alloc (.cells #[.int .i64 (a:Int),.int .i64 (b:Int)] 302)))
        obtain ⟨A2',c2',hv2',_,_,hrd2⟩:=Za HB.out.row
        injection hv2' with e1 e2 e3
        rw [<- e1,HM2.out] at hrd2
        clear e1 e2 e3
        obtain ⟨g2,o2,hA2,_,_⟩:=hrd2.cells (by rw [kptrs,List.length_map,HM2.out];omega)
        subst hA2
        have hrdg:=Zj7 (hrd2.kept (HU.out.old.trans HQA.out) (fun _ _ x=>x)) (show a <= b by omega) hbn
        rw [hgrp] at hrdg
        have HCL:=zh (Z6j ⟨g2,o2+a,none⟩ (b - a) (c2 - a) _ _ _ hrdg (Z72 _) (by omega))
        clear hgrp hrd2 hrdg
        go_wp2_with fail
        refine HCL.out.mono ?_
        rintro e w4 ⟨u,rfl,hn4⟩
        obtain ⟨A4,c4,hv4,_,_,_⟩:=Za hn4.own
        subst hv4
        have HN4:Hid (Z2n (wr.alloc (.cells #[.int .i64 (a:Int),.int .i64 (b:Int)] 302)) w4 157 1 (.slice A4 (b - a) c4) grp.length (kptrs grp)):=by rw [HGL.out];exact hn4
        obtain ⟨g4,hA4⟩:∃ g4,A4=some ⟨g4,0,none⟩:=by
         rcases ZB hn4.own with ⟨_,e⟩ | ⟨g4,c4',e,_,_⟩
         ·omega
         ·injection e with e1 _ _
          exact ⟨g4,e1⟩
        subst hA4
        obtain ⟨l4,hl4⟩:∃ l4,b - a=l4:=⟨_,rfl⟩
        rw [hl4] at HGL HN4
        have HL4:=zh hl4
        have hl4m:l4 <= 40000:=by omega
        rw [hl4]
        have HH0:=zh (Z5F.start w4 (.slice (some ⟨g4,0,none⟩) l4 c4) grp)
        have HUP:Hid (∀ (w5 w7:World) (vl v7:Value),Z5F w4 w5 (.slice (some ⟨g4,0,none⟩) l4 c4) vl grp l4->ZT (w5.alloc (.cells #[ptrV w4.heap.size] 157)) w7 157 1 (.slice Au j cu) v7 (j+1) (kptrs us ++ [ptrV w4.heap.size])->∃ F,Up K h w1 w3 w7 v7 ks2 (us ++ [⟨w4.heap.size,F,flat grp⟩]) b):=fun w5 w7 vl v7 hH hg=>Up.push HKO1.out HB.out HU.out hab (by rw [HM2.out];exact hbn) HGRP.out HQA.out HN4.out hH.quiet hH.box (by have:=hH.row;rw [List.take_of_length_le (by rw [HGL.out];exact Nat.le_refl _)] at this;exact this) hH.new (by rw [HUL.out];exact hg)
        have HROWU:Hid (∀ w5:World,Quiet w4 w5->w5.ownsRow 0 157 1 (.slice Au j cu) us.length (kptrs us)):=fun w5 hq=>Z5 HU.out.up.row ((HQA.out.trans HN4.out.quiet).trans hq) (fun _ _ x=>x)
        have HKIDS:Hid (∀ w5:World,Quiet w4 w5->∀ x ∈ ks2,x.xs ≠ []/\Zi K h w5 x.b x.F x.xs):=fun w5 hq x hx=>⟨(HB.out.kid x hx).1,Zi.kept (((HU.out.old.trans HQA.out).trans HN4.out.quiet).trans hq) (fun _ _ x=>x) (HB.out.kid x hx).2 (fun _ _ x=>x)⟩
        have HUROW:Hid (∀ w5:World,Quiet w4 w5->∀ (t:Nat) (x:Kid),grp[t]?=some x->w5.cell? ⟨g4,t,none⟩=some (ptrV x.b)):=fun w5 hq t x hx=>by
         have:=(Z5 HN4.out.own hq (fun _ _ x=>x)).cells rfl t (ptrV x.b) (by rw [kptrs,List.getElem?_map,hx];rfl)
         rw [Zl,Nat.zero_add] at this
         exact this
        have HUSL:Hid (us.length=j/\j <= 40000):=⟨HUL.out,by omega⟩
        clear hn4 hl4 HCL p0 p1
        go_wp2_with fail
        go_loopw [63,11] (fun ci _ wr=>∃ (t:Nat) (vl:Value),t <= l4/\ci=.int .i64 (t:Int)/\Z5F w4 wr (.slice (some ⟨g4,0,none⟩) l4 c4) vl grp t) (fun ci _ _=>l4 - (intOf ci).toNat)
        case atStart=>exact ⟨0,_,Nat.zero_le _,rfl,HH0.out⟩
        case round =>
         obtain ⟨t,vl,ht,rfl,hH⟩:=hrel
         clear HH0
         have HH:=zh hH
         clear hH
         by_cases htl:t < l4
         ·obtain ⟨x,hx⟩:∃ x,grp[t]?=some x:=⟨_,zg (by have:=HGL.out;omega)⟩
          have hxk:x ∈ ks2:=List.mem_of_mem_drop (List.mem_of_mem_take (by have e:=HGRP.out;rw [e];exact List.mem_of_getElem? hx))
          have r0:=HUROW.out wr HH.out.quiet t x hx
          have hkid:=HKIDS.out wr HH.out.quiet x hxk
          have HLE:Hid (∀ W,Quiet wr W->Calls Tryz.prog 74 #[ptrV x.b] W fun e w'=>e=.returned (entV (hd x.xs).e (hd x.xs).A (hd x.xs).c)/\Quiet W w'):=fun W hW=>Z73 (Zi.kept hW (fun _ _ x=>x) hkid.2 (fun _ _ x=>x)) hkid.1
          obtain ⟨Al,cl,hvl,_,_,_⟩:=Za HH.out.row
          have htk:(heads (grp.take t)).length=t:=by rw [heads,List.length_map,List.length_take];have:=HGL.out;omega
          rw [htk] at hvl
          subst hvl
          have HTK:=zh htk
          have hbx:=HH.out.box
          have b0:wr.cell? ⟨w4.heap.size,0,none⟩=some (.slice Al t cl):=by rw [Z1 hbx];rfl
          have HNV:Hid (∀ k,(Value.slice Al t cl).ownBlock=some k->k ≠ w4.heap.size):=fun k e=>by have:=HH.out.new k e;omega
          have HX:=zh hx
          have d0:(0:Int) <= (t:Int):=by omega
          have d1:(t:Int) < (l4:Int):=by omega
          have HROWT:Hid (wr.ownsRow 0 103 3 (.slice Al t cl) t (Z01 (heads (grp.take t)))):=by have:=HH.out.row;unfold RowAt at this;rw [HTK.out] at this;exact this
          clear hx hxk hkid htk hbx
          go_upto_region 18 with fail
          go_region_law (first
            | (go_simp;go_at_call 74;refine (HLE.out _ (Z0.refl (fun _=>False) wr).drew).mono ?_;rintro e w6 ⟨rfl,hq6⟩;have k6:w6.cell? ⟨w4.heap.size,0,none⟩=some (.slice Al t cl):=hq6.cell (by exact b0) (fun x=>x);have hl6:w4.heap.size < w6.heap.size:=Zf k6;have hn6:¬ w4.heap.size=w6.heap.size:=(by omega))
            | (refine Z0B Z3o rfl (.tmp 71) (.tmp 74) rfl rfl (Z5 (Z5 (by exact HROWT.out) hq6 (fun _ _ x=>x)) ((Z0.refl (fun _=>False) w6).alloc _) (fun _ _ x=>x)) rfl (Rd.new w6 3 1 (hd x.xs).cells 103 (fun _=>True) rfl trivial) (Z20 [hd x.xs]) (by unfold maxLen;omega) (by omega) ?_;intro v5 w5 hg5;have hb5:=hg5.only.get (Zd (hq6.get (by exact HH.out.box) (fun x=>x)) _) (fun e=>HNV.out _ e rfl);obtain ⟨A5,c5,hv5,_,_,_⟩:=Za hg5.own;subst hv5;have s1:w5.cell? ⟨w4.heap.size,0,none⟩=some (.slice Al t cl):=(by rw [Z1 hb5];rfl);have s2:=fun o=>Z7 hb5 o)
            | fail)
          all_goals
           have HH5:=zh (HH.out.push HX.out (((Z0.refl (fun _=>False) wr).drew.trans hq6).alloc (.cells #[.slice (hd x.xs).A (hd x.xs).e.key.length (hd x.xs).c,.int .i64 (hd x.xs).e.pg,.int .i64 (hd x.xs).e.sl] 103)) (by exact hg5))
           clear hg5 hq6 s1 s2 hb5 k6 hl6 hn6 b0 r0
           go_wp2
           go_roundw
           case rel=>exact ⟨t+1,_,by omega,by go_num,HH5.out⟩
           case measure=>simp [intOf];omega
         ·obtain rfl:t=l4:=by omega
          have hus:=HUSL.out
          have HRU:=zh (Z5 (HROWU.out wr HH.out.quiet) ((Z0.refl (fun _=>False) wr).alloc (.cells #[ptrV w4.heap.size] 157)) (fun _ _ x=>x))
          go_wp2_with (at_builtin;refine app Z3A rfl (.tmp 79) (.tmp 81) rfl rfl HRU.out rfl (Rd.new wr 1 1 [ptrV w4.heap.size] 157 (fun _=>True) rfl trivial) (Z3v [w4.heap.size]) (by unfold maxLen;omega) (by omega) ?_)
          intro v7 w7 hg7
          obtain ⟨F,hU7⟩:=HUP.out wr w7 vl v7 HH.out hg7
          rw [<- HAB.out] at hU7
          have HU7:=zh hU7
          have hul7:(us ++ [(⟨w4.heap.size,F,flat grp⟩:Kid)]).length=j+1:=by rw [List.length_append,hus.1];rfl
          have HUL7:=zh hul7
          clear hg7 hU7 hul7 HRU HUP HROWU HKIDS HUROW hus
          go_wp2
          go_roundw
          case rel=>exact ⟨j+1,v7,_,by omega,by go_num,rfl,HU7.out,HUL7.out⟩
          case measure=>simp [intOf];omega
       ·obtain rfl:j=q2:=by omega
        have HRX:Hid (1 <= us.length/\flat us=xs):=by
         refine ⟨by have:=HUL.out;omega,?_⟩
         rw [HU.out.flt,<- HQ2.out,Za7,List.take_of_length_le (by have:=HM2.out;omega)]
         exact HFX2.out
        go_wp2
        go_roundw
        case rel=>exact ⟨h+1,_,us,rfl,HU.out.up,HRX.out.1,HRX.out.2⟩
        case measure=>show j < m2;omega
     ·obtain rfl:m2=1:=by omega
      obtain ⟨x,hx⟩:∃ x,ks2=[x]:=List.length_eq_one_iff.1 HM2.out
      rcases ZB HF2.out.row with ⟨_,e⟩ | ⟨g2,c2',e,_,_⟩
      ·rw [HM2.out] at e;omega
      ·rw [HM2.out] at e
       injection e with e1 _ e3
       subst e1 e3
       have r0:wr.cell? ⟨g2,0,none⟩=some (ptrV x.b):=by
        have:=HF2.out.row.cells rfl 0 (ptrV x.b) (by rw [hx];rfl)
        rw [Zl,Nat.zero_add] at this
        exact this
       have HRES:Hid (Z8 (.returned (ptrV x.b)) wr):=by
        have hz1:=HPA.out.quiet.size
        rw [<- Ze.out]
        refine ⟨x.b,h,x.F,rfl,HPA.out.quiet.trans HF2.out.quiet,?_,fun k e=>?_⟩
        ·have:=(HF2.out.kid x (by rw [hx];simp)).2
         rw [<- HFX2.out,hx]
         simpa [flat] using this
        ·have:=HF2.out.sub x (by rw [hx];simp) k e
         omega
       clear hx
       go_wp2
       exact HRES.out
theorem Z05.built {w0 w w':World} {D:Nat->Prop} {tb rb h rb' h':Nat} {F K F':Nat->Prop} {xs xs':List EV} {cnt c':Int} (hm:Z05 w0 w D tb rb h F K xs cnt) (hq:Quiet w w') (hn:Zi K h' w' rb' F' xs') (hF:∀ k,F' k->w.heap.size <= k/\k < w'.heap.size) (hc:c'=(xs'.length:Int)) :
  Z05 w0 ((w'.setCell ⟨tb,0,none⟩ (ptrV rb')).setCell ⟨tb,1,none⟩ (.int .i64 c')) D tb rb' h' F' K xs' c':=by
 have hz:=hq.size
 have hz0:=hm.only.size
 have htb:=Z2 hm.box
 have ho:Z0 (·=tb) w' ((w'.setCell ⟨tb,0,none⟩ (ptrV rb')).setCell ⟨tb,1,none⟩ (.int .i64 c')):=((Z0.refl (·=tb) w').setCell (p:=⟨tb,0,none⟩) (fun _=>rfl) _).setCell (p:=⟨tb,1,none⟩) (fun _=>rfl) _
 have hzo:=ho.size
 refine ⟨(hm.only.trans' hq (fun _ _ x=>x.elim)).trans' ho (fun k _ e=>by rw [e];exact hm.own.1),?_,Zi.kept ho (fun k hk e=>(hm.subK k hk).2.2.1 e) hn (fun k hk e=>by have:=(hF k hk).1;omega),fun k hk=>?_,fun k hk=>?_,hm.own⟩
 ·rw [Zg (Zg (hq.get hm.box (fun x=>x)) 0 _) 1 _];rfl
 ·have:=hF k hk
  exact ⟨Or.inr (by omega),by omega,by omega⟩
 ·have:=hm.subK k hk
  exact ⟨this.1,fun x=>by have:=(hF k x).1;omega,this.2.2.1,by omega⟩
structure Z6w (w2 wr:World) (v:Value) (ys:List EV):Prop where
 quiet:Quiet w2 wr
 row:RowAt wr v ys
 new:∀ k,v.ownBlock=some k->w2.heap.size <= k
theorem Z6w.quietly {w2 wr w':World} {v:Value} {ys:List EV} (h:Z6w w2 wr v ys) (hq:Quiet wr w'):Z6w w2 w' v ys:=⟨h.quiet.trans hq,Z5 h.row hq (fun _ _ x=>x),h.new⟩
theorem Z6w.push {w2 wr wa w5:World} {v v5:Value} {ys:List EV} {x:EV} {m:Nat} (h:Z6w w2 wr v ys) (hm:ys.length=m) (hq:Quiet wr wa) (hg:ZT wa w5 103 3 v v5 (m+1) (Z01 ys ++ x.cells)):Z6w w2 w5 v5 (ys ++ [x]):=by
 have h1:=h.quiet.size
 have h2:=hq.size
 refine ⟨(h.quiet.trans hq).trans' hg.only (fun k hk e=>by have:=h.new k e;omega),?_,fun k e=>?_⟩
 ·unfold RowAt
  rw [Z2a,Z59,List.length_append,hm]
  exact hg.own
 ·rcases hg.loc with y | y
  ·rw [y] at e;exact h.new k e
  ·rw [y] at e;injection e with e;omega
def Z9x (w:World) (D:Nat->Prop) (tb:Nat) (es:List Ent) (ps:List (Int × Int)) (r:Ending) (w':World):Prop :=
 r=.returned (.int .i64 ((es.length:Int) - ((Z11 ps es).length:Int)))/\Z0 D w w'/\Z0x w' (fun k=>D k ∨ w.heap.size <= k) tb (Z11 ps es)
theorem ZfB (w:World) (D:Nat->Prop) (tb:Nat) (es:List Ent) (ps:List (Int × Int)) (A:Option Addr) (m c:Nat) (S:Nat->Prop) (ht:Z0x w D tb es) (hr:Rd w S 2 A m (ZU ps)) (hpl:ps.length=m) (hwp:∀ p ∈ ps,Wf p) (hwe:∀ e ∈ es,Wf (e.pg,e.sl)) (hm:m <= 10000) (hn:es.length <= 10000) :
  Calls Tryz.prog 131 #[ptrV tb,.slice A m c] w (Z9x w D tb es ps):=by
 obtain ⟨rb,h,F,K,xs,hmid,hes,hris⟩:=ht
 subst hes
 have hxl:xs.length <= 10000:=by simpa using hn
 have HMID:=zh hmid
 have HRIS:=zh hris
 have HR:=zh hr
 have HPL:=zh hpl
 have HWP:=zh hwp
 have HWE:Hid (∀ x ∈ xs,Wf (x.e.pg,x.e.sl)):=fun x hx=>hwe x.e (List.mem_map.2 ⟨x,hx,rfl⟩)
 have hex:(ents xs).length=xs.length:=by simp
 have HS0:Hid (Z1W (w.alloc (.map #[] 0)) w.heap.size []):=Zgc w
 have HQ0:Hid (Quiet w (w.alloc (.map #[] 0))):=(Z0.refl _ _).alloc _
 obtain ⟨Z8,Z6⟩:∃ Z8,Z9x w D tb (ents xs) ps=Z8:=⟨_,rfl⟩
 rw [Z6]
 have Ze:=zh Z6
 have HEX:=zh hex
 have hmm:=@run_makeMap Tryz.prog
 clear hmid hris hr hpl hwp hwe Z6 hn hex
 go_enter Tryz.func131,Tryz.ntmps131
 go_wp2_with fail
 go_loopw [17,7] (fun ci _ wr=>∃ i:Nat,i <= m/\ci=.int .i64 (i:Int)/\Quiet w wr/\Z1W wr w.heap.size (ps.take i)) (fun ci _ _=>m - (intOf ci).toNat)
 case atStart=>exact ⟨0,Nat.zero_le _,rfl,HQ0.out,HS0.out⟩
 case round =>
  obtain ⟨i,hi,rfl,hq,hs⟩:=hrel
  clear HS0 HQ0
  have HQ:=zh hq
  have HS:=zh hs
  clear hq hs
  by_cases hlt:i < m
  ·obtain ⟨p,hp⟩:∃ p,ps[i]?=some p:=⟨_,zg (by have:=HPL.out;omega)⟩
   obtain ⟨b,off,rfl,_,c0,c1⟩:=Zhw (HR.out.kept HQ.out (fun _ _ x=>x)) hp
   have HP:=zh hp
   have HWF:=zh (HWP.out p (List.mem_of_getElem? hp))
   have HSA:=zh (HS.out.kept ((Z0.refl (fun _=>False) wr).alloc (.cells #[.int .i64 p.1,.int .i64 p.2] 48)) (fun x=>x))
   have HPT:Hid (ps.take i ++ [p]=ps.take (i+1)):=(Z3e hp).symm
   have hpl:(ps.take i).length < maxLen:=by unfold maxLen;rw [List.length_take];omega
   have HLL:=zh hpl
   have d0:(0:Int) <= (i:Int):=by omega
   have d1:(i:Int) < (m:Int):=by omega
   clear hp hpl
   go_wp2_with (first | (at_mapUpdate;refine Zi1 rfl _ _ _ rfl rfl rfl rfl HSA.out HWF.out HLL.out ?_) | fail)
   intro w3 hs3 ho3
   have HQ3:Hid (Quiet w w3):=(HQ.out.alloc _).trans' ho3 (fun k hk e=>by omega)
   rw [HPT.out] at hs3
   have HS3:=zh hs3
   clear hs3 ho3 c0 c1 HSA HS HPT
   go_wp2
   go_roundw
   case rel=>exact ⟨i+1,by omega,by go_num,HQ3.out,HS3.out⟩
   case measure=>simp [intOf];omega
  ·have hsl:ps.take i=ps:=List.take_of_length_le (by have:=HPL.out;omega)
   have HSE:Hid (Z1W wr w.heap.size ps):=by have:=HS.out;rw [hsl] at this;exact this
   have HM1:=zh (HMID.out.quietly HQ.out)
   obtain ⟨c0,c1,cf⟩:=HM1.out.cells
   have HALL:=zh (ZkC K h F _ rb xs [] (.slice none 0 0) HM1.out.node (fun k x=>⟨by
     rcases x with x | x
     · exact (HM1.out.subF k x).2.2
     · exact (HM1.out.subK k x).2.2.2,fun z=>by cases z⟩) (World.ownsRow_nil _ _ _ _) (by simp;omega))
   clear hsl HS
   go_wp2_with fail
   refine HALL.out.mono ?_
   rintro r w2 ⟨v2,rfl,ho2⟩
   have hq2:Quiet wr w2:=ho2.only.mono (fun k _ e=>by cases e)
   have hrow2:=ho2.row
   rw [List.nil_append] at hrow2
   obtain ⟨n,hnn⟩:∃ n,xs.length=n:=⟨_,rfl⟩
   have HN:=zh hnn
   obtain ⟨A2,c2,hv2,hc2,hcm2,hr2⟩:=Za hrow2
   rw [hnn] at hv2 hc2 hxl
   have HR2:=zh hr2
   have HM2:=zh (HM1.out.quietly hq2)
   have HSE2:=zh (HSE.out.kept hq2 (fun x=>x))
   have HKEY:=zh HM2.out.node.key
   subst hv2
   clear ho2 hq2 hrow2 hr2 hnn HALL HM1 HSE c0 c1 cf HMID
   go_wp2_with fail
   go_loopw [30,8,10] (fun ci cv _ wr=>∃ (j:Nat) (v':Value),j <= n/\ci=.int .i64 (j:Int)/\v'=cv/\Z6w w2 wr v' (Z0U ps (xs.take j))) (fun ci _ _ _=>n - (intOf ci).toNat)
   case atStart=>exact ⟨0,_,Nat.zero_le _,rfl,rfl,Z0.refl _ _,World.ownsRow_nil _ _ _ _,fun k e=>by cases e⟩
   case round =>
    obtain ⟨j,v',hj,rfl,rfl,hW⟩:=hrel
    have HW:=zh hW
    obtain ⟨Av,cv',hvv,_,_,_⟩:=Za hW.row
    obtain ⟨q,hq⟩:∃ q,(Z0U ps (xs.take j)).length=q:=⟨_,rfl⟩
    have hqn:q <= j:=by have:=Zhx ps (xs.take j);rw [List.length_take] at this;omega
    have HQL:=zh hq
    rw [hq] at hvv
    subst hvv
    clear hW hq
    by_cases hjn:j < n
    ·obtain ⟨x,hx⟩:∃ x,xs[j]?=some x:=⟨_,zg (by have:=HN.out;omega)⟩
     obtain ⟨b,off,rfl,r0,r1,r2⟩:=Z71 (HR2.out.kept HW.out.quiet (fun _ _ x=>x)) hx
     have HWA:=zh (HW.out.quietly ((Z0.refl (fun _=>False) wr).alloc (.cells #[.slice x.A x.e.key.length x.c,.int .i64 x.e.pg,.int .i64 x.e.sl] 103)))
     have HSE3:=zh (HSE2.out.kept HWA.out.quiet (fun x=>x))
     have HWF:=zh (HWE.out x (List.mem_of_getElem? hx))
     have HTS:=zh (Z3e hx)
     obtain ⟨x0,x1,x2⟩:=Z1N (Z4 wr (.cells #[.slice x.A x.e.key.length x.c,.int .i64 x.e.pg,.int .i64 x.e.sl] 103))
     have d0:(0:Int) <= (j:Int):=by omega
     have d1:(j:Int) < (n:Int):=by omega
     clear hx
     by_cases hin:Za8 ps x.e=true
     ·have HP:Hid (Z0U ps (xs.take (j+1))=Z0U ps (xs.take j)):=by
       show Z0U ps (xs.take (j+1))=Z0U ps (xs.take j)
       rw [HTS.out,Zj8 _ hin]
      have hin':decide ((x.e.pg,x.e.sl) ∈ ps)=true:=hin
      have HIN:=zh hin'
      clear hin hin'
      go_wp2_with (first | (at_lookup;refine Zal rfl _ _ rfl rfl rfl HSE3.out HWF.out HIN.out ?_) | fail)
      go_wp2
      go_roundw
      case rel=>exact ⟨j+1,_,by omega,by go_num,rfl,by rw [HP.out];exact HWA.out⟩
      case measure=>simp [intOf];omega
     ·have hin0:Za8 ps x.e=false:=by simpa using hin
      have HP:Hid (Z0U ps (xs.take (j+1))=Z0U ps (xs.take j) ++ [x]):=by
       show Z0U ps (xs.take (j+1))=Z0U ps (xs.take j) ++ [x]
       rw [HTS.out,Zhz _ hin0]
      have hin':decide ((x.e.pg,x.e.sl) ∈ ps)=false:=hin0
      have HIN:=zh hin'
      have HROW:Hid (((wr.alloc (.cells #[.slice x.A x.e.key.length x.c,.int .i64 x.e.pg,.int .i64 x.e.sl] 103)).alloc (.cells #[.slice x.A x.e.key.length x.c,.int .i64 x.e.pg,.int .i64 x.e.sl] 103)).ownsRow 0 103 3 (.slice Av q cv') q (Z01 (Z0U ps (xs.take j)))):=by
       have:=Z5 HWA.out.row ((Z0.refl (fun _=>False) _).alloc (.cells #[.slice x.A x.e.key.length x.c,.int .i64 x.e.pg,.int .i64 x.e.sl] 103)) (fun _ _ x=>x)
       rw [HQL.out] at this
       exact this
      have HQ4:=zh ((Z0.refl (fun _=>False) (wr.alloc (.cells #[.slice x.A x.e.key.length x.c,.int .i64 x.e.pg,.int .i64 x.e.sl] 103))).alloc (.cells #[.slice x.A x.e.key.length x.c,.int .i64 x.e.pg,.int .i64 x.e.sl] 103))
      have HRN:Hid (Rd ((wr.alloc (.cells #[.slice x.A x.e.key.length x.c,.int .i64 x.e.pg,.int .i64 x.e.sl] 103)).alloc (.cells #[.slice x.A x.e.key.length x.c,.int .i64 x.e.pg,.int .i64 x.e.sl] 103)) (fun _=>True) 3 (some ⟨wr.heap.size+1,0,none⟩) 1 x.cells):=by
       have:=Rd.new (wr.alloc (.cells #[.slice x.A x.e.key.length x.c,.int .i64 x.e.pg,.int .i64 x.e.sl] 103)) 3 1 x.cells 103 (fun _=>True) rfl trivial
       rw [World.size_alloc] at this
       exact this
      clear hin hin0 hin'
      go_wp2_with (first
        | (at_lookup;refine Zal rfl _ _ rfl rfl rfl HSE3.out HWF.out HIN.out ?_)
        | (at_builtin;refine app Z3o rfl (.tmp 39) (.tmp 41) rfl rfl HROW.out rfl HRN.out (Z20 [x]) (by unfold maxLen;omega) (by omega) ?_)
        | fail)
      intro v5 w5 hg5
      have hW5:=HWA.out.push HQL.out HQ4.out hg5
      rw [<- HP.out] at hW5
      have HW5:=zh hW5
      clear hg5 hW5 HROW HQ4 HWA r0 r1 r2 x0 x1 x2
      go_wp2
      go_roundw
      case rel=>exact ⟨j+1,_,by omega,by go_num,rfl,HW5.out⟩
      case measure=>simp [intOf];omega
    ·have hsx:xs.take j=xs:=List.take_of_length_le (by have:=HN.out;omega)
     have hW:=HW.out
     have hQL:=HQL.out
     rw [hsx] at hW hQL
     have HM3:=zh (HM2.out.quietly hW.quiet)
     obtain ⟨c0,c1,cf⟩:=HM3.out.cells
     rw [HN.out] at c1
     by_cases hqn2:q < n
     ·have hkey3:∀ y ∈ Z0U ps xs,Z1e wr K y:=fun y hy=>(HKEY.out y (ZhA hy)).quietly hW.quiet
      obtain ⟨A4,c4,hv4,hc4,hcm4,hrd4⟩:=Za hW.row
      rw [hQL] at hv4 hc4 hrd4
      injection hv4 with e1 _ e3
      subst e1 e3
      have HB:=zh (Zhv K _ (Z0U ps xs) Av q cv' wr hQL hrd4 hkey3 (fun k x=>(HM3.out.subK k x).2.2.2) hc4 hcm4 (by omega))
      have HPL2:=zh hQL
      have d0:((0:Int) < (n:Int) - (q:Int)):=by omega
      clear hsx hW hQL hkey3 hc4 hcm4 hrd4 HQL HW
      go_wp2_with fail
      refine HB.out.mono ?_
      rintro r w5 ⟨rb5,h5,F5,rfl,hq5,hn5,hF5⟩
      obtain ⟨k0,k1,kf⟩:=(HM3.out.quietly hq5).cells
      have HRES:Hid (Z8 (.returned (.int .i64 ((n:Int) - (q:Int)))) ((w5.setCell ⟨tb,0,none⟩ (ptrV rb5)).setCell ⟨tb,1,none⟩ (.int .i64 (q:Int)))):=by
       have h6:=HM3.out.built hq5 hn5 hF5 (c':=(q:Int)) (by rw [HPL2.out])
       rw [<- Ze.out]
       have h7:(Z11 ps (ents xs)).length=q:=by rw [<- Z3M,List.length_map,HPL2.out]
       refine ⟨by rw [HEX.out,HN.out,h7],h6.only,?_⟩
       have:=h6.is (by rw [HPL2.out]) (by rw [Z3M];exact HRIS.out.prune ps)
       rw [Z3M] at this
       exact this
      clear hn5 hF5 hq5 HB HM3 c0 c1 cf
      go_wp2
      exact HRES.out
     ·have hsame:=ZfA (ps:=ps) (xs:=xs) (by rw [hQL,HN.out];omega)
      have HRES:Hid (Z8 (.returned (.int .i64 ((n:Int) - (q:Int)))) wr):=by
       rw [<- Ze.out]
       have h7:(Z11 ps (ents xs)).length=q:=by rw [<- Z3M,List.length_map,hQL]
       refine ⟨by rw [HEX.out,HN.out,h7],HM3.out.only,?_⟩
       rw [<- Z3M,hsame]
       exact HM3.out.is rfl HRIS.out
      have d0:¬ ((0:Int) < (n:Int) - (q:Int)):=by omega
      clear hsx hW hQL hsame HQL HW
      go_wp2
      exact HRES.out
structure Zes (H H':List (List (Option Tup))) (pg sl:Int) (v u:Tup):Prop where
 get:∀ p s,ZM H' p s=if p=pg/\s=sl then some u else ZM H p s
 used:usedH H'=usedH H
 fit:∀ T ∈ H',Fits T
 len:H'.length=H.length
theorem stamp_size (v:Tup) (x:Nat) (p q:Int):(v.stamp x p q).size=v.size:=rfl
theorem ZdJ {H:List (List (Option Tup))} {pg sl p q:Int} {x:Nat} {v:Tup} (hfit:∀ T ∈ H,Fits T) (h:ZM H pg sl=some v) (hx:x <= 1099511627776) (hf:Z0O p q=false):∃ H',Z1l H pg sl x p q=(0,H')/\Zes H H' pg sl v (v.stamp x p q):=by
 have h0:¬ (pg < 0 ∨ (H.length:Int) <= pg):=fun x=>by rw [Z13 x] at h;cases h
 obtain ⟨k,rfl⟩:=Int.eq_ofNat_of_zero_le (show 0 <= pg by omega)
 have hk:k < H.length:=by omega
 obtain ⟨T,hT⟩:∃ T,H[k]?=some T:=⟨_,zg hk⟩
 have hg:ZY T sl=some v:=by rw [<- Z1f sl hT];exact h
 obtain ⟨s0,hs⟩:=Z2Y hg
 obtain ⟨j,rfl⟩:=Int.eq_ofNat_of_zero_le s0
 rw [Int.toNat_natCast] at hs
 have hj:j < T.length:=(zi.1 hs).1
 have hgd:H.getD k []=T:=by rw [List.getD_eq_getElem?_getD,hT];rfl
 have hp:Z02 T (j:Int) x p q=(0,T.set j (some (v.stamp x p q))):=by
  unfold Z02
  rw [if_neg (by rw [hf];simp;omega),hg]
  rfl
 refine ⟨H.set k (T.set j (some (v.stamp x p q))),?_,⟨fun a b=>?_,?_,fun T' hT'=>?_,by simp⟩⟩
 ·unfold Z1l
  rw [if_neg h0,Int.toNat_natCast,hgd,hp]
 ·rw [Z8n H k hk]
  by_cases e:a=(k:Int)
  ·subst e
   rw [if_pos rfl,Z6V T j hj]
   by_cases e2:b=(j:Int)
   ·rw [if_pos e2,if_pos ⟨rfl,e2⟩]
   ·rw [if_neg e2,if_neg (fun z=>e2 z.2),Z1f b hT]
  ·rw [if_neg e,if_neg (fun z=>e z.1)]
 ·have h1:=Z6W (T':=T.set j (some (v.stamp x p q))) hT
  have h2:=Z8m (u:=some (v.stamp x p q)) hs
  simp at h2
  omega
 ·rcases List.mem_or_eq_of_mem_set hT' with y | y
  ·exact hfit T' y
  ·rw [y]
   have:=hfit T (List.mem_of_getElem? hT)
   unfold Fits at this ⊢
   have h3:=Z5U Z0T T j (some v) (some (v.stamp x p q)) hs
   have e:Z0T (some (v.stamp x p q))=Z0T (some v):=rfl
   rw [List.length_set]
   omega
theorem Zbw (p:Int) (T:List (Option Tup)):(Zk p T T.length).length=Z0r T:=by
 have h:∀ (n:Nat),n <= T.length->(Zk p T n).length=Z0r (T.take n):=by
  intro n
  induction n with
  | zero=>intro _;rfl
  | succ n ih =>
   intro hn
   obtain ⟨s,hs⟩:∃ s,T[n]?=some s:=⟨_,zg (by omega)⟩
   have hi:=ih (by omega)
   have ht:T.take (n+1)=T.take n ++ [s]:=by rw [List.take_add_one,hs];rfl
   rw [ht,Z5H]
   cases s with
   | none=>rw [Z6y (by rw [hs];rfl),hi];rfl
   | some t=>rw [Z6z (t:=t) (by rw [hs];rfl),List.length_append,hi];rfl
 rw [h T.length (Nat.le_refl _),List.take_length]
theorem Z5Z (H:List (List (Option Tup))):∀ k,k <= H.length->(Zx H k).length=usedH (H.take k):=by
 intro k
 induction k with
 | zero=>intro _;rfl
 | succ k ih =>
  intro hk
  obtain ⟨T,hT⟩:∃ T,H[k]?=some T:=⟨_,zg (by omega)⟩
  show (Zx H k ++ Zk (k:Int) (H.getD k []) (H.getD k []).length).length=_
  have hg:H.getD k []=T:=by rw [List.getD_eq_getElem?_getD,hT];rfl
  rw [List.length_append,hg,Zbw,ih (by omega),Z92 hT]
theorem Za9 (p:Int) (T:List (Option Tup)) (n:Nat):(Zk p T n).Nodup:=by
 unfold Zk
 refine List.Pairwise.filterMap _ (fun a a' hne b hb b' hb' e=>?_) List.nodup_range
 simp at hb hb'
 subst e
 have:=hb.2.trans hb'.2.symm
 simp at this
 omega
theorem Zbx (H:List (List (Option Tup))) (k:Nat):(Zx H k).Nodup:=by
 induction k with
 | zero=>exact List.nodup_nil
 | succ k ih =>
  show (Zx H k ++ Zk (k:Int) (H.getD k []) (H.getD k []).length).Nodup
  rw [List.nodup_append]
  refine ⟨ih,Za9 _ _ _,fun a ha b hb e=>?_⟩
  subst e
  obtain ⟨h1,_⟩:=Z5e hb
  have:∀ j,j <= k->∀ x ∈ Zx H j,x.1 < (j:Int):=by
   intro j
   induction j with
   | zero=>intro _ x hx;cases hx
   | succ j ihj =>
    intro hj x hx
    rcases List.mem_append.1 hx with y | y
    ·have:=ihj (by omega) x y;omega
    ·obtain ⟨h,_⟩:=Z5e y;omega
  have:=this k (Nat.le_refl _) a ha
  omega
theorem Z1u.same {s:St} {a b:Nat} (h:Z1u s a) (k:Z1u s b):a=b:=by
 by_cases e:∃ x y,s.sn x=some y
 ·obtain ⟨x,y,e1,e2⟩:=h.some_ e
  obtain ⟨x',y',e3,e4⟩:=k.some_ e
  have h1:=h.least x' y' e3
  have h2:=k.least x y e1
  omega
 ·have e':∀ x,s.sn x=none:=fun x=>by
   rcases hx:s.sn x with _ | y
   ·rfl
   ·exact absurd ⟨x,y,hx⟩ e
  rw [h.none_ e',k.none_ e']
theorem Z9y {w:World} {sb id hz:Nat} {o:Nat->Nat} {s:St} {H:List (List (Option Tup))} {pg sl:Int} {v:Tup} (h:Zn w sb o s) (hid:U64 id) (hH:s.hs id=some H) (hg:ZM H pg sl=some v) (hx1:U64 v.xmin) (hx2:U64 v.xmax) :
  Calls Tryz.prog 130 #[ptrV sb,.int .u64 (id:Int),.agg #[.int .i64 pg,.int .i64 sl],.int .u64 (hz:Int)] w (Z0a w (Z0h s.L v.xmin v.xmax hz)):=by
 obtain ⟨lb,bb,pb,mh,mt,ms,fh,ft,fs,h⟩:=h
 obtain ⟨hb,hfh,hp⟩:=h.heaps.2 id H hH
 have HH:=zh h
 have HP:=zh hp
 have HF:=zh hfh
 have HID:=zh hid
 have HGV:=zh hg
 have HV1:=zh (And.intro hx1 hx2)
 obtain ⟨r,hrv⟩:∃ r,Z0h s.L v.xmin v.xmax hz=r:=⟨_,rfl⟩
 have HRV:=zh hrv
 obtain ⟨Z8,Z6⟩:∃ Z8,Z0a w (Z0h s.L v.xmin v.xmax hz)=Z8:=⟨_,rfl⟩
 rw [Z6]
 rw [hrv] at Z6
 have Ze:=zh Z6
 have hqb:Quiet w (w.alloc (.cells #[.int .i64 pg,.int .i64 sl] 48)):=(Z0.refl _ _).alloc _
 have hat:=Z4 w (.cells #[.int .i64 pg,.int .i64 sl] 48)
 obtain ⟨at_,hat_⟩:∃ at_,w.heap.size=at_:=⟨_,rfl⟩
 rw [hat_] at hat
 clear h hfh hp hid hg hx1 hx2 hrv Z6 hH
 go_enter Tryz.func130,Tryz.ntmps130
 go_wp2_with fail
 (try rw [hat_])
 generalize w.alloc (.cells #[.int .i64 pg,.int .i64 sl] 48)=wb at *
 have HQB:=zh hqb
 have HAT:=zh hat
 clear hqb hat hat_
 have HS5:Hid (∀ W,Quiet wb W->(fun w'=>w'.cell? ⟨sb,3,none⟩=some (.map (some mh))/\w'.cell? ⟨at_,0,none⟩=some (.int .i64 pg)/\w'.cell? ⟨at_,1,none⟩=some (.int .i64 sl)/\(Instr.lookup 66 (.map (some mh)) (.int .u64 (id:Int)) false).run Tryz.prog w'=.ok (ptrV hb) w') W):=fun W hq=>by
  have hq2:=HQB.out.trans hq
  have h2:=HH.out.quietly hq2
  have b7:=hq.get HAT.out (fun x=>x)
  exact ⟨h2.cells.2.2.2.1,by rw [Z1 b7];rfl,by rw [Z1 b7];rfl,Z1P h2.mH HF.out HID.out⟩
 have HGET:Hid (∀ W,Quiet wb W->Calls Tryz.prog 32 #[ptrV hb,.agg #[.int .i64 pg,.int .i64 sl]] W (Z2G W v)):=fun W hq=>Z4y pg sl v (HP.out.kept (HQB.out.trans hq) (fun _ _ x=>x)) HGV.out
 apply Za5 (wb:=wb) (t:=v)
 case main =>
       intro KEY
       refine zH HS5 (Z0.refl _ _).drew (fun Z3=>?_)
       have q0:Quiet wb wb.drew:=(Z0.refl _ _).drew
       generalize wb.drew=d0 at q0 Z3 ⊢
       refine zT 0 ?_
       refine zT 1 ?_
       refine zT 2 ?_
       refine zT 3 ?_
       refine zT 4 ?_
       refine zT 5 ?_
       refine zT 6 ?_
       refine wpAnyH_ready (rs:=[7,11]) (by kernel_rfl) (by simp) ?_
       refine zA ?_ ?_
       · intro K hK
         go_simp
         go_at_call 32
         refine (HGET.out _ q0).mono ?_
         rintro e d2 ⟨A4,c4,rfl,hf4⟩
         have q2:=q0.trans hf4.quiet
         have hown:=hf4.own
         have hfn:∀ k,(Value.slice A4 v.data.length c4).ownBlock=some k->wb.heap.size <= k:=fun k e=>Nat.le_trans (q0).size (hf4.new k e)
         clear hf4
         unfold ZC
         dsimp only
         refine hK.out _ _ ?_ (fun Z3=>?_)
         · exact HS5.out _ q2
         clear hK K
         (try simp only [Act.put,zPA,zPZ,zPS])
         refine zT 8 ?_
         refine zT 9 ?_
         refine zT 10 ?_
         refine zR 11 ?_
         intro K hK
         go_simp
         refine hK.out _ _ ?_ (fun Z3=>?_)
         · exact HS5.out _ (q2.alloc _)
         clear hK K
         (try simp only [Act.put,zPA,zPZ,zPS])
         have qd3:Quiet wb (d2.alloc (.cells #[.int .u64 0,.int .u64 0,.int .u64 0,.int .i64 0,.int .i64 0,.slice none 0 0] 96)):=q2.alloc _
         have hb1:=Z4 d2 (.cells #[.int .u64 0,.int .u64 0,.int .u64 0,.int .i64 0,.int .i64 0,.slice none 0 0] 96)
         have hnp:wb.heap.size <= d2.heap.size:=q2.size
         have hown:=Z5 hown ((Z0.refl (fun _=>False) d2).alloc (.cells #[.int .u64 0,.int .u64 0,.int .u64 0,.int .i64 0,.int .i64 0,.slice none 0 0] 96)) (fun _ _ x=>x)
         obtain ⟨pt,hpt⟩:∃ pt,d2.heap.size=pt:=⟨_,rfl⟩
         rw [hpt] at hb1 hnp ⊢
         generalize d2.alloc (.cells #[.int .u64 0,.int .u64 0,.int .u64 0,.int .i64 0,.int .i64 0,.slice none 0 0] 96)=d3 at *
         clear hpt
         obtain ⟨z0,z1,z2,z3,z4,z5⟩:=zC6 hb1
         have zf:=fun o=>Z7 hb1 o
         refine zR 12 ?_
         intro K hK
         go_simp
         refine hK.out _ _ ?_ (fun Z3=>?_)
         · exact HS5.out _ (Z1z qd3 hb1 hnp hown hfn).quiet
         clear hK K
         (try simp only [Act.put,zPA,zPZ,zPS])
         have HG:=Z1z qd3 hb1 hnp hown hfn
         unfold sixSet at HG
         refine zT 13 ?_
         refine zD ?_
         generalize ((((((d3.setCell ⟨pt,0,none⟩ (.int .u64 v.row)).setCell ⟨pt,1,none⟩ (.int .u64 v.xmin)).setCell ⟨pt,2,none⟩ (.int .u64 v.xmax)).setCell ⟨pt,3,none⟩ (.int .i64 v.pg)).setCell ⟨pt,4,none⟩ (.int .i64 v.sl)).setCell ⟨pt,5,none⟩ (.slice A4 v.data.length c4))=WF at HG ⊢
         exact KEY _ _ _ _ HG
       refine zA ?_ AllReadyH.nil
       intro K hK
       go_simp
       refine hK.out _ _ ?_ (fun Z3=>?_)
       · exact HS5.out _ (q0.alloc _)
       clear hK K
       (try simp only [Act.put,zPA,zPZ,zPS])
       have qd1:Quiet wb (d0.alloc (.cells #[.int .u64 0,.int .u64 0,.int .u64 0,.int .i64 0,.int .i64 0,.slice none 0 0] 96)):=q0.alloc _
       have hb1:=Z4 d0 (.cells #[.int .u64 0,.int .u64 0,.int .u64 0,.int .i64 0,.int .i64 0,.slice none 0 0] 96)
       have hnp:wb.heap.size <= d0.heap.size:=q0.size
       obtain ⟨pt,hpt⟩:∃ pt,d0.heap.size=pt:=⟨_,rfl⟩
       rw [hpt] at hb1 hnp ⊢
       generalize d0.alloc (.cells #[.int .u64 0,.int .u64 0,.int .u64 0,.int .i64 0,.int .i64 0,.slice none 0 0] 96)=d1 at *
       clear hpt
       refine zR 7 ?_
       intro K hK
       go_simp
       go_at_call 32
       refine (HGET.out _ qd1).mono ?_
       rintro e d2 ⟨A4,c4,rfl,hf4⟩
       have q2:=qd1.trans hf4.quiet
       have hb2:=hf4.quiet.get hb1 (fun x=>x)
       have hown:=hf4.own
       have hfn:∀ k,(Value.slice A4 v.data.length c4).ownBlock=some k->wb.heap.size <= k:=fun k e=>Nat.le_trans (qd1).size (hf4.new k e)
       clear hf4
       unfold ZC
       dsimp only
       refine hK.out _ _ ?_ (fun Z3=>?_)
       · exact HS5.out _ q2
       clear hK K
       (try simp only [Act.put,zPA,zPZ,zPS])
       obtain ⟨z0,z1,z2,z3,z4,z5⟩:=zC6 hb2
       have zf:=fun o=>Z7 hb2 o
       refine zT 8 ?_
       refine zT 9 ?_
       refine zT 10 ?_
       refine zR 12 ?_
       intro K hK
       go_simp
       refine hK.out _ _ ?_ (fun Z3=>?_)
       · exact HS5.out _ (Z1z q2 hb2 hnp hown hfn).quiet
       clear hK K
       (try simp only [Act.put,zPA,zPZ,zPS])
       have HG:=Z1z q2 hb2 hnp hown hfn
       unfold sixSet at HG
       refine zT 13 ?_
       refine zD ?_
       generalize ((((((d2.setCell ⟨pt,0,none⟩ (.int .u64 v.row)).setCell ⟨pt,1,none⟩ (.int .u64 v.xmin)).setCell ⟨pt,2,none⟩ (.int .u64 v.xmax)).setCell ⟨pt,3,none⟩ (.int .i64 v.pg)).setCell ⟨pt,4,none⟩ (.int .i64 v.sl)).setCell ⟨pt,5,none⟩ (.slice A4 v.data.length c4))=WF at HG ⊢
       exact KEY _ _ _ _ HG
 case key =>
  intro A4 c4 pt W HL0
  have HL:=zh HL0
  clear HL0 HS5 HGET
  have HQW:Hid (Quiet w W):=HQB.out.trans HL.out.quiet
  have HS6:Hid (∀ W',Quiet W W'->(fun w'=>w'.cell? ⟨sb,0,none⟩=some (ptrV lb)/\w'.cell? ⟨pt,0,none⟩=some (.int .u64 v.row)/\w'.cell? ⟨pt,1,none⟩=some (.int .u64 v.xmin)/\w'.cell? ⟨pt,2,none⟩=some (.int .u64 v.xmax)/\w'.cell? ⟨pt,3,none⟩=some (.int .i64 v.pg)/\w'.cell? ⟨pt,4,none⟩=some (.int .i64 v.sl)/\w'.cell? ⟨pt,5,none⟩=some (.slice A4 v.data.length c4)) W'):=fun W' hq=>by
   have bt:=hq.get HL.out.box (fun x=>x)
   refine ⟨((HH.out.quietly HQW.out).quietly hq).cells.1,?_,?_,?_,?_,?_,?_⟩ <;> (rw [Z1 bt];rfl)
  have HDEAD:Hid (∀ W',Quiet W W'->Calls Tryz.prog 33 #[ptrV lb,ZC v A4 c4,.int .u64 (hz:Int)] W' (Z0a W' r)):=fun W' hq=>by
   rw [<- HRV.out]
   exact ZaG v A4 c4 hz ((HH.out.quietly HQW.out).quietly hq).log HV1.out.1 HV1.out.2
  unfold ZC at HDEAD
  go_wp2_with fail
  refine zH HS6 (Z0.refl _ _).drew (fun Z3=>?_)
  have q6:Quiet W W.drew:=(Z0.refl _ _).drew
  generalize W.drew=d6 at q6 Z3 ⊢
  refine zT 0 ?_
  refine zT 1 ?_
  refine zT 2 ?_
  refine zT 3 ?_
  refine zT 4 ?_
  refine zT 5 ?_
  refine zT 6 ?_
  refine zT 7 ?_
  refine zR 8 ?_
  intro K hK
  go_simp
  go_at_call 33
  refine (HDEAD.out _ q6).mono ?_
  rintro e d7 ⟨rfl,hq7⟩
  have q7:=q6.trans hq7
  clear hq7
  dsimp only
  refine hK.out _ _ ?_ (fun Z3=>?_)
  ·exact HS6.out _ q7
  clear hK K
  (try simp only [Act.put,zPA,zPZ,zPS])
  refine zT 9 ?_
  refine zT 10 ?_
  refine zD ?_
  have Zc:Hid (Z8 (.returned (.bool r)) d7):=by
   rw [<- Ze.out]
   exact ⟨rfl,HQW.out.trans q7⟩
  clear Z3 q6 q7 HS6 HDEAD
  go_wp2
  exact Zc.out
theorem ZdK {w:World} {sb id:Nat} {o:Nat->Nat} {s:St} {H:List (List (Option Tup))} (h:Zn w sb o s) (hid:U64 id) (hH:s.hs id=some H) :
  Calls Tryz.prog 90 #[ptrV sb,.int .u64 (id:Int)] w (fun e w'=>e=.returned (.int .i64 (H.length:Int))/\Quiet w w'):=by
 obtain ⟨lb,bb,pb,mh,mt,ms,fh,ft,fs,h⟩:=h
 obtain ⟨_,_,_,c3,_⟩:=h.cells
 have lsb:=Zf c3
 dsimp only at lsb
 obtain ⟨hb,hf,hp⟩:=h.heaps.2 id H hH
 have hlk:=Z1P h.mH hf hid
 have HPG:=zh (Z91 hp)
 clear h hp hf
 go_enter Tryz.func90,Tryz.ntmps90
 go_wp2_with fail
 refine HPG.out.mono ?_
 rintro e w1 ⟨rfl,rfl⟩
 go_wp2
 go_ret
 exact ⟨rfl,Z0.refl _ _⟩
theorem Zaa {p:Int} {T:List (Option Tup)} {k:Nat} {H:List (List (Option Tup))} (hT:H[k]?=some T) (hp:p=(k:Int)) {a:Int × Int} (h:a ∈ Zk p T T.length):∃ v,ZM H a.1 a.2=some v:=by
 obtain ⟨e1,t,e2⟩:=Zc9 h
 exact ⟨t,by rw [e1,hp,Z1f _ hT];exact e2⟩
def Z2k (H:List (List (Option Tup))):Prop:=∀ pg sl v,ZM H pg sl=some v->U64 v.xmin/\U64 v.xmax
theorem ZcO {w:World} {sb id hz k N:Nat} {o:Nat->Nat} {s:St} {H:List (List (Option Tup))} {T:List (Option Tup)} (h:Zn w sb o s) (hid:U64 id) (hH:s.hs id=some H) (hT:H[k]?=some T) (hnum:Z2k H) (hh:Z1u s hz) (hL:s.L.length < 1000000000) (hN:∀ x y,s.sn x=some y->x <= N) (hN2:N <= 2000000) (hlen:(Zk (k:Int) T T.length).length <= 1000000) :
  Calls Tryz.prog 91 #[ptrV sb,.int .u64 (id:Int),.int .i64 (k:Int)] w (Z1h w ((Zk (k:Int) T T.length).filter (ZN s.L H hz))):=by
 have HST:=zh h
 obtain ⟨lb,bb,pb,mh,mt,ms,fh,ft,fs,h⟩:=h
 obtain ⟨_,_,_,c3,_⟩:=h.cells
 have lsb:=Zf c3
 dsimp only at lsb
 obtain ⟨hb,hf,hp⟩:=h.heaps.2 id H hH
 have hlk:=Z1P h.mH hf hid
 have HPL:=zh (Z98 k T hp hT)
 have HID:=zh hid
 have HHH:=zh hH
 have HNUM:=zh hnum
 have HHZ:=zh hh
 have HNN:=zh (And.intro hL (And.intro hN hN2))
 have HPN:Hid (∀ a ∈ Zk (k:Int) T T.length,∃ v,ZM H a.1 a.2=some v):=fun a ha=>Zaa hT rfl ha
 obtain ⟨Z8,Z6⟩:∃ Z8,Z1h w ((Zk (k:Int) T T.length).filter (ZN s.L H hz))=Z8:=⟨_,rfl⟩
 rw [Z6]
 obtain ⟨pl,hpl⟩:∃ pl,Zk (k:Int) T T.length=pl:=⟨_,rfl⟩
 rw [hpl] at HPL HPN Z6 hlen
 have Ze:=zh Z6
 obtain ⟨n,hn⟩:∃ n,pl.length=n:=⟨_,rfl⟩
 rw [hn] at hlen
 have HN:=zh hn
 clear h hp hf hid hH hT hnum hh hL hN hN2 Z6 hpl hn
 go_enter Tryz.func91,Tryz.ntmps91
 go_wp2_with fail
 refine HPL.out.mono ?_
 rintro e w1 ⟨vp,rfl,hq1,_,hr1⟩
 obtain ⟨A3,c3_,rfl,hc3,hm3,hrd⟩:=Za hr1
 have HQ1:=zh hq1
 have HLD:=zh hrd
 have hnn:=HN.out
 rw [hnn] at hc3 ⊢
 unfold maxLen at hm3
 clear hq1 hr1 hrd hnn HPL hlk
 go_wp2_with fail
 go_loopw [21,7,9] (fun i v _ wr=>∃ (k:Nat) (v':Value),k <= n/\i=.int .i64 (k:Int)/\v=v'/\Z1J w1 wr v' ((pl.take k).filter (ZN s.L H hz))) (fun i _ _ _=>n - (intOf i).toNat)
 case atStart=>exact ⟨0,_,Nat.zero_le _,rfl,rfl,Z1J.start (Z0.refl _ _)⟩
 case round =>
  obtain ⟨j,v',hk,rfl,rfl,hW⟩:=hrel
  have HW:=zh hW
  clear hW
  by_cases hlt:j < n
  ·obtain ⟨⟨pg,sl⟩,ha⟩:∃ a,pl[j]?=some a:=⟨_,zg (by have:=HN.out;omega)⟩
   obtain ⟨v,hgv⟩:=HPN.out (pg,sl) (List.mem_of_getElem? ha)
   obtain ⟨hx1,hx2⟩:=HNUM.out pg sl v hgv
   obtain ⟨bl,ofl,rfl,_,la,lb2⟩:=Z5K (HLD.out.kept HW.out.quiet (fun _ _ x=>x)) ha
   obtain ⟨r,hrv⟩:∃ r,Z0h s.L v.xmin v.xmax hz=r:=⟨_,rfl⟩
   have HTK:Hid ((pl.take (j+1)).filter (ZN s.L H hz)=(pl.take j).filter (ZN s.L H hz) ++ if r then [(pg,sl)] else []):=by
    show _=_
    rw [List.take_add_one,ha,Option.toList_some,List.filter_append]
    have e1:ZN s.L H hz (pg,sl)=r:=by unfold ZN;rw [hgv];exact hrv
    cases r <;> simp [e1]
   have HPLN:Hid (((pl.take j).filter (ZN s.L H hz)).length <= j):=by
    have h1:=List.length_filter_le (ZN s.L H hz) (pl.take j)
    rw [List.length_take] at h1
    show _ <= _
    omega
   have hqb:Quiet wr (wr.alloc (.cells #[.int .i64 pg,.int .i64 sl] 48)):=(Z0.refl _ _).alloc _
   have hat:=Z4 wr (.cells #[.int .i64 pg,.int .i64 sl] 48)
   obtain ⟨at_,hat_⟩:∃ at_,wr.heap.size=at_:=⟨_,rfl⟩
   rw [hat_] at hat
   have HQB:Hid (Quiet w (wr.alloc (.cells #[.int .i64 pg,.int .i64 sl] 48))):=(HQ1.out.trans HW.out.quiet).trans hqb
   have HWB:=zh (HW.out.quietly hqb)
   have HDD:Hid (∀ W,Quiet (wr.alloc (.cells #[.int .i64 pg,.int .i64 sl] 48)) W->Calls Tryz.prog 130 #[ptrV sb,.int .u64 (id:Int),.agg #[.int .i64 pg,.int .i64 sl],.int .u64 (hz:Int)] W (Z0a W r)):=fun W hq=>by
    rw [<- hrv]
    exact Z9y (HST.out.quietly (HQB.out.trans hq)) HID.out HHH.out hgv hx1 hx2
   have HHO:Hid (∀ W,Quiet (wr.alloc (.cells #[.int .i64 pg,.int .i64 sl] 48)) W->Calls Tryz.prog 30 #[ptrV sb] W (fun e w'=>e=.returned (.int .u64 (hz:Int))/\Quiet W w')):=fun W hq=>by
    refine (Z3g (HST.out.quietly (HQB.out.trans hq)) HNN.out.1 HNN.out.2.1 HNN.out.2.2).mono ?_
    rintro e w' ⟨z,rfl,hh,hq'⟩
    rw [hh.same HHZ.out]
    exact ⟨rfl,hq'⟩
   dsimp only at la lb2
   clear ha hgv hx1 hx2 hrv
   go_wp2_with fail
   (try rw [hat_])
   generalize wr.alloc (.cells #[.int .i64 pg,.int .i64 sl] 48)=wb at *
   have HAT:=zh hat
   clear la lb2 hat hqb hat_
   have HS6:Hid (∀ W,Quiet wb W->(fun w'=>w'.cell? ⟨at_,0,none⟩=some (.int .i64 pg)/\w'.cell? ⟨at_,1,none⟩=some (.int .i64 sl)) W):=fun W hq=>by
    have b7:=hq.get HAT.out (fun x=>x)
    exact ⟨by rw [Z1 b7];rfl,by rw [Z1 b7];rfl⟩
   generalize (pl.take j).filter (ZN s.L H hz)=fl at HWB HTK HPLN
   refine zH HS6 (Z0.refl _ _).drew (fun Z3=>?_)
   have q0:Quiet wb wb.drew:=(Z0.refl _ _).drew
   generalize wb.drew=d0 at q0 Z3 ⊢
   refine zT 0 ?_
   refine zT 1 ?_
   refine zT 2 ?_
   refine zT 3 ?_
   refine zR 4 ?_
   intro K hK
   go_simp
   go_at_call 30
   refine (HHO.out _ q0).mono ?_
   rintro e d1 ⟨rfl,hq1⟩
   have q1:=q0.trans hq1
   clear hq1
   dsimp only
   refine hK.out _ _ ?_ (fun Z3=>?_)
   ·exact HS6.out _ q1
   clear hK K
   (try simp only [Act.put,zPA,zPZ,zPS])
   refine zR 5 ?_
   intro K hK
   go_simp
   go_at_call 130
   refine (HDD.out _ q1).mono ?_
   rintro e d2 ⟨rfl,hq2⟩
   have q2:=q1.trans hq2
   clear hq2
   dsimp only
   refine hK.out _ _ ?_ (fun Z3=>?_)
   ·exact HS6.out _ q2
   clear hK K
   (try simp only [Act.put,zPA,zPZ,zPS])
   refine zD ?_
   have HW7:=zh (HWB.out.quietly q2)
   have HA7:=zh (q2.get HAT.out (fun x=>x))
   clear Z3 q0 q1 q2 HS6 HDD HHO HW HWB
   cases r with
   | false =>
    have Zc:=HW7
    rw [if_neg (by decide),List.append_nil] at HTK
    rw [<- HTK.out] at Zc
    go_wp2
    go_roundw
    case rel=>exact ⟨j+1,_,by omega,by go_num,rfl,Zc.out⟩
    case measure=>simp [intOf];omega
   | true =>
    rw [if_pos rfl] at HTK
    have a0:d2.cell? ⟨at_,0,none⟩=some (.int .i64 pg):=by rw [Z1 HA7.out];rfl
    have a1:d2.cell? ⟨at_,1,none⟩=some (.int .i64 sl):=by rw [Z1 HA7.out];rfl
    have lat:=Zf a0
    dsimp only at lat
    have HOWN:Hid (World.ownsRow (d2.alloc (.cells #[.int .i64 pg,.int .i64 sl] 48)) 0 48 2 u7 fl.length (ZU fl)):=Z5 HW7.out.row ((Z0.refl (fun _=>False) d2).alloc _) (fun _ _ x=>x)
    have HRD:=zh (Rd.new d2 2 1 (ZU [(pg,sl)]) 48 (fun _=>True) rfl trivial)
    have hfl:=HPLN.out
    go_wp2_with (at_builtin;refine app Z56 rfl (.tmp 31) (.tmp 33) rfl rfl HOWN.out rfl HRD.out (Z55 [(pg,sl)]) (by unfold maxLen;omega) (by omega) ?_)
    intro v4 w4 hg4
    have HP:=zh (HW7.out.step (p:=(pg,sl)) hg4)
    rw [<- HTK.out] at HP
    clear hg4 HOWN HRD
    go_wp2
    go_roundw
    case rel=>exact ⟨j+1,_,by omega,by go_num,rfl,HP.out⟩
    case measure=>simp [intOf];omega
  ·obtain rfl:j=n:=by omega
   have Zc:Hid (Z8 (.returned u7) wr):=by
    rw [<- Ze.out]
    have:=HW.out
    rw [List.take_of_length_le (by have:=HN.out;omega)] at this
    exact ⟨u7,rfl,HQ1.out.trans this.quiet,fun k e=>Nat.le_trans HQ1.out.size (this.own k e),this.row⟩
   go_wp2
   exact Zc.out
def Z9z (w:World) (sb:Nat) (o:Nat->Nat) (s:St) (id:Nat) (es:List Ent) (ps:List (Int × Int)) (e:Ending) (w':World):Prop :=
 e=.returned (.int .i64 ((es.length:Int) - ((Z11 ps es).length:Int)))/\Z0Z w sb o { s with ts:=upd s.ts id (some (Z11 ps es)) } w'
theorem ZcP {w:World} {sb id m c:Nat} {o:Nat->Nat} {s:St} {es:List Ent} {ps:List (Int × Int)} {A:Option Addr} {S:Nat->Prop} (h:Zn w sb o s) (hid:U64 id) (hts:s.ts id=some es) (hr:Rd w S 2 A m (ZU ps)) (hpl:ps.length=m) (hwp:∀ p ∈ ps,Wf p) (hwe:∀ e ∈ es,Wf (e.pg,e.sl)) (hm:m <= 10000) (hn:es.length <= 10000) :
  Calls Tryz.prog 93 #[ptrV sb,.int .u64 (id:Int),.slice A m c] w (Z9z w sb o s id es ps):=by
 obtain ⟨lb,bb,pb,mh,mt,ms,fh,ft,fs,h⟩:=h
 obtain ⟨_,_,_,_,c4,_⟩:=h.cells
 have lsb:=Zf c4
 dsimp only at lsb
 obtain ⟨tb,hf,ht⟩:=h.trees.2 id es hts
 have hlk:=Z7g h.mT hf hid
 have HPR:=zh (ZfB w (fun k=>o k=11+2 * id) tb es ps A m c S ht hr hpl hwp hwe hm hn)
 have HH:=zh h
 have HF:=zh hf
 obtain ⟨Z8,Z6⟩:∃ Z8,Z9z w sb o s id es ps=Z8:=⟨_,rfl⟩
 rw [Z6]
 have Ze:=zh Z6
 clear h hf ht hr hpl hwp hwe hm hn Z6
 go_enter Tryz.func93,Tryz.ntmps93
 go_wp2_with fail
 refine HPR.out.mono ?_
 rintro e w1 ⟨rfl,ho,ht⟩
 have Zc:Hid (Z8 (.returned (.int .i64 ((es.length:Int) - ((Z11 ps es).length:Int)))) w1):=by
  rw [<- Ze.out]
  have hst:=HH.out.setTree HF.out ho ht
  refine ⟨rfl,_,fun k hk=>Z0K hk,ho.mono (fun k _ x=>by omega),_,_,_,_,_,_,_,_,_,hst⟩
 clear ho ht HPR hlk
 go_wp2
 exact Zc.out
theorem Z9A {w:World} {S:Nat->Prop} {size n:Nat} {A:Option Addr} {xs:List Value} (h:Rd w S size A n xs):Rd w (fun k=>S k/\k < w.heap.size) size A n xs :=
 ⟨h.len,fun h0=>by
   obtain ⟨b,off,e,hb,hc⟩:=h.cells h0
   exact ⟨b,off,e,⟨hb,Zf (hc 0 _ (zg h0))⟩,hc⟩⟩
def Z7i (t:TE) (A:Option Addr) (c:Nat):List Value:=[.int .u64 (t.id:Int),.string t.name,.slice A t.cols.length c,.int .u64 (t.xmin:Int),.int .u64 (t.xmax:Int)]
theorem ZhB:Z0c Tryz.prog 120 90 5 64:=Z0c.mk' (.agg #[.int .u64 0,.string ⟨#[]⟩,.slice none 0 0,.int .u64 0,.int .u64 0]) Tryz.underlying120 (by kernel_rfl) rfl (by decide)
theorem ZhC:Z0c Tryz.prog 204 206 1 8:=Z0c.mk' (.pointer none) Tryz.underlying204 (by kernel_rfl) rfl (by decide)
theorem Zj9 (p:Nat):∀ u ∈ [ptrV p],u.oneCell'=true:=by
 intro u hu
 rw [List.mem_singleton] at hu
 rw [hu]
 rfl
theorem Zja (t:TE) (A:Option Addr) (c:Nat):∀ u ∈ Z7i t A c,u.oneCell'=true:=by
 intro u hu
 simp [Z7i] at hu
 rcases hu with rfl | rfl | rfl | rfl | rfl <;> rfl
structure Z5m (w wr:World) (t:TE) (b:Nat) (A:Option Addr) (c:Nat):Prop where
 quiet:Quiet w wr
 new:w.heap.size <= b/\b < wr.heap.size
 cells:wr.cell? ⟨b,0,none⟩=some (.int .u64 (t.id:Int))/\wr.cell? ⟨b,1,none⟩=some (.string t.name)/\wr.cell? ⟨b,2,none⟩=some (.slice A t.cols.length c)/\wr.cell? ⟨b,3,none⟩=some (.int .u64 (t.xmin:Int))/\wr.cell? ⟨b,4,none⟩=some (.int .u64 (t.xmax:Int))
 cols:Rd wr (fun k=>w.heap.size <= k/\k < wr.heap.size) 2 A t.cols.length (ZZ t.cols)/\t.cols.length <= c/\c <= maxLen
theorem Z5m.quietly {w wr w':World} {t:TE} {b c:Nat} {A:Option Addr} (h:Z5m w wr t b A c) (hq:Quiet wr w'):Z5m w w' t b A c :=
 ⟨h.quiet.trans hq,⟨h.new.1,Nat.lt_of_lt_of_le h.new.2 hq.size⟩,⟨hq.cell h.cells.1 (fun x=>x),hq.cell h.cells.2.1 (fun x=>x),hq.cell h.cells.2.2.1 (fun x=>x),hq.cell h.cells.2.2.2.1 (fun x=>x),hq.cell h.cells.2.2.2.2 (fun x=>x)⟩,
   (h.cols.1.kept hq (fun _ _ x=>x)).mono (fun k x=>⟨x.1,Nat.lt_of_lt_of_le x.2 hq.size⟩),h.cols.2⟩
def ZcQ (w:World) (t:TE) (e:Ending) (w':World):Prop:=∃ b cap A c,e=.returned (.slice (some ⟨b,0,none⟩) 1 cap)/\Z5m w w' t b A c
theorem ZdL {w wr w2 w4:World} {v:Value} {t:TE} {A:Option Addr} {c:Nat} (hq:Quiet w wr) (hf:Z38 wr w2 (.slice A t.cols.length c) t.cols) (hg:ZT (w2.alloc (.cells (Z7i t A c).toArray 90)) w4 90 5 (.slice none 0 0) v (0+1) ([] ++ Z7i t A c)):∃ b cap,v=.slice (some ⟨b,0,none⟩) 1 cap/\Z5m w w4 t b A c:=by
 have hown:=hg.own
 have hqa:Quiet w2 (w2.alloc (.cells (Z7i t A c).toArray 90)):=(Z0.refl (fun _=>False) w2).alloc _
 have hon:Quiet (w2.alloc (.cells (Z7i t A c).toArray 90)) w4:=hg.only.mono (fun k _ e=>by cases e)
 rcases ZB hown with ⟨_,e⟩ | ⟨b,cap,rfl,_,_⟩
 ·omega
 obtain ⟨cb,hcb⟩:=Zh hown (k:=b) rfl
 have hq2:=hf.quiet
 obtain ⟨A',c',e',hc1,hc2,hrd⟩:=Za hf.own
 injection e' with e1 _ e2
 subst e1 e2
 have hbl:w.heap.size <= b:=by
  rcases hg.loc with y | y
  ·cases y
  ·have e:(Value.slice (some ⟨b,0,none⟩) (0+1) cap).ownBlock=some b:=rfl
   rw [y] at e
   injection e with e
   have s1:=hq.size
   have s2:=hq2.size
   have s3:=hqa.size
   omega
 have c0:=hown.cells (by rfl) 0 (.int .u64 (t.id:Int)) rfl
 have c1:=hown.cells (by rfl) 1 (.string t.name) rfl
 have c2:=hown.cells (by rfl) 2 (.slice A t.cols.length c) rfl
 have c3:=hown.cells (by rfl) 3 (.int .u64 (t.xmin:Int)) rfl
 have c4:=hown.cells (by rfl) 4 (.int .u64 (t.xmax:Int)) rfl
 rw [Zl,Nat.zero_add] at c0 c1 c2 c3 c4
 refine ⟨b,cap,rfl,((hq.trans hq2).trans hqa).trans hon,⟨hbl,Z2 hcb⟩,⟨c0,c1,c2,c3,c4⟩,?_,hc1,hc2⟩
 refine (((Z9A hrd).kept hqa (fun _ _ x=>x)).kept hon (fun _ _ x=>x)).mono (fun k x=>⟨Nat.le_trans hq.size (hf.new k x.1),Nat.lt_of_lt_of_le x.2 (Nat.le_trans hqa.size hon.size)⟩)
theorem Z9B {w:World} {F:Nat->Prop} {bb last:Nat} {t:TE} {I:List IE} (h:ZV w F bb [t] I last) :
  Calls Tryz.prog 62 #[ptrV bb] w (ZcQ w t):=by
 obtain ⟨vT,tps,vI,ips,h,h2,h3⟩:=h
 obtain ⟨c0,_,_⟩:=h.cells
 obtain ⟨A,c,hv,hc,hm,hf⟩:=Z2v h.rowT
 subst hv
 obtain ⟨tb,htp,hta⟩:=h.tbl 0 t rfl
 obtain ⟨g,rfl,hg⟩:=hf 0 tb htp
 have HG:=zh hg
 have HTA:=zh hta
 have lbb:=Z2 h.box
 obtain ⟨Z8,Z6⟩:∃ Z8,ZcQ w t=Z8:=⟨_,rfl⟩
 rw [Z6]
 have Ze:=zh Z6
 unfold maxLen at hm
 rw [show ([t]:List TE).length=1 from rfl] at c0 hc
 clear h h2 h3 hf Z6 htp hta hg
 go_enter Tryz.func62,Tryz.ntmps62
 go_wp2
 go_loopw [13,3,5] (fun i v _ wr=>Quiet w wr/\((i=.int .i64 0/\v=.slice none 0 0) ∨ ∃ b cap A c,i=.int .i64 1/\v=.slice (some ⟨b,0,none⟩) 1 cap/\Z5m w wr t b A c)) (fun i _ _ _=>1 - (intOf i).toNat)
 case atStart=>exact ⟨Z0.refl _ _,Or.inl ⟨rfl,rfl⟩⟩
 case round =>
  obtain ⟨hq,hrel⟩:=hrel
  have HQ:=zh hq
  rcases hrel with ⟨rfl,rfl⟩ | ⟨b,cap,A2,c2,rfl,rfl,hO⟩
  ·have hg2:=hq.cell HG.out (fun x=>x)
   have HTO:=zh (Z9e (HTA.out.kept hq (fun _ _ x=>x)))
   have lg:=Zf hg2
   dsimp only at lg
   clear hq
   go_wp2_with fail
   refine HTO.out.mono ?_
   rintro e w2 ⟨A2,c2,rfl,hf2⟩
   have HF2:=zh hf2
   have HRD:=zh (Rd.new w2 5 1 (Z7i t A2 c2) 90 (fun _=>True) rfl trivial)
   have HOWN:=zh (World.ownsRow_nil (w2.alloc (.cells (Z7i t A2 c2).toArray 90)) 0 90 5)
   clear hf2 HTO hg2
   unfold Z0g
   go_wp2_with (at_builtin;refine app ZhB rfl (.tmp 17) (.tmp 20) rfl rfl HOWN.out rfl HRD.out (Zja t A2 c2) (by unfold maxLen;omega) (by omega) ?_)
   intro v4 w4 hg4
   obtain ⟨b4,cap4,rfl,hO4⟩:=ZdL HQ.out HF2.out hg4
   have HO4:=zh hO4
   clear hg4 hO4 HRD HOWN HF2
   go_wp2
   go_roundw
   case rel=>exact ⟨HO4.out.quiet,Or.inr ⟨b4,cap4,A2,c2,rfl,rfl,HO4.out⟩⟩
   case measure=>simp [intOf]
  ·have Zc:Hid (Z8 (.returned (.slice (some ⟨b,0,none⟩) 1 cap)) wr):=by
    rw [<- Ze.out]
    exact ⟨b,cap,A2,c2,rfl,hO⟩
   clear hO hq
   go_wp2
   exact Zc.out
def ZcR (w:World) (tb:Nat) (e:Ending) (w':World):Prop:=∃ b cap,e=.returned (.slice (some ⟨b,0,none⟩) 1 cap)/\Quiet w w'/\w.heap.size <= b/\w'.cell? ⟨b,0,none⟩=some (ptrV tb)
theorem ZcS {w wr w4:World} {v:Value} {tb:Nat} (hq:Quiet w wr) (hg:ZT (wr.alloc (.cells [ptrV tb].toArray 206)) w4 206 1 (.slice none 0 0) v (0+1) ([] ++ [ptrV tb])):∃ b cap,v=.slice (some ⟨b,0,none⟩) 1 cap/\Quiet w w4/\w.heap.size <= b/\w4.cell? ⟨b,0,none⟩=some (ptrV tb):=by
 have hown:=hg.own
 have hqa:Quiet wr (wr.alloc (.cells [ptrV tb].toArray 206)):=(Z0.refl (fun _=>False) wr).alloc _
 have hon:Quiet (wr.alloc (.cells [ptrV tb].toArray 206)) w4:=hg.only.mono (fun k _ e=>by cases e)
 rcases ZB hown with ⟨_,e⟩ | ⟨b,cap,rfl,_,_⟩
 ·omega
 have hbl:w.heap.size <= b:=by
  rcases hg.loc with y | y
  ·cases y
  ·have e:(Value.slice (some ⟨b,0,none⟩) (0+1) cap).ownBlock=some b:=rfl
   rw [y] at e
   injection e with e
   have s1:=hq.size
   have s3:=hqa.size
   omega
 have c0:=hown.cells (by rfl) 0 (ptrV tb) rfl
 rw [Zl,Nat.zero_add] at c0
 exact ⟨b,cap,rfl,(hq.trans hqa).trans hon,hbl,c0⟩
theorem ZdM {w:World} {F:Nat->Prop} {bb last tb:Nat} {t:TE} {vT vI:Value} (h:Z0z w F bb [t] vT [tb] vI [] last) :
  Calls Tryz.prog 96 #[ptrV bb] w (ZcR w tb):=by
 obtain ⟨c0,c1,_⟩:=h.cells
 obtain ⟨A,c,hv,hc,hm,hf⟩:=Z2v h.rowT
 obtain ⟨A',c',hv',hc',hm',_⟩:=Z2v h.rowI
 subst hv hv'
 obtain ⟨tb',htp,hta⟩:=h.tbl 0 t rfl
 obtain rfl:tb=tb':=by simpa using htp
 obtain ⟨g,rfl,hg⟩:=hf 0 tb rfl
 have HG:=zh hg
 have HTA:Hid (tb < w.heap.size):=by obtain ⟨_,_,hb,_⟩:=hta.ex;exact Z2 hb
 have HB:=zh h.box
 have lbb:=Z2 h.box
 obtain ⟨Z8,Z6⟩:∃ Z8,ZcR w tb=Z8:=⟨_,rfl⟩
 rw [Z6]
 have Ze:=zh Z6
 unfold maxLen at hm hm'
 rw [show ([t]:List TE).length=1 from rfl] at c0 hc HB
 rw [show ([]:List Nat).length=0 from rfl] at c1 HB
 clear h hf Z6 htp hta hg hc'
 go_enter Tryz.func96,Tryz.ntmps96
 go_wp2
 go_loopw [13,3,5] (fun i v _ wr=>Quiet w wr/\((i=.int .i64 0/\v=.slice none 0 0) ∨ ∃ b cap,i=.int .i64 1/\v=.slice (some ⟨b,0,none⟩) 1 cap/\w.heap.size <= b/\wr.cell? ⟨b,0,none⟩=some (ptrV tb))) (fun i _ _ _=>1 - (intOf i).toNat)
 case atStart=>exact ⟨Z0.refl _ _,Or.inl ⟨rfl,rfl⟩⟩
 case round =>
  obtain ⟨hq,hrel⟩:=hrel
  have HQ:=zh hq
  rcases hrel with ⟨rfl,rfl⟩ | ⟨b,cap,rfl,rfl,hb,hcell⟩
  ·have hg2:=hq.cell HG.out (fun x=>x)
   have lg:=Zf hg2
   dsimp only at lg
   have HRD:=zh (Rd.new wr 1 1 [ptrV tb] 206 (fun _=>True) rfl trivial)
   have HOWN:=zh (World.ownsRow_nil (wr.alloc (.cells [ptrV tb].toArray 206)) 0 206 1)
   clear hq
   go_wp2_with (at_builtin;refine app ZhC rfl (.tmp 17) (.tmp 21) rfl rfl HOWN.out rfl HRD.out (Zj9 tb) (by unfold maxLen;omega) (by omega) ?_)
   intro v4 w4 hg4
   obtain ⟨b4,cap4,rfl,q4,l4,c4⟩:=ZcS HQ.out hg4
   have HO4:=zh (And.intro q4 (And.intro l4 c4))
   clear hg4 q4 l4 c4 HRD HOWN hg2
   go_wp2
   go_roundw
   case rel=>exact ⟨HO4.out.1,Or.inr ⟨b4,cap4,rfl,rfl,HO4.out.2.1,HO4.out.2.2⟩⟩
   case measure=>simp [intOf]
  ·have HO:=zh (And.intro hb hcell)
   have hbx:=hq.get HB.out (fun x=>x)
   have d1:wr.cell? ⟨bb,1,none⟩=some (.slice A' 0 c'):=by rw [Z1 hbx];rfl
   have lbb2:=Zf d1
   dsimp only at lbb2
   clear hq hb hcell hbx c0 c1 lbb
   go_wp2
   go_loopw [29,3,7] (fun i v _ wr2=>wr2=wr/\i=.int .i64 0/\v=.slice (some ⟨b,0,none⟩) 1 cap) (fun _ _ _ _=>0)
   case atStart=>exact ⟨rfl,rfl,rfl⟩
   case round =>
    obtain ⟨rfl,rfl,rfl⟩:=hrel
    have Zc:Hid (Z8 (.returned (.slice (some ⟨b,0,none⟩) 1 cap)) wr):=by
     rw [<- Ze.out]
     exact ⟨b,cap,rfl,HQ.out,HO.out.1,HO.out.2⟩
    go_wp2
    exact Zc.out
theorem ZhD {w:World} {F:Nat->Prop} {bb lb last c tb:Nat} {A:Option Addr} {s:ZA} {t:TE} {name:ByteArray} {vT vI:Value} (h:Z0z w F bb [t] vT [tb] vI [] last) (hne:(t.name.toList == name.toList)=false) :
  Calls Tryz.prog 54 #[.pointer (some ⟨bb,0,none⟩),.pointer (some ⟨lb,0,none⟩),Zm s A c,.string name] w fun e w'=>e=.returned (.int .i64 0)/\Quiet w w':=by
 have HQ0:Hid (Quiet w (w.alloc (.cells (snapCells s A c) 76))):=(Z0.refl _ _).alloc _
 have HE:=zh (ZdM (h.kept HQ0.out (fun _ _ x=>x)))
 obtain ⟨tb',htp,hta⟩:=h.tbl 0 t rfl
 obtain rfl:tb=tb':=by simpa using htp
 have HTA:=zh hta
 obtain ⟨Z8,Z6⟩:∃ Z8:Ending->World->Prop,(fun e w'=>e=.returned (.int .i64 0)/\Quiet w w')=Z8:=⟨_,rfl⟩
 rw [Z6]
 have Ze:=zh Z6
 unfold Zm
 clear h Z6 htp hta
 go_enter Tryz.func54,Tryz.ntmps54
 go_wp2_with fail
 refine HE.out.mono ?_
 rintro e w1 ⟨b,cap,rfl,hq1,hb1,hc1⟩
 have HQ1:=zh (HQ0.out.trans hq1)
 have HC1:=zh hc1
 clear HE hq1 hb1 hc1
 go_wp2
 go_loopw [15,9,11,17,18,19,20,21,22,23,24,25] (fun i cd _ _ _ _ _ _ _ _ _ _ wr=>Quiet w1 wr/\cd=.int .i64 0/\(i=.int .i64 0 ∨ i=.int .i64 1)) (fun i _ _ _ _ _ _ _ _ _ _ _ _=>1 - (intOf i).toNat)
 case atStart=>exact ⟨Z0.refl _ _,rfl,Or.inl rfl⟩
 case round =>
  obtain ⟨hq,rfl,hrel⟩:=hrel
  have HQ:=zh hq
  rcases hrel with rfl | rfl
  ·have k0:=hq.cell HC1.out (fun x=>x)
   have lg:=Zf k0
   dsimp only at lg
   have k1:=(HTA.out.kept (HQ1.out.trans hq) (fun _ _ x=>x)).ent.c1
   clear hq
   go_wp2
   go_roundw
   case rel=>exact ⟨HQ.out,rfl,Or.inr rfl⟩
   case measure=>simp [intOf]
  ·have Zc:Hid (Z8 (.returned (.int .i64 0)) wr):=by
    rw [<- Ze.out]
    exact ⟨rfl,HQ1.out.trans HQ.out⟩
   clear hq
   go_wp2
   exact Zc.out
theorem ZfC (w:World) (o1 o2 o3 o4:Obj):Quiet w ((((w.alloc o1).alloc o2).alloc o3).alloc o4)/\((((w.alloc o1).alloc o2).alloc o3).alloc o4).heap[w.heap.size]?=some o1/\((((w.alloc o1).alloc o2).alloc o3).alloc o4).heap[w.heap.size+1]?=some o2/\((((w.alloc o1).alloc o2).alloc o3).alloc o4).heap[w.heap.size+1+1]?=some o3/\((((w.alloc o1).alloc o2).alloc o3).alloc o4).heap[w.heap.size+1+1+1]?=some o4:=by
 have h2:=Z4 (w.alloc o1) o2
 have h3:=Z4 ((w.alloc o1).alloc o2) o3
 have h4:=Z4 (((w.alloc o1).alloc o2).alloc o3) o4
 simp only [World.size_alloc] at h2 h3 h4
 exact ⟨((((Z0.refl _ _).alloc _).alloc _).alloc _).alloc _,Zd (Zd (Zd (Z4 w o1) o2) o3) o4,Zd (Zd h2 o3) o4,Zd h3 o4,h4⟩
def Z2U (s:St) (hz:Nat):Prop:=(∀ t ∈ s.T,Z0h s.L t.xmin t.xmax hz=false)/\∀ x ∈ s.I,Z0h s.L x.xmin x.xmax hz=false
theorem ZhE {w:World} {cb kd:Nat} {nm:ByteArray} (hc:w.cell? ⟨cb,0,none⟩=some (.string nm)) :
  Calls Tryz.prog 60 #[.agg #[.string nm,.int .u8 (kd:Int)],ptrV cb] w (Z0a w true):=by
 have hl:=Zf hc
 dsimp only at hl
 have hne:¬ cb=w.heap.size:=by omega
 go_enter Tryz.func60,Tryz.ntmps60
 go_wp2
 go_ret
 exact ⟨rfl,(Z0.refl _ _).alloc _⟩
theorem ZhF {w:World} {S:Nat->Prop} {A:Option Addr} {c kd cb:Nat} {nm:ByteArray} (hr:Rd w S 2 A 1 (ZZ [(nm,kd)])) (hc:1 <= c) (hm:c <= maxLen) (hcb:w.cell? ⟨cb,0,none⟩=some (.string nm)) :
  Calls Tryz.prog 59 #[.slice A 1 c,.func (.func 60) #[] #[ptrV cb]] w fun e w'=>e=.returned (.int .i64 0)/\Quiet w w':=by
 obtain ⟨b,off,rfl,_,hcs⟩:=hr.at_ (k:=0) (by omega) (by omega)
 obtain ⟨u0,h0,c0⟩:=hcs 0 (by omega)
 obtain ⟨u1,h1,c1⟩:=hcs 1 (by omega)
 obtain rfl:Value.string nm=u0:=Option.some.inj h0
 obtain rfl:Value.int .u8 (kd:Int)=u1:=Option.some.inj h1
 simp only [Nat.zero_mul,Nat.add_zero,Nat.zero_add] at c0 c1
 have HC:=zh hcb
 have hb:=Zf c0
 dsimp only at hb
 unfold maxLen at hm
 clear hr hcs h0 h1 hcb
 go_enter Tryz.func59,Tryz.ntmps59
 go_wp2
 refine wp_loop_rounds 2 ?_
 rw [rounds_succ]
 go_wp2_with fail
 refine (ZhE (kd:=kd) HC.out).mono ?_
 rintro e w1 ⟨rfl,hq1⟩
 have HQ1:=zh hq1
 clear hq1
 go_wp2
 go_ret
 exact ⟨rfl,HQ1.out⟩
theorem Z0z.indexed {w5 w7:World} {F:Nat->Prop} {bb last tb:Nat} {vT vI v7:Value} {t:TE} {e:IE} (h:Z0z w5 F bb [t] vT [tb] vI [] last)
  (hn:U64 e.id/\U64 e.xmin/\U64 e.xmax/\U64 e.table/\e.column < 8)
  (hg:ZT ((w5.alloc (.cells #[.int .u64 (e.id:Int),.string e.name,.int .u64 (e.xmin:Int),.int .u64 (e.xmax:Int),.int .u64 (e.table:Int),.int .i64 (e.column:Int)] 155)).alloc (.cells #[ptrV w5.heap.size] 153)) w7 153 1 vI v7 1 [ptrV w5.heap.size]) :
  ZV (w7.setCell ⟨bb,1,none⟩ v7) (fun k=>F k ∨ w5.heap.size <= k) bb [t] [e] last/\Z0 F w5 (w7.setCell ⟨bb,1,none⟩ v7)/\Z2f (w7.setCell ⟨bb,1,none⟩ v7) (fun k=>F k ∨ w5.heap.size <= k) w5.heap.size e:=by
 have hvi:∀ k,vI.ownBlock=some k->F k/\k < w5.heap.size/\k ≠ bb/\∃ c,w5.heap[k]?=some (.cells c 153 (0,0)):=fun k e=>by
  obtain ⟨c,hh⟩:=Zh h.rowI e
  exact ⟨h.foot.2.2 k e,Z2 hh,(Zb h.box hh (by decide)).symm,c,hh⟩
 have hvt:∀ k,vT.ownBlock=some k->k < w5.heap.size/\k ≠ bb/\vI.ownBlock ≠ some k:=fun k e=>by
  obtain ⟨c,hh⟩:=Zh h.rowT e
  refine ⟨Z2 hh,(Zb h.box hh (by decide)).symm,fun x=>?_⟩
  obtain ⟨_,_,_,c',hh'⟩:=hvi k x
  exact absurd rfl (Zb hh hh' (by decide))
 have hl:=Z2 h.box
 have hq:Quiet w5 ((w5.alloc (.cells #[.int .u64 (e.id:Int),.string e.name,.int .u64 (e.xmin:Int),.int .u64 (e.xmax:Int),.int .u64 (e.table:Int),.int .i64 (e.column:Int)] 155)).alloc (.cells #[ptrV w5.heap.size] 153)):=((Z0.refl _ _).alloc _).alloc _
 have b4:=hg.only.get (hq.get h.box (fun x=>x)) (fun e=>(hvi bb e).2.2.1 rfl)
 have hx7:=hg.only.get (Zd (Z4 w5 (.cells #[.int .u64 (e.id:Int),.string e.name,.int .u64 (e.xmin:Int),.int .u64 (e.xmax:Int),.int .u64 (e.table:Int),.int .i64 (e.column:Int)] 155)) (.cells #[ptrV w5.heap.size] 153)) (fun e=>by have:=(hvi _ e).2.1;omega)
 have ho:Z0 (·=bb) w7 (w7.setCell ⟨bb,1,none⟩ v7):=(Z0.refl (·=bb) w7).setCell (p:=⟨bb,1,none⟩) (fun _=>rfl) v7
 have hne:¬ w5.heap.size=bb:=by omega
 have hv7:∀ k,v7.ownBlock=some k->(F k ∨ w5.heap.size <= k)/\k ≠ bb:=fun k e=>by
  rcases hg.loc with x | x
  ·rw [x] at e;exact ⟨Or.inl (hvi k e).1,(hvi k e).2.2.1⟩
  ·rw [x] at e;injection e with e;simp only [World.size_alloc] at e;exact ⟨Or.inr (by omega),by omega⟩
 have xb:=ho.get hx7 hne
 have hIX:Z2f (w7.setCell ⟨bb,1,none⟩ v7) (fun k=>F k ∨ w5.heap.size <= k) w5.heap.size e:=⟨xb,Or.inr (Nat.le_refl _),hn⟩
 refine ⟨⟨vT,[tb],v7,[w5.heap.size],⟨?_,?_,?_,?_,⟨Or.inl h.foot.1,fun k e=>Or.inl (h.foot.2.1 k e),fun k e=>(hv7 k e).1⟩,h.num⟩,rfl,?_⟩,?_,hIX⟩
 ·rw [Zg b4];rfl
 ·exact Z5 (Z5 (Z5 h.rowT hq (fun _ _ x=>x)) hg.only (fun k e x=>(hvt k e).2.2 x)) ho (fun k e x=>(hvt k e).2.1 x)
 ·exact Z5 hg.own ho (fun k e x=>(hv7 k e).2 x)
 ·intro i t' hi
  rcases i with _ | i
  ·simp at hi
   subst hi
   obtain ⟨p,hp,ht⟩:=h.tbl 0 t rfl
   obtain rfl:tb=p:=by simpa using hp
   obtain ⟨A',c',t1,t2⟩:=ht.typ
   obtain ⟨A,c,hb,hr,hc⟩:=ht.ex
   have e0:=hb.symm.trans t1
   injection e0 with e0
   injection e0 with e0 _ _
   injection e0 with e0
   injection e0 with _ e0
   injection e0 with _ e0
   injection e0 with _ e0
   injection e0 with _ e0
   injection e0 with e0 _
   injection e0 with eA _ eC
   subst eA eC
   have g1:tb ≠ bb:=Zb hb h.box (by decide)
   have g2:∀ k,vI.ownBlock=some k->tb ≠ k:=fun k e=>by
    obtain ⟨_,_,_,c',hh'⟩:=hvi k e
    exact Zb hb hh' (by decide)
   have k1:∀ g,(Value.slice A t.cols.length c).ownBlock=some g->g ≠ bb/\vI.ownBlock ≠ some g:=fun g e=>by
    obtain ⟨cur,hh⟩:=(t2 g e).2
    refine ⟨Zb hh h.box (by decide),fun x=>?_⟩
    obtain ⟨_,_,_,c',hh'⟩:=hvi g x
    exact absurd rfl (Zb hh hh' (by decide))
   have tow:∀ k x,w5.heap[k]?=some x->k ≠ bb->vI.ownBlock ≠ some k->(w7.setCell ⟨bb,1,none⟩ v7).heap[k]?=some x:=fun k x hx a b=>ho.get (hg.only.get (hq.get hx (fun x=>x)) b) a
   have hb7:=tow _ _ hb g1 (fun x=>g2 _ x rfl)
   refine ⟨tb,rfl,⟨A,c,hb7,⟨hr.len,fun h0=>?_⟩,hc⟩,Or.inl ht.own,ht.pos,ht.num,A,c,hb7,fun g e=>⟨Or.inl (t2 g e).1,by obtain ⟨cur,hh⟩:=(t2 g e).2;exact ⟨cur,tow _ _ hh (k1 g e).1 (k1 g e).2⟩⟩⟩
   obtain ⟨b,off,e1,hb1,hcell⟩:=hr.cells h0
   subst e1
   refine ⟨b,off,rfl,Or.inl hb1,fun j u hu=>?_⟩
   have k2:=k1 b rfl
   exact ho.cell (hg.only.cell (hq.cell (hcell j u hu) (fun x=>x)) k2.2) k2.1
  ·simp at hi
 ·intro i e' hi
  rcases i with _ | i
  ·simp at hi
   subst hi
   exact ⟨w5.heap.size,rfl,hIX⟩
  ·simp at hi
 ·exact ((hq.mono (T:=F) (fun _ _ x=>x.elim)).trans' hg.only (fun k _ e=>(hvi k e).1)).trans' ho (fun k _ e=>by subst e;exact h.foot.1)
theorem Zjb:Z0c Tryz.prog 130 153 1 8:=Z0c.mk' (.pointer none) Tryz.underlying130 (by kernel_rfl) rfl (by decide)
def Zb4 (w:World) (F:Nat->Prop) (bb last:Nat) (t:TE) (x:IE) (e:Ending) (w':World):Prop :=
 e=.returned (.tuple #[.agg (Z5d x).toArray,.int .i64 0])/\Z0 F w w'/\ZV w' (fun k=>F k ∨ w.heap.size <= k) bb [t] [x] (last+1)
theorem ZdN (w:World) (o1 o2 o3:Obj):Quiet w (((w.alloc o1).alloc o2).alloc o3)/\(((w.alloc o1).alloc o2).alloc o3).heap[w.heap.size]?=some o1/\(((w.alloc o1).alloc o2).alloc o3).heap[w.heap.size+1]?=some o2/\(((w.alloc o1).alloc o2).alloc o3).heap[w.heap.size+1+1]?=some o3:=by
 have h2:=Z4 (w.alloc o1) o2
 have h3:=Z4 ((w.alloc o1).alloc o2) o3
 simp only [World.size_alloc] at h2 h3
 exact ⟨(((Z0.refl _ _).alloc _).alloc _).alloc _,Zd (Zd (Z4 w o1) o2) o3,Zd h2 o3,h3⟩
theorem ZfD {w:World} {F Fl Ss:Nat->Prop} {bb lb last c kd:Nat} {A:Option Addr} {L:List Nat} {s:ZA} {t:TE} {name of_ nm:ByteArray} (h:ZV w F bb [t] [] last) (hl:ZJ w Fl lb L) (hs:Z0I w Ss A c s) (hlast:last < 1000000)
  (hc:t.cols=[(nm,kd)]) (hf:Z1r L s of_ [t]=some 0) (hnm:Z2M name) (hne:(t.name.toList == name.toList)=false) (hid:U64 t.id) (hu:U64 s.own) (hF:∀ k,F k->k < w.heap.size) :
  Calls Tryz.prog 27 #[ptrV bb,ptrV lb,Zm s A c,.string name,.string of_,.string nm] w (Zb4 w F bb last t ⟨last+1,name,t.id,0,s.own,0⟩):=by
 obtain ⟨vT,tps,vI,ips,hrow,hi0,_⟩:=h
 have hips:ips=[]:=List.eq_nil_of_length_eq_zero hi0
 subst hips
 obtain ⟨tb,htp,_⟩:=hrow.tbl 0 t rfl
 obtain rfl:tps=[tb]:=by
  have:=hrow.tlen
  rcases tps with _ | ⟨a,_ | _⟩
  ·cases this
  ·simp at htp;rw [htp]
  ·cases this
 have HROW:=zh hrow
 have HLOG:=zh hl
 have HSN:=zh hs
 have HC:=zh hc
 have HF:=zh hf
 have HNUM:=zh (And.intro hid hu)
 have HNM:Hid (∀ W,Calls Tryz.prog 52 #[.string name] W (Z0a W true)):=fun W=>Z6Z name hnm W
 have HNE:=zh hne
 have HFW:=zh hF
 obtain ⟨hq3,hb8,hb11,hb12⟩:=ZdN w (.cells (snapCells s A c) 76) (.cells #[.string nm] 9) (.cells #[.int .u64 0,.string ⟨#[]⟩,.int .u64 0,.int .i64 0,.int .u64 0,.int .u64 0] 84)
 obtain ⟨r8,hr8⟩:∃ r8,w.heap.size=r8:=⟨_,rfl⟩
 obtain ⟨r11,hr11⟩:∃ r11,r8+1=r11:=⟨_,rfl⟩
 obtain ⟨r12,hr12⟩:∃ r12,r11+1=r12:=⟨_,rfl⟩
 rw [hr8] at hb8 hb11 hb12
 rw [hr11] at hb11 hb12
 rw [hr12] at hb12
 have HR:=zh (And.intro hr8 (And.intro hr11 hr12))
 obtain ⟨Z8,Z6⟩:∃ Z8,Zb4 w F bb last t ⟨last+1,name,t.id,0,s.own,0⟩=Z8:=⟨_,rfl⟩
 rw [Z6]
 have Ze:=zh Z6
 unfold Zm
 clear hrow hl hs hc hf hnm hne hid hu hi0 htp Z6 hF
 go_enter Tryz.func27,Tryz.ntmps27
 go_wp2_with fail
 (try simp only [World.size_alloc] at *)
 (try rw [hr8]);(try rw [hr11]);(try rw [hr12])
 generalize ((w.alloc (.cells (snapCells s A c) 76)).alloc (.cells #[.string nm] 9)).alloc (.cells #[.int .u64 0,.string ⟨#[]⟩,.int .u64 0,.int .i64 0,.int .u64 0,.int .u64 0] 84)=w0 at *
 have HQ0:=zh hq3
 have HB0:=zh (And.intro hb8 (And.intro hb11 hb12))
 clear hq3 hb8 hb11 hb12 hr8 hr11 hr12
 refine (HNM.out _).mono ?_
 rintro e w1 ⟨rfl,hq1⟩
 have HQ1:=zh (HQ0.out.trans hq1)
 have HQ01:=zh hq1
 obtain ⟨s0,s1,s2,s3⟩:=Z07 (hq1.get HB0.out.1 (fun x=>x))
 have HTB:Hid (Calls Tryz.prog 58 #[.pointer (some ⟨bb,0,none⟩),.pointer (some ⟨lb,0,none⟩),Zm s A c,.string of_] w1 (Z7I w1 [tb] (Z1r L s of_ [t]))):=Z9f of_ (HROW.out.kept HQ1.out (fun _ _ x=>x)) (HLOG.out.kept HQ1.out (fun _ _ x=>x)) (HSN.out.kept HQ1.out (fun _ _ x=>x))
 rw [HF.out] at HTB
 unfold Zm at HTB
 clear hq1 HNM
 go_wp2_with fail
 refine HTB.out.mono ?_
 rintro e w2 ⟨⟨p,hp,rfl⟩,hq2⟩
 obtain rfl:tb=p:=by simpa using hp
 have HQ2:=zh (HQ1.out.trans hq2)
 have HQ02:=zh (HQ01.out.trans hq2)
 obtain ⟨_,htp2,hta⟩:=(HROW.out.kept HQ2.out (fun _ _ x=>x)).tbl 0 t rfl
 obtain rfl:tb=_:=by simpa using htp2
 obtain ⟨AT,cT,hbt,hrt,hct,hmt⟩:=hta.ex
 have ct4:w2.cell? ⟨tb,4,none⟩=some (.slice AT t.cols.length cT):=by rw [Z1 hbt];rfl
 have lt4:=Zf ct4
 dsimp only at lt4
 have cc:w2.cell? ⟨r11,0,none⟩=some (.string nm):=by rw [Z1 (HQ02.out.get HB0.out.2.1 (fun x=>x))];rfl
 have HIX:Hid (Calls Tryz.prog 59 #[.slice AT t.cols.length cT,.func (.func 60) #[] #[ptrV r11]] w2 fun e w'=>e=.returned (.int .i64 0)/\Quiet w2 w'):=by
  rw [HC.out] at hrt hct ⊢
  exact ZhF (kd:=kd) hrt hct hmt cc
 clear s0 s1 s2 s3 hp hq2 htp2 hta hbt hrt hct hmt cc HTB
 go_wp2_with fail
 refine HIX.out.mono ?_
 rintro e w3 ⟨rfl,hq3⟩
 have HQ3:=zh (HQ2.out.trans hq3)
 have HQ03:=zh (HQ02.out.trans hq3)
 obtain ⟨s0,s1,s2,s3⟩:=Z07 (HQ03.out.get HB0.out.1 (fun x=>x))
 have HTK:Hid (Calls Tryz.prog 54 #[.pointer (some ⟨bb,0,none⟩),.pointer (some ⟨lb,0,none⟩),Zm s A c,.string name] w3 fun e w'=>e=.returned (.int .i64 0)/\Quiet w3 w'):=ZhD (HROW.out.kept HQ3.out (fun _ _ x=>x)) HNE.out
 unfold Zm at HTK
 clear ct4 lt4 hq3 HIX
 go_wp2_with fail
 refine HTK.out.mono ?_
 rintro e w4 ⟨rfl,hq4⟩
 have HQ4:=zh (HQ3.out.trans hq4)
 have HQ04:=zh (HQ03.out.trans hq4)
 have hrow4:=HROW.out.kept HQ4.out (fun _ _ x=>x)
 obtain ⟨_,k1,_⟩:=hrow4.cells
 obtain ⟨AI,cI,hvI,hcI,hmI,_⟩:=Z2v hrow4.rowI
 subst hvI
 have lbb:=Zf k1
 dsimp only at lbb
 have hb8:=HQ04.out.get HB0.out.1 (fun x=>x)
 obtain ⟨_,htp4,hta4⟩:=hrow4.tbl 0 t rfl
 obtain rfl:tb=_:=by simpa using htp4
 obtain ⟨AT4,cT4,hbt4,_⟩:=hta4.ex
 have hne8:r8 ≠ bb:=fun e=>by have:=HR.out.1;have:=Z2 HROW.out.box;omega
 have hnet:tb ≠ bb:=Zb hbt4 hrow4.box (by decide)
 have HS16:Hid (∀ W,Z0 (·=bb) w4 W->(fun w'=>w'.cell? ⟨r8,0,none⟩=some (.int .u64 (s.own:Int))/\w'.cell? ⟨r8,1,none⟩=some (.int .u64 (s.xmin:Int))/\w'.cell? ⟨r8,2,none⟩=some (.int .u64 (s.xmax:Int))/\w'.cell? ⟨r8,3,none⟩=some (.slice A s.run.length c)/\w'.cell? ⟨tb,0,none⟩=some (.int .u64 (t.id:Int))) W):=fun W ho=>by
  obtain ⟨s0,s1,s2,s3⟩:=Z07 (ho.get hb8 hne8)
  exact ⟨s0,s1,s2,s3,by rw [Z1 (ho.get hbt4 hnet)];rfl⟩
 have HFR:Hid (∀ W,Quiet w4 W->Calls Tryz.prog 55 #[.pointer (some ⟨bb,0,none⟩),.agg #[.int .u64 (s.own:Int),.int .u64 (s.xmin:Int),.int .u64 (s.xmax:Int),.slice A s.run.length c],.string name] W (Z6i W F bb [t] vT [tb] (.slice AI 0 cI) [] last s.own name)):=fun W hq=>Z9g (hrow4.kept hq (fun _ _ x=>x)) hlast
 clear s0 s1 s2 s3 hq4 hrow4 htp4 hta4 hb8 hbt4 HTK hcI
 unfold maxLen at hmI
 go_wp2_with fail
 refine zH HS16 ((Z0.refl _ _).drew) (fun Z3=>?_)
 have q0:Quiet w4 w4.drew:=(Z0.refl _ _).drew
 generalize w4.drew=d0 at q0 Z3 ⊢
 refine zT 0 ?_
 refine zT 1 ?_
 refine zT 2 ?_
 refine zT 4 ?_
 refine zT 5 ?_
 refine zT 6 ?_
 refine zT 7 ?_
 refine zT 8 ?_
 refine zT 9 ?_
 refine zR 3 ?_
 intro K hK
 go_simp
 go_at_call 55
 refine (HFR.out _ q0).mono ?_
 rintro e d1 ⟨rfl,ho1,hr1⟩
 dsimp only
 refine hK.out _ _ ?_ (fun Z3=>?_)
 ·exact HS16.out _ ((q0.mono (fun _ _ x=>x.elim)).trans ho1)
 clear hK K
 (try simp only [Act.put,zPA,zPZ,zPS])
 refine zT 10 ?_
 refine zR 11 ?_
 intro K hK
 go_simp
 refine hK.out _ _ ?_ (fun Z3=>?_)
 ·exact HS16.out _ (((q0.mono (fun _ _ x=>x.elim)).trans ho1).alloc _)
 clear hK K
 (try simp only [Act.put,zPA,zPZ,zPS])
 refine zT 12 ?_
 refine zD ?_
 obtain ⟨_,k1,_⟩:=hr1.cells
 have HOWN:Hid (World.ownsRow ((d1.alloc (.cells #[.int .u64 ((last:Int)+1),.string name,.int .u64 (s.own:Int),.int .u64 0,.int .u64 (t.id:Int),.int .i64 0] 155)).alloc (.cells #[ptrV d1.heap.size] 153)) 0 153 1 (.slice AI 0 cI) 0 []):=Z5 hr1.rowI (((Z0.refl (fun _=>False) d1).alloc _).alloc _) (fun _ _ x=>x)
 have HRD:Hid (Rd ((d1.alloc (.cells #[.int .u64 ((last:Int)+1),.string name,.int .u64 (s.own:Int),.int .u64 0,.int .u64 (t.id:Int),.int .i64 0] 155)).alloc (.cells #[ptrV d1.heap.size] 153)) (fun _=>True) 1 (some ⟨d1.heap.size+1,0,none⟩) 1 [ptrV d1.heap.size]):=by
  have:=Rd.one (d1.alloc (.cells #[.int .u64 ((last:Int)+1),.string name,.int .u64 (s.own:Int),.int .u64 0,.int .u64 (t.id:Int),.int .i64 0] 155)) (ptrV d1.heap.size) 153 (0,0) (S:=fun _=>True) trivial
  rw [World.size_alloc] at this
  exact this
 have HQD:Hid (Z0 (·=bb) w4 d1):=(q0.mono (fun _ _ x=>x.elim)).trans ho1
 have hr12:r12 ≠ bb:=fun e=>by have:=HR.out;have:=Z2 HROW.out.box;omega
 have hb12:=HQD.out.get (HQ04.out.get HB0.out.2.2 (fun x=>x)) hr12
 have HR1:=zh hr1
 have HB12:=zh (And.intro hb12 hr12)
 have lb1:=Z2 hr1.box
 have hbx1:¬ bb=d1.heap.size:=by omega
 have hbx2:¬ bb=d1.heap.size+1:=by omega
 clear Z3 q0 ho1 hr1 hb12 hr12 HS16 HFR hne8 hnet k1
 obtain ⟨_,k1,_⟩:=HR1.out.cells
 have kf:=fun o=>Z7 HR1.out.box o
 go_wp2_with (at_builtin;refine app Zjb rfl (.tmp 76) (.tmp 78) rfl rfl HOWN.out rfl HRD.out (Z3v [d1.heap.size]) (by unfold maxLen;omega) (by omega) ?_)
 intro v7 w7 hg7
 obtain ⟨A7,c7,hv7,_,_,_⟩:=Za hg7.own
 subst hv7
 have HFI:=zh (HR1.out.indexed (e:=⟨last+1,name,t.id,0,s.own,0⟩) ⟨by show last+1 < 18446744073709551616;omega,HNUM.out.2,by show 0 < 18446744073709551616;omega,HNUM.out.1,by show 0 < 8;omega⟩ hg7)
 have hqa:Quiet d1 ((d1.alloc (.cells #[.int .u64 ((last:Int)+1),.string name,.int .u64 (s.own:Int),.int .u64 0,.int .u64 (t.id:Int),.int .i64 0] 155)).alloc (.cells #[ptrV d1.heap.size] 153)):=((Z0.refl _ _).alloc _).alloc _
 have b7:=hg7.only.get (hqa.get HR1.out.box (fun x=>x)) (fun e=>by
   obtain ⟨c,hh⟩:=Zh HR1.out.rowI e
   exact absurd rfl (Zb HR1.out.box hh (by decide)))
 have r7:=hg7.only.get (hqa.get HB12.out.1 (fun x=>x)) (fun e=>by
   obtain ⟨c,hh⟩:=Zh HR1.out.rowI e
   exact absurd rfl (Zb HB12.out.1 hh (by decide)))
 have r8_:=((Z0.refl (·=bb) w7).setCell (p:=⟨bb,1,none⟩) (fun _=>rfl) (.slice A7 (0+1) c7)).get r7 HB12.out.2
 have HB8:=zh r8_
 have s1:=Z1 b7 1
 have sf:=fun o=>Z7 b7 o
 simp only [zGA,zGS,zGZ] at s1
 have lb7:=Z2 b7
 have HTO:=zh (Z9t HFI.out.2.2)
 clear hg7 hqa b7 r7 r8_ HOWN HRD k1 kf hbx1 hbx2
 simp only [Nat.zero_add] at HFI HB8 HTO
 go_wp2_with fail
 (try simp only [Nat.zero_add])
 refine HTO.out.mono ?_
 rintro e w9 ⟨rfl,hq9⟩
 have hb9:=hq9.get HB8.out (fun x=>x)
 obtain ⟨z0,z1,z2,z3,z4,z5⟩:=zC6 hb9
 have zf:=fun o=>Z7 hb9 o
 have HX:=zh (Z1a hb9 (.int .u64 ((last:Int)+1)) (.string name) (.int .u64 (t.id:Int)) (.int .i64 0) (.int .u64 (s.own:Int)) (.int .u64 0))
 have Zc:Hid (Z8 (.returned (.tuple #[.agg #[.int .u64 ((last:Int)+1),.string name,.int .u64 (t.id:Int),.int .i64 0,.int .u64 (s.own:Int),.int .u64 0],.int .i64 0])) (sixSet w9 r12 (.int .u64 ((last:Int)+1)) (.string name) (.int .u64 (t.id:Int)) (.int .i64 0) (.int .u64 (s.own:Int)) (.int .u64 0))):=by
  rw [<- Ze.out]
  have ho:=Z0L w9 r12 (.int .u64 ((last:Int)+1)) (.string name) (.int .u64 (t.id:Int)) (.int .i64 0) (.int .u64 (s.own:Int)) (.int .u64 0)
  have hl12:=Z2 HB12.out.1
  have hr:=HR.out
  have z4':=HQ4.out.size
  have zd:=HQD.out.size
  refine ⟨rfl,((((HQ4.out.mono (T:=F) (fun _ _ x=>x.elim)).trans' HQD.out (fun k _ e=>by subst e;exact HROW.out.foot.1)).trans HFI.out.2.1).trans' hq9 (fun _ _ x=>x.elim)).trans' ho (fun k hk e=>by omega),?_⟩
  refine ((HFI.out.1.kept hq9 (fun _ _ x=>x)).kept ho (fun k hk e=>?_)).mono (fun k hk=>?_)
  ·subst e
   rcases hk with a | a
   ·have:=HFW.out _ a;omega
   ·omega
  ·rcases hk with a | a
   ·exact Or.inl a
   ·exact Or.inr (by omega)
 unfold sixSet at HX Zc
 clear hq9 hb9 HTO HFI HB8
 go_wp2
 exact bodyPost_ret (ZG Tryz.results27 _ _ r12 _ _ (0,0) _ (by rfl) HX.out Tryz.underlying84 rfl ZcJ) (by rfl) Zc.out
section
variable {w w':World} {sb:Nat} {o:Nat->Nat} {s:St} {lb bb pb mh mt ms:Nat} {fh ft fs:Nat->Option Value}
theorem Zj.newTree {id tb B:Nat} {es:List Ent} (h:Zj w sb o s lb bb pb mh mt ms fh ft fs) (hB:∀ k,B <= k->o k=0) (hBw:B <= w.heap.size) (ho:Z0 (fun k=>k=mt) w w') (hm:Z0f w' mt (upd ft id (some (ptrV tb)))) (hl:Z0x w' (fun k=>B <= k) tb es) :
  Zj w' sb (grow o B w'.heap.size (11+2 * id)) { s with ts:=upd s.ts id (some es) } lb bb pb mh mt ms fh (upd ft id (some (ptrV tb))) fs:=by
 obtain ⟨t1,t2,t3,t4,t5⟩:=h.tags
 have hg:Z0J o (grow o B w'.heap.size (11+2 * id)):=Z0J.grow hB
 have hn:∀ k,k=mt->o k=7:=fun k x=>by rw [x];exact t4
 refine ⟨ho.get h.box (fun x=>by have:=hn _ x;omega),Z4B h.log ho hg (by omega) (fun k x=>by have:=hn _ x;omega),Z3f h.book ho hg (by omega) (fun k x=>by have:=hn _ x;omega),h.pool.kept ho (fun x=>by have:=hn _ x;omega),
   h.mH.kept ho (fun x=>by have:=hn _ x;omega),hm,h.mS.kept ho (fun x=>by have:=hn _ x;omega),⟨by rw [hg _ (by omega)];exact t1,by rw [hg _ (by omega)];exact t2,by rw [hg _ (by omega)];exact t3,by rw [hg _ (by omega)];exact t4,by rw [hg _ (by omega)];exact t5⟩,fun k hk=>Z3q hB (Nat.le_trans hBw ho.size) hk,
   Z3I h.heaps ho hg (fun k x i H _=>by have:=hn _ x;omega),⟨fun i hi=>?_,fun i es' hi=>?_⟩,Z35 h.snaps ho hg (fun k x=>by have:=hn _ x;omega),h.num⟩
 ·by_cases e:i=id
  ·subst e;simp [upd] at hi
  ·have:=h.trees.1 i (by simpa [upd,e] using hi)
   simpa [upd,e] using this
 ·by_cases e:i=id
  ·subst e
   have:es=es':=by simpa [upd] using hi
   subst this
   exact ⟨tb,by simp [upd],hl.mono (fun k hk hlt=>Z2w hk hlt)⟩
  ·obtain ⟨tb2,e2,h2⟩:=h.trees.2 i es' (by simpa [upd,e] using hi)
   exact ⟨tb2,by simpa [upd,e] using e2,ZbI h2 ho hg (by omega) (fun k x=>by have:=hn _ x;omega)⟩
end
theorem Zb5:Z0c Tryz.prog 53 3 1 8:=Z0c.mk' (.int .i64 0) Tryz.underlying53 (by kernel_rfl) rfl (by decide)
def Z9C (l:List Nat):List Value:=l.map (fun (n:Nat)=>.int .i64 (n:Int))
theorem ZcT (n:Nat):∀ u ∈ [Value.int .i64 (n:Int)],u.oneCell'=true:=by
 intro u hu
 rw [List.mem_singleton] at hu
 rw [hu]
 rfl
structure Z27 (w wr:World) (v:Value) (l:List Nat):Prop where
 quiet:Quiet w wr
 new:∀ k,v.ownBlock=some k->w.heap.size <= k
 own:wr.ownsRow 0 3 1 v l.length (Z9C l)
theorem Z27.start {w wr:World} (h:Quiet w wr):Z27 w wr (.slice none 0 0) []:=⟨h,(fun k e=>by cases e),World.ownsRow_nil _ _ _ _⟩
theorem Z27.quietly {w wr w':World} {v:Value} {l:List Nat} (h:Z27 w wr v l) (hq:Quiet wr w'):Z27 w w' v l:=⟨h.quiet.trans hq,h.new,Z5 h.own hq (fun _ _ x=>x)⟩
theorem Z27.from {w0 w wr:World} {v:Value} {l:List Nat} (h:Z27 w wr v l) (hq:Quiet w0 w):Z27 w0 wr v l:=⟨hq.trans h.quiet,fun k e=>Nat.le_trans hq.size (h.new k e),h.own⟩
theorem Z27.push {w w3 w4:World} {v v':Value} {l:List Nat} {n:Nat} (h:Z27 w w3 v l) (hg:ZT w3 w4 3 1 v v' (l.length+1) (Z9C l ++ [.int .i64 (n:Int)])):Z27 w w4 v' (l ++ [n]):=by
 have hsz:=h.quiet.size
 refine ⟨h.quiet.trans' hg.only (fun k hk e=>by have:=h.new k e;omega),fun k e=>?_,?_⟩
 ·rcases hg.loc with y | y
  ·rw [y] at e;exact h.new k e
  ·rw [y] at e;injection e with e;omega
 ·rw [List.length_append]
  have e1:Z9C (l ++ [n])=Z9C l ++ [.int .i64 (n:Int)]:=by simp [Z9C]
  rw [e1]
  exact hg.own
def Z2b (w:World) (l:List Nat) (e:Ending) (w':World):Prop:=∃ v,e=.returned v/\Z27 w w' v l
theorem Z1Z.join {w wr w4:World} {v v':Value} {l m:List IE} (h:Z1Z w wr v l) (hg:ZT wr w4 84 6 v v' (l.length+m.length) (idxV l ++ idxV m)):Z1Z w w4 v' (l ++ m):=by
 have hsz:=h.quiet.size
 refine ⟨h.quiet.trans' hg.only (fun k hk e=>by have:=h.new k e;omega),fun k e=>?_,?_⟩
 ·rcases hg.loc with y | y
  ·rw [y] at e;exact h.new k e
  ·rw [y] at e;injection e with e;omega
 ·rw [List.length_append,Z81]
  exact hg.own
theorem Zjc (l:List IE):∀ u ∈ idxV l,u.oneCell'=true:=by
 intro u hu
 obtain ⟨e,_,h⟩:=List.mem_flatMap.1 hu
 exact Zeg e u h
def Z8z (w:World) (t:TE) (e:Ending) (w':World):Prop:=∃ A c,e=.returned (Z0g t A c)/\Quiet w w'/\Rd w' (fun k=>w.heap.size <= k) 2 A t.cols.length (ZZ t.cols)/\t.cols.length <= c/\c <= maxLen
theorem ZdO {w:World} {sb:Nat} {o:Nat->Nat} {s:St} {t:TE} (h:Zn w sb o s) (hT:s.T=[t]) :
  Calls Tryz.prog 29 #[ptrV sb,.int .u64 (t.id:Int)] w (Z8z w t):=by
 obtain ⟨lb,bb,pb,mh,mt,ms,fh,ft,fs,h⟩:=h
 obtain ⟨_,c1,_⟩:=h.cells
 have hbk:=h.book
 rw [hT] at hbk
 have lsb:=Zf c1
 dsimp only at lsb
 have hq0:Quiet w (w.alloc (.cells #[.int .u64 0,.string ⟨#[]⟩,.slice none 0 0,.int .u64 0,.int .u64 0] 90)):=(Z0.refl _ _).alloc _
 have hb4:=Z4 w (.cells #[.int .u64 0,.string ⟨#[]⟩,.slice none 0 0,.int .u64 0,.int .u64 0] 90)
 have HTB:=zh (Z9B (hbk.kept hq0 (fun _ _ x=>x)))
 obtain ⟨r4,hr4⟩:∃ r4,w.heap.size=r4:=⟨_,rfl⟩
 rw [hr4] at hb4
 have HQ0:=zh hq0
 have HB4:=zh hb4
 have HR4:=zh hr4
 obtain ⟨Z8,Z6⟩:∃ Z8,Z8z w t=Z8:=⟨_,rfl⟩
 rw [Z6]
 have Ze:=zh Z6
 have hne:¬ sb=w.heap.size:=by omega
 have hne4:¬ sb=r4:=by omega
 have lsb4:sb < r4:=by omega
 clear h hbk Z6
 go_enter Tryz.func29,Tryz.ntmps29
 go_wp2_with fail
 (try rw [hr4])
 generalize w.alloc (.cells #[.int .u64 0,.string ⟨#[]⟩,.slice none 0 0,.int .u64 0,.int .u64 0] 90)=w0 at *
 clear hq0 hb4 hr4
 refine HTB.out.mono ?_
 rintro e w1 ⟨b,cap,A,c,rfl,hO⟩
 have HO:=zh hO
 obtain ⟨t0,t1,t2,t3,t4⟩:=hO.cells
 have lb1:=Zf t0
 dsimp only at lb1
 have hb4:=hO.quiet.get HB4.out (fun x=>x)
 obtain ⟨z0,z1,z2,z3,z4⟩:=zC5 hb4
 have zf:=fun o=>Z7 hb4 o
 have lr4:=Z2 hb4
 have hEQ:((t.id:Int) == (t.id:Int))=true:=by simp
 have HX:=zh (Zd (Z2i hb4 (.int .u64 (t.id:Int)) (.string t.name) (.slice A t.cols.length c) (.int .u64 (t.xmin:Int)) (.int .u64 (t.xmax:Int))) (.cells #[.int .u64 (t.id:Int),.string t.name,.slice A t.cols.length c,.int .u64 (t.xmin:Int),.int .u64 (t.xmax:Int)] 90))
 have Zc:Hid (Z8 (.returned (Z0g t A c)) ((fiveSet w1 r4 (.int .u64 (t.id:Int)) (.string t.name) (.slice A t.cols.length c) (.int .u64 (t.xmin:Int)) (.int .u64 (t.xmax:Int))).alloc (.cells #[.int .u64 (t.id:Int),.string t.name,.slice A t.cols.length c,.int .u64 (t.xmin:Int),.int .u64 (t.xmax:Int)] 90))):=by
  rw [<- Ze.out]
  have ho:=Z1w w1 r4 (.int .u64 (t.id:Int)) (.string t.name) (.slice A t.cols.length c) (.int .u64 (t.xmin:Int)) (.int .u64 (t.xmax:Int))
  have hqa:Quiet (fiveSet w1 r4 (.int .u64 (t.id:Int)) (.string t.name) (.slice A t.cols.length c) (.int .u64 (t.xmin:Int)) (.int .u64 (t.xmax:Int))) ((fiveSet w1 r4 (.int .u64 (t.id:Int)) (.string t.name) (.slice A t.cols.length c) (.int .u64 (t.xmin:Int)) (.int .u64 (t.xmax:Int))).alloc (.cells #[.int .u64 (t.id:Int),.string t.name,.slice A t.cols.length c,.int .u64 (t.xmin:Int),.int .u64 (t.xmax:Int)] 90)):=(Z0.refl _ _).alloc _
  have hz:=HQ0.out.size
  have hl:=Z2 HB4.out
  refine ⟨A,c,rfl,((HQ0.out.trans HO.out.quiet).trans' ho (fun k hk e=>by have:=HR4.out;omega)).trans hqa,((HO.out.cols.1.kept ho (fun k hk e=>by have:=hk.1;omega)).kept hqa (fun _ _ x=>x)).mono (fun k hk=>by have:=hk.1;omega),HO.out.cols.2.1,HO.out.cols.2.2⟩
 unfold fiveSet at HX Zc
 unfold Z0g at Zc
 clear hO hb4 HTB
 go_wp2
 refine wp_loop_rounds 1 ?_
 rw [rounds_succ]
 go_wp2
 exact bodyPost_ret (Z0j Tryz.results29 _ _ r4 _ _ (0,0) _ (by rfl) HX.out Tryz.underlying90 rfl Z58) (by rfl) Zc.out
def Z3t (w:World) (t:TE) (l:List IE) (e:Ending) (w':World):Prop:=∃ b cap A c v,e=.returned (.tuple #[.slice (some ⟨b,0,none⟩) 1 cap,v])/\Z5m w w' t b A c/\Z1Z w w' v l
theorem Z6q {w:World} {sb:Nat} {o:Nat->Nat} {s:St} {t:TE} (h:Zn w sb o s) (hT:s.T=[t]) (hI:s.I.length <= 1000) :
  Calls Tryz.prog 46 #[ptrV sb] w (Z3t w t (ZQ s.L t.id s.I)):=by
 obtain ⟨lb,bb,pb,mh,mt,ms,fh,ft,fs,h⟩:=h
 obtain ⟨c0,c1,_⟩:=h.cells
 have hbk:=h.book
 rw [hT] at hbk
 have lsb:=Zf c1
 dsimp only at lsb
 have HTB:=zh (Z9B hbk)
 have HBK:=zh hbk
 have HLG:=zh h.log
 have HI:=zh hI
 obtain ⟨Z8,Z6⟩:∃ Z8,Z3t w t (ZQ s.L t.id s.I)=Z8:=⟨_,rfl⟩
 rw [Z6]
 have Ze:=zh Z6
 clear h hbk Z6
 go_enter Tryz.func46,Tryz.ntmps46
 go_wp2_with fail
 refine HTB.out.mono ?_
 rintro e w1 ⟨b,cap,A,c,rfl,hO⟩
 obtain ⟨t0,t1,t2,t3,t4⟩:=hO.cells
 have lb1:=Zf t0
 dsimp only at lb1
 have hqa:Quiet w1 (w1.alloc (.cells #[.int .u64 (t.id:Int),.string t.name,.slice A t.cols.length c,.int .u64 (t.xmin:Int),.int .u64 (t.xmax:Int)] 90)):=(Z0.refl _ _).alloc _
 have hba:=Z4 w1 (.cells #[.int .u64 (t.id:Int),.string t.name,.slice A t.cols.length c,.int .u64 (t.xmin:Int),.int .u64 (t.xmax:Int)] 90)
 obtain ⟨r7,hr7⟩:∃ r7,w1.heap.size=r7:=⟨_,rfl⟩
 rw [hr7] at hba
 have HO:=zh (hO.quietly hqa)
 have HBA:=zh hba
 have HR7:=zh hr7
 have HC:=zh (And.intro c0 c1)
 clear hO HTB hba c0
 go_wp2
 refine wp_loop_rounds 2 ?_
 rw [rounds_succ]
 go_wp2_with fail
 (try rw [hr7])
 generalize w1.alloc (.cells #[.int .u64 (t.id:Int),.string t.name,.slice A t.cols.length c,.int .u64 (t.xmin:Int),.int .u64 (t.xmax:Int)] 90)=w2 at *
 have hq2:=HO.out.quiet
 clear hqa hr7 t0 t1 t2 t3 t4 lb1
 have HS8:Hid (∀ W,Quiet w2 W->(fun w'=>w'.cell? ⟨sb,1,none⟩=some (ptrV bb)/\w'.cell? ⟨sb,0,none⟩=some (ptrV lb)/\w'.cell? ⟨r7,0,none⟩=some (.int .u64 (t.id:Int))) W):=fun W hq=>⟨(hq2.trans hq).cell HC.out.2 (fun x=>x),(hq2.trans hq).cell HC.out.1 (fun x=>x),by rw [Z1 (hq.get HBA.out (fun x=>x))];rfl⟩
 have HKEEP:Hid (∀ W,Quiet w2 W->Calls Tryz.prog 80 #[ptrV bb,ptrV lb,.int .u64 (t.id:Int)] W (Z6p W (ZQ s.L t.id s.I))):=fun W hq=>ZaX (HBK.out.kept (hq2.trans hq) (fun _ _ x=>x)) (HLG.out.kept (hq2.trans hq) (fun _ _ x=>x)) HI.out
 have HLK:Hid ((ZQ s.L t.id s.I).length <= 1000):=Nat.le_trans (List.length_filter_le _ _) HI.out
 obtain ⟨kl,hkl⟩:∃ kl,ZQ s.L t.id s.I=kl:=⟨_,rfl⟩
 rw [hkl] at HKEEP Ze HLK
 clear hkl
 obtain ⟨m,hm⟩:∃ m,kl.length=m:=⟨_,rfl⟩
 have HM:=zh hm
 rw [hm] at HLK
 clear hm hq2 c1
 refine zH HS8 ((Z0.refl _ _).drew) (fun Z3=>?_)
 have q0:Quiet w2 w2.drew:=(Z0.refl _ _).drew
 generalize w2.drew=d0 at q0 Z3 ⊢
 refine zT 0 ?_
 refine zT 1 ?_
 refine zT 2 ?_
 refine zT 3 ?_
 refine zT 4 ?_
 refine zT 5 ?_
 refine zT 6 ?_
 refine zT 7 ?_
 refine zT 8 ?_
 refine zT 9 ?_
 refine zT 10 ?_
 refine zR 11 ?_
 intro K hK
 go_simp
 go_at_call 80
 refine (HKEEP.out _ q0).mono ?_
 rintro e d1 ⟨vk,rfl,hkw⟩
 obtain ⟨Ak,ck,rfl,hck,hmk,hrk⟩:=Za hkw.own
 have hkm:=HM.out
 rw [hkm] at hck hrk ⊢
 have q1:=q0.trans hkw.quiet
 dsimp only
 refine hK.out _ _ ?_ (fun Z3=>?_)
 ·exact HS8.out _ q1
 clear hK K
 (try simp only [Act.put,zPA,zPZ,zPS])
 refine zR 12 ?_
 intro K hK
 refine Z0B ZcK rfl (.tmp 21) (.tmp 32) rfl rfl (World.ownsRow_nil _ _ _ _) rfl hrk (Zjc kl) (by have:=HLK.out;unfold maxLen;omega) (by have:=HLK.out;omega) ?_
 intro v3 d3 hg3
 have q3:Quiet w2 d3:=q1.trans (hg3.only.mono (fun k _ e=>by cases e))
 have hiw:Z1Z w d3 v3 kl:=(Z1Z.start (HO.out.quiet.trans q1)).join (l:=[]) (by rw [hkm];exact hg3)
 clear hg3
 refine hK.out _ _ ?_ (fun Z3=>?_)
 ·exact HS8.out _ q3
 clear hK K
 (try simp only [Act.put,zPA,zPZ,zPS])
 refine zT 13 ?_
 refine zD ?_
 have HOB:=zh ((HO.out.quietly q3))
 have HIW:=zh hiw
 clear Z3 q0 q1 q3 hiw HS8 HKEEP
 go_wp2
 rw [rounds_succ]
 have Zc:Hid (Z8 (.returned (.tuple #[.slice (some ⟨b,0,none⟩) 1 cap,v3])) d3):=by
  rw [<- Ze.out]
  exact ⟨b,cap,A,c,v3,rfl,HOB.out,HIW.out⟩
 go_wp2
 exact Zc.out
theorem Z9D {w:World} {sb:Nat} {o:Nat->Nat} {s:St} {t:TE} {H:List (List (Option Tup))} (h:Zn w sb o s) (hT:s.T=[t]) (hI:s.I.length <= 1000) (hid:U64 t.id) (hH:s.hs t.id=some H) :
  Calls Tryz.prog 15 #[ptrV sb] w (Z2b w [usedH H]):=by
 have HBK:=zh (Z6q h hT hI)
 obtain ⟨lb,bb,pb,mh,mt,ms,fh,ft,fs,h⟩:=h
 obtain ⟨_,_,_,c3,_⟩:=h.cells
 have lsb:=Zf c3
 dsimp only at lsb
 obtain ⟨hb,hf,hp⟩:=h.heaps.2 t.id H hH
 have HH:=zh h
 have HF:=zh hf
 have HP:=zh hp
 have HID:=zh hid
 obtain ⟨un,hun⟩:∃ un,usedH H=un:=⟨_,rfl⟩
 have HUN:=zh hun
 rw [hun]
 obtain ⟨Z8,Z6⟩:∃ Z8,Z2b w [un]=Z8:=⟨_,rfl⟩
 rw [Z6]
 have Ze:=zh Z6
 clear h hf hp hid Z6 hun
 go_enter Tryz.func15,Tryz.ntmps15
 go_wp2_with fail
 refine HBK.out.mono ?_
 rintro e w1 ⟨b,cap,A,c,v,rfl,hO,_⟩
 obtain ⟨t0,t1,t2,t3,t4⟩:=hO.cells
 have lb1:=Zf t0
 dsimp only at lb1
 have hqa:Quiet w1 (w1.alloc (.cells #[.int .u64 (t.id:Int),.string t.name,.slice A t.cols.length c,.int .u64 (t.xmin:Int),.int .u64 (t.xmax:Int)] 90)):=(Z0.refl _ _).alloc _
 have hba:=Z4 w1 (.cells #[.int .u64 (t.id:Int),.string t.name,.slice A t.cols.length c,.int .u64 (t.xmin:Int),.int .u64 (t.xmax:Int)] 90)
 obtain ⟨r7,hr7⟩:∃ r7,w1.heap.size=r7:=⟨_,rfl⟩
 rw [hr7] at hba
 have HQ2:=zh (hO.quiet.trans hqa)
 have HBA:=zh hba
 have HC:=zh c3
 clear hO HBK hba c3
 go_wp2
 refine wp_loop_rounds 2 ?_
 rw [rounds_succ]
 go_wp2_with fail
 (try rw [hr7])
 generalize w1.alloc (.cells #[.int .u64 (t.id:Int),.string t.name,.slice A t.cols.length c,.int .u64 (t.xmin:Int),.int .u64 (t.xmax:Int)] 90)=w2 at *
 clear hqa hr7 t0 t1 t2 t3 t4 lb1
 have HS6:Hid (∀ W,Quiet w2 W->(fun w'=>w'.cell? ⟨sb,3,none⟩=some (.map (some mh))/\w'.cell? ⟨r7,0,none⟩=some (.int .u64 (t.id:Int))/\(Instr.lookup 66 (.map (some mh)) (.int .u64 (t.id:Int)) false).run Tryz.prog w'=.ok (ptrV hb) w') W):=fun W hq=>⟨(HQ2.out.trans hq).cell HC.out (fun x=>x),by rw [Z1 (hq.get HBA.out (fun x=>x))];rfl,Z1P (HH.out.mH.kept (HQ2.out.trans hq) (fun x=>x)) HF.out HID.out⟩
 have HUSE:Hid (∀ W,Quiet w2 W->Calls Tryz.prog 47 #[ptrV hb] W (fun e w'=>e=.returned (.int .i64 (un:Int))/\Quiet W w')):=fun W hq=>by
  refine (Zgy (HP.out.kept (HQ2.out.trans hq) (fun _ _ x=>x))).mono ?_
  rintro e w' ⟨rfl,n,rfl⟩
  rw [HUN.out]
  exact ⟨rfl,(Z0.refl _ _).drewN n⟩
 refine zH HS6 ((Z0.refl _ _).drew) (fun Z3=>?_)
 have q0:Quiet w2 w2.drew:=(Z0.refl _ _).drew
 generalize w2.drew=d0 at q0 Z3 ⊢
 refine zT 0 ?_
 refine zT 1 ?_
 refine zT 2 ?_
 refine zT 3 ?_
 refine zT 4 ?_
 refine zT 5 ?_
 refine zT 6 ?_
 refine zT 7 ?_
 refine zR 8 ?_
 intro K hK
 go_simp
 go_at_call 47
 refine (HUSE.out _ q0).mono ?_
 rintro e d1 ⟨rfl,hq1⟩
 have q1:=q0.trans hq1
 clear hq1
 dsimp only
 refine hK.out _ _ ?_ (fun Z3=>?_)
 ·exact HS6.out _ q1
 clear hK K
 (try simp only [Act.put,zPA,zPZ,zPS])
 refine zR 9 ?_
 intro K hK
 go_simp
 refine hK.out _ _ ?_ (fun Z3=>?_)
 ·exact HS6.out _ ((q1.alloc _))
 clear hK K
 (try simp only [Act.put,zPA,zPZ,zPS])
 have q2:Quiet w2 (d1.alloc (.cells #[.int .i64 (un:Int)] 3)):=q1.alloc _
 have hrd:=Rd.one d1 (.int .i64 (un:Int)) 3 (0,0) (S:=fun _=>True) trivial
 obtain ⟨bu,hbu⟩:∃ bu,d1.heap.size=bu:=⟨_,rfl⟩
 rw [hbu] at hrd
 (try rw [hbu])
 generalize d1.alloc (.cells #[.int .i64 (un:Int)] 3)=d2 at *
 clear hbu
 refine zR 10 ?_
 intro K hK
 refine Z0B Zb5 rfl (.tmp 19) (.tmp 28) rfl rfl (World.ownsRow_nil _ _ _ _) rfl hrd (ZcT un) (by unfold maxLen;omega) (by omega) ?_
 intro v4 d4 hg4
 have q4:Quiet w2 d4:=q2.trans (hg4.only.mono (fun k _ e=>by cases e))
 have hiw:Z27 w2 d4 v4 [un]:=(Z27.start q2).push (l:=[]) hg4
 clear hg4 hrd
 refine hK.out _ _ ?_ (fun Z3=>?_)
 ·exact HS6.out _ q4
 clear hK K
 (try simp only [Act.put,zPA,zPZ,zPS])
 refine zT 11 ?_
 refine zD ?_
 have Zc:Hid (Z8 (.returned v4) d4):=by
  rw [<- Ze.out]
  exact ⟨v4,rfl,hiw.from HQ2.out⟩
 clear Z3 q0 q1 q2 q4 hiw HS6 HUSE
 go_wp2
 rw [rounds_succ]
 go_wp2
 exact Zc.out
theorem Zby {w:World} {sb:Nat} {o:Nat->Nat} {s:St} {t:TE} (h:Zn w sb o s) (hT:s.T=[t]) (hI:s.I.length <= 1000) (hid:U64 t.id) (hx:∀ e ∈ ZQ s.L t.id s.I,U64 e.id/\∃ es,s.ts e.id=some es) :
  Calls Tryz.prog 18 #[ptrV sb] w (Z2b w ((ZQ s.L t.id s.I).map (fun e=>((s.ts e.id).getD []).length))):=by
 have HBK:=zh (Z6q h hT hI)
 have HLK:Hid ((ZQ s.L t.id s.I).length <= 1000):=Nat.le_trans (List.length_filter_le _ _) hI
 obtain ⟨lb,bb,pb,mh,mt,ms,fh,ft,fs,h⟩:=h
 obtain ⟨_,_,_,_,c4,_⟩:=h.cells
 have lsb:=Zf c4
 dsimp only at lsb
 have HH:=zh h
 have HX:=zh hx
 obtain ⟨kl,hkl⟩:∃ kl,ZQ s.L t.id s.I=kl:=⟨_,rfl⟩
 rw [hkl] at HBK HX HLK ⊢
 obtain ⟨m,hm⟩:∃ m,kl.length=m:=⟨_,rfl⟩
 rw [hm] at HLK
 have HM:=zh hm
 have HC:=zh c4
 obtain ⟨Z8,Z6⟩:∃ Z8,Z2b w (kl.map (fun e=>((s.ts e.id).getD []).length))=Z8:=⟨_,rfl⟩
 rw [Z6]
 have Ze:=zh Z6
 clear h hx hid Z6 hkl hm c4
 go_enter Tryz.func18,Tryz.ntmps18
 go_wp2_with fail
 refine HBK.out.mono ?_
 rintro e w1 ⟨b,cap,A,c,v,rfl,_,hW⟩
 obtain ⟨Ak,ck,rfl,hck,hmk,hrk⟩:=Za hW.own
 have HQ1:=zh hW.quiet
 have HRK:=zh hrk
 have hkm:=HM.out
 rw [hkm] at hck ⊢
 unfold maxLen at hmk
 clear hW HBK hrk hkm
 go_wp2
 go_loopw [15,3,7] (fun i v _ wr=>∃ (k:Nat) (v':Value),k <= m/\i=.int .i64 (k:Int)/\v=v'/\Z27 w1 wr v' ((kl.take k).map (fun e=>((s.ts e.id).getD []).length))) (fun i _ _ _=>m - (intOf i).toNat)
 case atStart=>exact ⟨0,_,Nat.zero_le _,rfl,rfl,Z27.start (Z0.refl _ _)⟩
 case round =>
  obtain ⟨k,v',hk,rfl,rfl,hW⟩:=hrel
  have HW:=zh hW
  clear hW
  by_cases hlt:k < m
  ·obtain ⟨x,hx⟩:∃ x,kl[k]?=some x:=⟨_,zg (by have:=HM.out;omega)⟩
   obtain ⟨hxu,es,hes⟩:=HX.out x (List.mem_of_getElem? hx)
   obtain ⟨tb,hft,htr⟩:=HH.out.trees.2 x.id es hes
   have hrk:=HRK.out.kept HW.out.quiet (fun _ _ x=>x)
   obtain ⟨bk,ofk,rfl,_,hcc⟩:=hrk.cells (by rw [Z5L];have:=HM.out;omega)
   obtain ⟨i0,i1,i2,i3,i4,i5⟩:=Z8x kl k x hx
   have y0:=hcc _ _ i0
   have y1:=hcc _ _ i1
   have y2:=hcc _ _ i2
   have y3:=hcc _ _ i3
   have y4:=hcc _ _ i4
   have y5:=hcc _ _ i5
   rw [<- Nat.add_assoc] at y1 y2 y3 y4 y5
   have ly:=Zf y0
   dsimp only at ly
   have HX1:=zh hx
   have HES:=zh hes
   have HXU:=zh hxu
   have HFT:=zh hft
   have HTR:=zh htr
   have hqa:Quiet wr (wr.alloc (.cells #[.int .u64 (x.id:Int),.string x.name,.int .u64 (x.table:Int),.int .i64 (x.column:Int),.int .u64 (x.xmin:Int),.int .u64 (x.xmax:Int)] 84)):=(Z0.refl _ _).alloc _
   have hba:=Z4 wr (.cells #[.int .u64 (x.id:Int),.string x.name,.int .u64 (x.table:Int),.int .i64 (x.column:Int),.int .u64 (x.xmin:Int),.int .u64 (x.xmax:Int)] 84)
   obtain ⟨r7,hr7⟩:∃ r7,wr.heap.size=r7:=⟨_,rfl⟩
   rw [hr7] at hba
   have HQ2:=zh ((HQ1.out.trans HW.out.quiet).trans hqa)
   have HON:Hid (∀ k,u3.ownBlock=some k->w1.heap.size <= k/\k < r7):=fun k e=>⟨HW.out.new k e,by rw [<- hr7];exact (HW.out.own.lt k e).2⟩
   have HW2:=zh (HW.out.quietly hqa)
   have HBA:=zh hba
   clear hx hes hxu hft htr hrk hcc i0 i1 i2 i3 i4 i5 hba
   go_wp2_with fail
   (try rw [hr7])
   generalize wr.alloc (.cells #[.int .u64 (x.id:Int),.string x.name,.int .u64 (x.table:Int),.int .i64 (x.column:Int),.int .u64 (x.xmin:Int),.int .u64 (x.xmax:Int)] 84)=w2 at *
   clear hqa hr7 y0 y1 y2 y3 y4 y5 ly
   have HS6:Hid (∀ W,Z0 (fun k=>u3.ownBlock=some k) w2 W->(fun w'=>w'.cell? ⟨sb,4,none⟩=some (.map (some mt))/\w'.cell? ⟨r7,0,none⟩=some (.int .u64 (x.id:Int))/\(Instr.lookup 67 (.map (some mt)) (.int .u64 (x.id:Int)) false).run Tryz.prog w'=.ok (ptrV tb) w') W):=fun W ho=>by
    have hlt:∀ k,k < w.heap.size->¬ (u3.ownBlock=some k):=fun k hk e=>by
     have:=(HON.out k e).1
     have:=HQ1.out.size
     omega
    refine ⟨ho.cell (HQ2.out.cell HC.out (fun x=>x)) (hlt sb lsb),by rw [Z1 (ho.get HBA.out (fun e=>by have:=(HON.out _ e).2;omega))];rfl,Z7g ((HH.out.mT.kept HQ2.out (fun x=>x)).kept ho (hlt mt HH.out.mT.lt)) HFT.out HXU.out⟩
   have HLEN:Hid (∀ W,Quiet w2 W->Calls Tryz.prog 48 #[ptrV tb] W (fun e w'=>e=.returned (.int .i64 (es.length:Int))/\W=w')):=fun W hq=>ZiJ (HTR.out.kept (HQ2.out.trans hq) (fun _ _ x=>x))
   have HTK:Hid ((kl.take (k+1)).map (fun e=>((s.ts e.id).getD []).length)=(kl.take k).map (fun e=>((s.ts e.id).getD []).length) ++ [es.length]):=by
    show _=_
    rw [List.take_add_one,HX1.out,Option.toList_some,List.map_append]
    simp [HES.out]
   obtain ⟨un,hun⟩:∃ un,es.length=un:=⟨_,rfl⟩
   rw [hun] at HLEN HTK
   have HLL:Hid (((kl.take k).map (fun e=>((s.ts e.id).getD []).length)).length <= 1000):=by
    unfold Hid
    rw [List.length_map,List.length_take]
    have:=HLK.out
    omega
   clear hun
   generalize (kl.take k).map (fun e=>((s.ts e.id).getD []).length)=pl at HW2 HTK HLL
   refine zH HS6 ((Z0.refl _ _).drew) (fun Z3=>?_)
   have q0:Quiet w2 w2.drew:=(Z0.refl _ _).drew
   generalize w2.drew=d0 at q0 Z3 ⊢
   refine zT 0 ?_
   refine zT 1 ?_
   refine zT 2 ?_
   refine zT 3 ?_
   refine zT 4 ?_
   refine zT 5 ?_
   refine zT 6 ?_
   refine zT 7 ?_
   refine zR 8 ?_
   intro K hK
   go_simp
   go_at_call 48
   refine (HLEN.out _ q0).mono ?_
   rintro e d1 ⟨rfl,rfl⟩
   have q1:=q0
   dsimp only
   refine hK.out _ _ ?_ (fun Z3=>?_)
   ·exact HS6.out _ (q1.mono (fun _ _ x=>x.elim))
   clear hK K
   (try simp only [Act.put,zPA,zPZ,zPS])
   refine zR 9 ?_
   intro K hK
   go_simp
   refine hK.out _ _ ?_ (fun Z3=>?_)
   ·exact HS6.out _ ((q1.alloc _).mono (fun _ _ x=>x.elim))
   clear hK K
   (try simp only [Act.put,zPA,zPZ,zPS])
   have q2:Quiet w2 (d0.alloc (.cells #[.int .i64 (un:Int)] 3)):=q1.alloc _
   have hrd:=Rd.one d0 (.int .i64 (un:Int)) 3 (0,0) (S:=fun _=>True) trivial
   obtain ⟨bu,hbu⟩:∃ bu,d0.heap.size=bu:=⟨_,rfl⟩
   rw [hbu] at hrd
   (try rw [hbu])
   generalize d0.alloc (.cells #[.int .i64 (un:Int)] 3)=d2 at *
   clear hbu
   refine zR 10 ?_
   intro K hK
   refine Z0B Zb5 rfl (.tmp 19) (.tmp 28) rfl rfl (HW2.out.quietly q2).own rfl hrd (ZcT un) (by have:=HLL.out;unfold maxLen;omega) (by have:=HLL.out;omega) ?_
   intro v4 d4 hg4
   have hiw:=(HW2.out.quietly q2).push hg4
   have q4:Quiet w1 d4:=hiw.quiet
   have ho4:=(q2.mono (T:=fun k=>u3.ownBlock=some k) (fun _ _ x=>x.elim)).trans hg4.only
   clear hg4 hrd
   refine hK.out _ _ ?_ (fun Z3=>?_)
   ·exact HS6.out _ ho4
   clear hK K
   (try simp only [Act.put,zPA,zPZ,zPS])
   refine zT 11 ?_
   refine zD ?_
   rw [<- HTK.out] at hiw
   have HIW:=zh hiw
   clear Z3 q0 q1 q2 q4 hiw HS6 HLEN HW HW2
   go_wp2
   go_roundw
   case rel=>exact ⟨k+1,_,by omega,by go_num,rfl,HIW.out⟩
   case measure=>simp [intOf];omega
  ·obtain rfl:k=m:=by omega
   have Zc:Hid (Z8 (.returned u3) wr):=by
    rw [<- Ze.out]
    have:=HW.out
    rw [List.take_of_length_le (by have:=HM.out;omega)] at this
    exact ⟨u3,rfl,this.from HQ1.out⟩
   go_wp2
   exact Zc.out
def Z5f (s:St) (name nm:ByteArray) (kd own:Nat):St:={ s with T:=[⟨s.blast+1,name,[(nm,kd)],own,0⟩],I:=[],blast:=s.blast+1,hs:=upd s.hs (s.blast+1) (some []) }
def Zbz (w:World) (sb:Nat) (o:Nat->Nat) (s':St) (e:Ending) (w':World):Prop:=e=.returned (.int .i64 0)/\Z0Z w sb o s' w'
theorem Zab {w w2 w3 w5 w6:World} {sb lb bb pb mh mt ms hb kd own:Nat} {o:Nat->Nat} {s:St} {fh ft fs:Nat->Option Value} {name nm:ByteArray} (h:Zj w sb o s lb bb pb mh mt ms fh ft fs) (_hT:s.T=[]) (_hI:s.I=[]) (hid:s.hs (s.blast+1)=none) (hq2:Quiet w w2)
  (ho3:Z0 (fun k=>o k=3) w2 w3) (hb3:ZV w3 (fun k=>o k=3 ∨ w2.heap.size <= k) bb [⟨s.blast+1,name,[(nm,kd)],own,0⟩] [] (s.blast+1)) (hq5:Quiet w3 w5) (hh5:Zo w5 hb pb (fun k=>w3.heap.size <= k) [])
  (ho6:Z0 (fun k=>k=mh) w5 w6) (hm:Z0f w6 mh (upd fh (s.blast+1) (some (ptrV hb)))):Z0Z w sb o (Z5f s name nm kd own) w6:=by
 have h2:=h.quietly hq2
 have h3:=h2.setBook ho3 hb3
 have hbig:=h3.big
 have h5:=h3.quietly hq5
 have tm:grow o w2.heap.size w3.heap.size 3 mh=6:=h3.tags.2.2.1
 have hnm:¬ w3.heap.size <= mh:=fun x=>by have:=hbig mh x;omega
 have h6:=h5.newHeap (B:=w3.heap.size) (id:=s.blast+1) (hb:=hb) (H':=[]) hbig hq5.size hid ho6 hm (hh5.kept ho6 (fun k hk e=>by omega))
 have s1:=ho3.size
 have s2:=hq5.size
 have s0:=hq2.size
 have e6:o mh=6:=h.tags.2.2.1
 refine ⟨_,fun k hk=>?_,(((hq2.mono (T:=fun k=>o k ≠ 0) (fun _ _ x=>x.elim)).trans' ho3 (fun k _ e=>by omega)).trans' hq5 (fun k _ e=>e.elim)).trans' ho6 (fun k _ e=>by rw [e,e6];omega),_,_,_,_,_,_,_,_,_,h6⟩
 rw [Z0K (by omega),Z0K (by omega)]
theorem ZfE {w:World} {sb x kd c2:Nat} {o:Nat->Nat} {s:St} {y:ZA} {name nm:ByteArray} {S2:Nat->Prop} {A2:Option Addr} (h:Zn w sb o s) (hx:U64 x) (hy:s.sn x=some y) (hT:s.T=[]) (hI:s.I=[]) (hid:s.hs (s.blast+1)=none) (hl:s.blast < 1000000) (hu:U64 y.own)
  (hnm:Z2M name) (hcn:Z2M nm) (hk:1 <= kd/\kd <= 3) (hr:Rd w S2 2 A2 1 (ZZ [(nm,kd)])) (hS:∀ k,S2 k->o k ≠ 3) (hc2:1 <= c2) (hm2:c2 <= maxLen) :
  Calls Tryz.prog 8 #[ptrV sb,.int .u64 (x:Int),.string name,.slice A2 1 c2] w (Zbz w sb o (Z5f s name nm kd y.own)):=by
 have HRU:=zh (Z6l h hx)
 obtain ⟨lb,bb,pb,mh,mt,ms,fh,ft,fs,h⟩:=h
 have HH:=zh h
 have HR:=zh hr
 unfold Z43 at HRU
 rw [hy] at HRU
 clear hr
 go_enter Tryz.func8,Tryz.ntmps8
 go_wp2_with fail
 refine HRU.out.mono ?_
 rintro e w1 ⟨hq1,A,c,rfl,hs1⟩
 clear HRU
 have hq2:Quiet w (w1.alloc (.cells (snapCells y A c) 76)):=hq1.alloc _
 have hpb:=Z4 w1 (.cells (snapCells y A c) 76)
 have hs2:=hs1.kept ((Z0.refl (fun _=>False) w1).alloc (.cells (snapCells y A c) 76)) (fun _ _ x=>x)
 have hz1:=hq1.size
 obtain ⟨pv,hpv⟩:∃ pv,w1.heap.size=pv:=⟨_,rfl⟩
 unfold Zm
 go_wp2_with fail
 rw [hpv] at hpb hz1
 have hpo:o pv=0:=h.big pv hz1
 obtain ⟨t1,t2,t3,t4,t5⟩:=h.tags
 generalize w1.alloc (.cells (snapCells y A c) 76)=w2 at *
 obtain ⟨c0,c1,q2,q3,_,_,_⟩:=(h.quietly hq2).cells
 obtain ⟨p0,p1,p2,p3⟩:w2.cell? ⟨pv,0,none⟩=some (.int .u64 (y.own:Int))/\w2.cell? ⟨pv,1,none⟩=some (.int .u64 (y.xmin:Int))/\w2.cell? ⟨pv,2,none⟩=some (.int .u64 (y.xmax:Int))/\w2.cell? ⟨pv,3,none⟩=some (.slice A y.run.length c) :=
  ⟨by rw [Z1 hpb];rfl,by rw [Z1 hpb];rfl,by rw [Z1 hpb];rfl,by rw [Z1 hpb];rfl⟩
 have hs3:¬ o sb=3:=by omega
 have hp3:¬ o pv=3:=by omega
 have HBK:Hid (Calls Tryz.prog 25 #[ptrV bb,ptrV lb,Zm y A c,.string name,.slice A2 1 c2] w2.drew (Z70 w2.drew (fun k=>o k=3) bb s.blast ⟨s.blast+1,name,[(nm,kd)],y.own,0⟩)):=by
  have hbk:=(h.quietly hq2).book
  rw [hT,hI] at hbk
  exact Zfd (S:=fun _=>False) (hbk.kept ((Z0.refl (fun _=>False) w2).drew) (fun _ _ x=>x)) hl hnm hcn hk hu (HR.out.kept hq2.drew (fun _ _ x=>x)) hS hc2 hm2
 have HQ2:=zh hq2
 have lsb:=Zf c0
 have lpv:=Zf p0
 dsimp only at lsb lpv
 unfold Zm at HBK
 clear hq1 hs1 hs2 hpb hz1 hpo hq2 HR h t1 t2 t3 t4 t5
 refine wp_region_held_drew (S:=fun w'=>w'.cell? ⟨sb,1,none⟩=some (ptrV bb)/\w'.cell? ⟨sb,0,none⟩=some (ptrV lb)/\w'.cell? ⟨pv,0,none⟩=some (.int .u64 (y.own:Int))/\w'.cell? ⟨pv,1,none⟩=some (.int .u64 (y.xmin:Int))/\w'.cell? ⟨pv,2,none⟩=some (.int .u64 (y.xmax:Int))/\w'.cell? ⟨pv,3,none⟩=some (.slice A y.run.length c)) (by kernel_rfl) (⟨c1,c0,p0,p1,p2,p3⟩) (fun Z3=>?_)
 simp only [List.size_toArray,List.length_cons,List.length_nil,Nat.reduceAdd]
 refine zT 0 ?_
 refine zT 1 ?_
 refine zT 2 ?_
 refine zT 3 ?_
 refine zT 4 ?_
 refine zT 5 ?_
 refine zT 6 ?_
 refine zT 7 ?_
 refine zT 8 ?_
 refine zT 9 ?_
 refine zT 10 ?_
 refine zR 11 ?_
 intro K hK
 go_simp
 go_at_call 25
 refine (HBK.out).mono ?_
 rintro e w3 ⟨rfl,ho3,hb3⟩
 dsimp only
 refine hK.out _ _ ?_ (fun Z3=>?_)
 ·exact ⟨ho3.cell Z3.1 hs3,ho3.cell Z3.2.1 hs3,ho3.cell Z3.2.2.1 hp3,ho3.cell Z3.2.2.2.1 hp3,ho3.cell Z3.2.2.2.2.1 hp3,ho3.cell Z3.2.2.2.2.2 hp3⟩
 clear hK K
 (try simp only [Act.put,zPA,zPZ,zPS])
 refine zT 12 ?_
 refine zT 13 ?_
 refine zT 14 ?_
 refine zT 15 ?_
 refine zT 16 ?_
 refine zD ?_
 have HO3:Hid (Z0 (fun k=>o k=3) w2 w3):=((Z0.refl _ w2).drew).trans ho3
 have HB3:=zh hb3
 have d3:=HO3.out.cell q3 hs3
 have d2:=HO3.out.cell q2 hs3
 have HMH:Hid (Z0f w3 mh fh):=((HH.out.mH.kept HQ2.out (fun x=>x)).kept HO3.out (by have:=HH.out.tags.2.2.1;omega))
 have HX:Hid (U64 (s.blast+1)):=by unfold Hid U64;omega
 have en:((s.blast:Int)+1)=((s.blast+1:Nat):Int):=by omega
 have lsb3:=Zf d3
 dsimp only at lsb3
 rw [en]
 clear ho3 hb3 Z3 c0 c1 p0 p1 p2 p3 q2 q3 HBK lsb lpv en
 go_wp2_with fail
 refine Z0M (S:=fun w'=>w'.cell? ⟨sb,3,none⟩=some (.map (some mh))/\w'.cell? ⟨sb,2,none⟩=some (ptrV pb)/\Quiet w3 w') (by kernel_rfl) (by kernel_rfl) (by simp) (⟨d3,d2,(Z0.refl _ _).drew⟩) (fun Z3=>?_)
 simp only [List.pop_toArray,List.dropLast,List.size_toArray,List.length_cons,List.length_nil,Nat.reduceAdd,Nat.reduceSub]
 refine zT 0 ?_
 refine zT 1 ?_
 refine zT 2 ?_
 refine zT 3 ?_
 refine zT 4 ?_
 refine zT 5 ?_
 refine zT 6 ?_
 refine zT 7 ?_
 refine zT 8 ?_
 refine wpAnyH_ready (rs:=[9]) (by kernel_rfl) (by simp) ?_
 refine zA ?_ ?_
 ·intro K hK
  go_simp
  go_at_call 26
  refine (Zim pb _).mono ?_
  rintro e w5 ⟨hb,rfl,hq5,hh5⟩
  dsimp only
  refine hK.out _ _ ?_ (fun Z3=>?_)
  ·exact ⟨hq5.cell Z3.1 (fun x=>x),hq5.cell Z3.2.1 (fun x=>x),Z3.2.2.trans hq5⟩
  clear hK K
  (try simp only [Act.put,zPA,zPZ,zPS])
  refine zD ?_
  refine Z21 (o:=?_) ?_ ?_
  rotate_left 1
  (focus (simp only [zGA,zGZ,zGS] <;> rfl))
  intro K hK
  refine ZbT (.tmp 41) (.tmp 42) (.tmp 47) rfl (HMH.out.kept Z3.2.2 (fun x=>x)) Tryz.underlying66 Tryz.underlying34 rfl rfl rfl HX.out ?_
  intro w6 hm6 ho6
  refine hK.out _ _ ?_
  clear hK K
  have hm7:Z0f w6 mh (upd fh (s.blast+1) (some (ptrV hb))):=hm6
  have HD:Hid (Z0Z w sb o (Z5f s name nm kd y.own) w6):=Zab HH.out hT hI hid HQ2.out HO3.out HB3.out Z3.2.2 hh5 ho6 hm7
  clear hm6 hm7 ho6 Z3 hh5 hq5 HH HMH HQ2 HO3 HB3
  dsimp only [Act.put]
  go_wp2
  go_ret
  exact ⟨rfl,HD.out⟩
 exact AllReadyH.nil
def ZK (w0 w:World) (sb:Nat) (K:Nat->Prop) (s:St):Prop:=∃ o,Zn w sb o s/\Quiet w0 w/\(∀ k,k < w0.heap.size->o k=0)/\∀ k,K k->o k=0/\k < w.heap.size
def Z0W (w0 w:World) (sb:Nat) (K:Nat->Prop) (s':St) (w':World):Prop:=ZK w0 w' sb K s'/\Z0 (fun k=>w0.heap.size <= k/\¬ K k) w w'
section
variable {w0 w w' w1:World} {sb:Nat} {K K':Nat->Prop} {s s':St} {o:Nat->Nat}
theorem ZK.quietly (h:ZK w0 w sb K s) (hq:Quiet w w1):ZK w0 w1 sb (fun k=>K k ∨ (w.heap.size <= k/\k < w1.heap.size)) s:=by
 obtain ⟨o,h1,h2,h3,h4⟩:=h
 refine ⟨o,h1.quietly hq,h2.trans hq,h3,fun k hk=>?_⟩
 rcases hk with x | x
 ·exact ⟨(h4 k x).1,Nat.lt_of_lt_of_le (h4 k x).2 hq.size⟩
 ·exact ⟨h1.big k x.1,x.2⟩
theorem ZK.mono (h:ZK w0 w sb K s) (hk:∀ k,K' k->K k):ZK w0 w sb K' s:=by
 obtain ⟨o,h1,h2,h3,h4⟩:=h
 exact ⟨o,h1,h2,h3,fun k x=>h4 k (hk k x)⟩
theorem ZK.same (h:ZK w0 w sb K s) (hq:Quiet w w1):ZK w0 w1 sb K s:=(h.quietly hq).mono (fun _ x=>Or.inl x)
theorem ZK.quiet (h:ZK w0 w sb K s):Quiet w0 w:=by
 obtain ⟨o,h1,h2,h3,h4⟩:=h
 exact h2
theorem ZK.lt (h:ZK w0 w sb K s) {k:Nat} (hk:K k):k < w.heap.size:=by
 obtain ⟨o,h1,h2,h3,h4⟩:=h
 exact (h4 k hk).2
theorem Z2c (h1:Zn w sb o s) (h2:Quiet w0 w) (h3:∀ k,k < w0.heap.size->o k=0) (h4:∀ k,K k->o k=0/\k < w.heap.size) (hst:Z0Z w sb o s' w'):Z0W w0 w sb K s' w':=by
 obtain ⟨o',a,b,c⟩:=hst
 have hs:=h2.size
 refine ⟨⟨o',c,h2.trans' b (fun k hk x=>x (h3 k hk)),fun k hk=>by rw [a k (by omega)];exact h3 k hk,fun k x=>?_⟩,b.mono (fun k hk x=>?_)⟩
 ·obtain ⟨y1,y2⟩:=h4 k x
  exact ⟨by rw [a k y2];exact y1,Nat.lt_of_lt_of_le y2 b.size⟩
 ·refine ⟨?_,fun y=>x (h4 k y).1⟩
  rcases Nat.lt_or_ge k w0.heap.size with y | y
  ·exact absurd (h3 k y) x
  ·exact y
theorem Z0W.st (h:Z0W w0 w sb K s' w'):ZK w0 w' sb K s':=h.1
theorem Zej (n:Nat) (hn:n <= 256) (w:World) :
  Calls Tryz.prog 5 #[.int .i64 (n:Int)] w fun e w'=>∃ sb,e=.returned (.tuple #[ptrV sb,.int .i64 0])/\ZK w w' sb (fun _=>False) (st0 n):=by
 refine (Zhc n hn w).mono ?_
 rintro e w' ⟨sb,o,rfl,hq,h0,hst⟩
 exact ⟨sb,rfl,o,hst,hq,h0,fun _ x=>x.elim⟩
theorem Z7j (h:ZK w0 w sb K s) (hl:s.L.length < 1000000) :
  Calls Tryz.prog 7 #[ptrV sb] w fun e w'=>e=.returned (.tuple #[.int .u64 ((s.L.length:Int)+1),.int .i64 0])/\Z0W w0 w sb K (Z4b s) w':=by
 obtain ⟨o,h1,h2,h3,h4⟩:=h
 refine (ZdC h1 hl).mono ?_
 rintro e w' ⟨rfl,hst⟩
 exact ⟨rfl,Z2c h1 h2 h3 h4 hst⟩
theorem ZfF {x:Nat} (h:ZK w0 w sb K s) (hx:U64 x) :
  Calls Tryz.prog 11 #[ptrV sb,.int .u64 (x:Int)] w fun e w'=>e=.returned (.int .i64 ((Z2Q s.L x 2).1:Int))/\Z0W w0 w sb K (ZbJ s x 2) w':=by
 obtain ⟨o,h1,h2,h3,h4⟩:=h
 refine (Zcz h1 hx).mono ?_
 rintro e w' ⟨rfl,hst⟩
 exact ⟨rfl,Z2c h1 h2 h3 h4 hst⟩
theorem ZcU {x kd c2:Nat} {y:ZA} {name nm:ByteArray} {A2:Option Addr} (h:ZK w0 w sb K s) (hx:U64 x) (hy:s.sn x=some y) (hT:s.T=[]) (hI:s.I=[]) (hid:s.hs (s.blast+1)=none) (hl:s.blast < 1000000) (hu:U64 y.own)
  (hnm:Z2M name) (hcn:Z2M nm) (hk:1 <= kd/\kd <= 3) (hr:Rd w K 2 A2 1 (ZZ [(nm,kd)])) (hc2:1 <= c2) (hm2:c2 <= maxLen) :
  Calls Tryz.prog 8 #[ptrV sb,.int .u64 (x:Int),.string name,.slice A2 1 c2] w fun e w'=>e=.returned (.int .i64 0)/\Z0W w0 w sb K (Z5f s name nm kd y.own) w':=by
 obtain ⟨o,h1,h2,h3,h4⟩:=h
 refine (ZfE h1 hx hy hT hI hid hl hu hnm hcn hk hr (fun k hk=>by have:=(h4 k hk).1;omega) hc2 hm2).mono ?_
 rintro e w' ⟨rfl,hst⟩
 exact ⟨rfl,Z2c h1 h2 h3 h4 hst⟩
theorem Z8A {x i:Nat} {y:ZA} {t:TE} {name:ByteArray} {H:List (List (Option Tup))} (h:ZK w0 w sb K s) (hx:U64 x) (hy:s.sn x=some y) (hf:Z1r s.L y name s.T=some i) (ht:s.T[i]?=some t) (hU:U8 w0) (hc:t.cols.length <= 8) (hid:U64 t.id)
  (hH:s.hs t.id=some H) (hN:∀ k,k <= H.length->(Zx H k).length <= 1000000) (hI:Z5X (Z04 t) H) :
  Calls Tryz.prog 12 #[ptrV sb,.int .u64 (x:Int),.string name] w (Z2D w (Z2z H s.L y (Zx H H.length))):=by
 obtain ⟨o,h1,h2,h3,h4⟩:=h
 exact Zfw h1 hx hy hf ht (hU.quietly h2) hc hid hH hN hI
end
def Z60 (w:World) (size:Nat) (xs:List Value) (e:Ending) (w':World):Prop:=∃ b,e=.returned (.slice (some ⟨b,0,none⟩) 1 1)/\Quiet w w'/\w.heap.size <= b/\b < w'.heap.size/\Rd w' (fun k=>k=b) size (some ⟨b,0,none⟩) 1 xs
structure Z7t (s:St) (id:Nat):Prop where
 few:s.I.length <= 1000
 each:∀ e ∈ ZQ s.L id s.I,e.column=0/\U64 e.id/\∃ es,s.ts e.id=some es/\es.length <= 10000
 nd:((ZQ s.L id s.I).map (fun e=>e.id)).Nodup
theorem ZbA {w:World} {sb x i c3 left':Nat} {o:Nat->Nat} {s:St} {y:ZA} {t:TE} {name:ByteArray} {l:List RV} {x0:RV} {Sv:Nat->Prop} {A3:Option Addr} {H H':List (List (Option Tup))} {p q:Int} (h:Zn w sb o s) (hx:U64 x) (hy:s.sn x=some y) (hf:Z1r s.L y name s.T=some i) (ht:s.T[i]?=some t) (hU:U8 w) (hUo:U8o o) (hx0:l[0]?=some x0) (hkx:Z4M x0) (hc:t.cols.length <= 8) (hid:U64 t.id)
  (hk:Z7t s t.id) (hH:s.hs t.id=some H) (hle:H.length+s.left <= 256) (hn:Z2A (Z04 t) l) (hv:Rd w Sv 4 A3 l.length (Z0P l)) (hc3:l.length <= c3) (hm3:c3 <= maxLen) (hlast:s.last+1 < 18446744073709551616) (hins:Z12 H s.left ⟨s.last+1,x,0,-1,-1,Zq l⟩=((p,q,0),H',left')) :
  Calls Tryz.prog 10 #[ptrV sb,.int .u64 (x:Int),.string name,.slice A3 l.length c3] w (Z5c w sb o { putSx s t.id H' left' ⟨ZW x0,p,q⟩ with last:=s.last+1 }) :=
 Z9s (s1:=putSx s t.id H' left' ⟨ZW x0,p,q⟩) h hx hy hf ht hU hc hn hv hc3 hm3 hlast rfl (fun W A2 c2 A5 c5 hq hr2 h2 m2 hd h9 m9 =>
   ZaY (v:=⟨s.last+1,x,0,-1,-1,Zq l⟩) (cd:=c5) (A2:=A2) (c2:=c2) (h.quietly hq) hk.few hid hH hle (hU.quietly hq) hUo hc hx0 hkx hr2 (fun k e=>h.big k e) h2 m2 hn rfl h9 m9 hd (fun k e=>h.big k e) hins hk.each hk.nd)
theorem ZbB {w:World} {sb x i c3 left' nr cr code:Nat} {o:Nat->Nat} {s:St} {y:ZA} {t:TE} {name:ByteArray} {l:List RV} {x0:RV} {Sv:Nat->Prop} {A3 Ar:Option Addr} {H H1 H2:List (List (Option Tup))} {p q pg sl z:Int} {v:Tup} (h:Zn w sb o s) (hx:U64 x) (hy:s.sn x=some y) (hf:Z1r s.L y name s.T=some i) (ht:s.T[i]?=some t) (hU:U8 w) (hUo:U8o o) (hx0:l[0]?=some x0) (hkx:Z4M x0) (hc:t.cols.length <= 8) (hid:U64 t.id)
  (hk:Z7t s t.id) (hH:s.hs t.id=some H) (hle:H.length+s.left <= 256) (hn:Z2A (Z04 t) l) (hv:Rd w Sv 4 A3 l.length (Z0P l)) (hc3:l.length <= c3) (hm3:c3 <= maxLen) (hg:ZM H pg sl=some v) (hx1:U64 v.xmin) (hx2:U64 v.xmax) (hcode:freeS s.L y v.xmin v.xmax=code)
  (hins:code=0->Z12 H s.left ⟨v.row,x,0,-1,-1,Zq l⟩=((p,q,0),H1,left')) (hst:Z1l H1 pg sl x p q=(z,H2)) :
  Calls Tryz.prog 13 #[ptrV sb,.int .u64 (x:Int),.string name,.agg #[.int .u64 v.row,.int .i64 pg,.int .i64 sl,.slice Ar nr cr],.slice A3 l.length c3] w (Z4W w sb o s (putSx s t.id H2 left' ⟨ZW x0,p,q⟩) code z):=by
 have e1:({ putSx s t.id H1 left' ⟨ZW x0,p,q⟩ with hs:=upd (putSx s t.id H1 left' ⟨ZW x0,p,q⟩).hs t.id (some H2) }:St)=putSx s t.id H2 left' ⟨ZW x0,p,q⟩:=by
  simp only [putSx,Z44]
 rw [<- e1]
 exact Z9u (s1:=putSx s t.id H1 left' ⟨ZW x0,p,q⟩) h hx hy hf ht hU hc hid hH hn hv hc3 hm3 hg hx1 hx2 hcode (by simp [putSx,upd]) hst (fun hz W A2 c2 A5 c5 hq hr2 h2 m2 hd h9 m9 =>
   ZaY (v:=⟨v.row,x,0,-1,-1,Zq l⟩) (cd:=c5) (A2:=A2) (c2:=c2) (h.quietly hq) hk.few hid hH hle (hU.quietly hq) hUo hc hx0 hkx hr2 (fun k e=>h.big k e) h2 m2 hn rfl h9 m9 hd (fun k e=>h.big k e) (hins hz) hk.each hk.nd)
theorem ZhG {w0:World} {o:Nat->Nat} (h:U8 w0) (ho:∀ k,k < w0.heap.size->o k=0):U8o o:=⟨ho _ h.lt.1,ho _ h.lt.2⟩
section
variable {w0 w:World} {sb:Nat} {K:Nat->Prop} {s:St}
theorem Z82 {x i c3 left':Nat} {y:ZA} {t:TE} {name:ByteArray} {l:List RV} {x0:RV} {Sv:Nat->Prop} {A3:Option Addr} {H H':List (List (Option Tup))} {p q:Int} (h:ZK w0 w sb K s) (hx:U64 x) (hy:s.sn x=some y) (hf:Z1r s.L y name s.T=some i) (ht:s.T[i]?=some t) (hU:U8 w0) (hx0:l[0]?=some x0) (hkx:Z4M x0) (hc:t.cols.length <= 8) (hid:U64 t.id)
  (hk:Z7t s t.id) (hH:s.hs t.id=some H) (hle:H.length+s.left <= 256) (hn:Z2A (Z04 t) l) (hv:Rd w Sv 4 A3 l.length (Z0P l)) (hc3:l.length <= c3) (hm3:c3 <= maxLen) (hlast:s.last+1 < 18446744073709551616) (hins:Z12 H s.left ⟨s.last+1,x,0,-1,-1,Zq l⟩=((p,q,0),H',left')) :
  Calls Tryz.prog 10 #[ptrV sb,.int .u64 (x:Int),.string name,.slice A3 l.length c3] w fun e w'=>e=.returned (.int .i64 0)/\Z0W w0 w sb K { putSx s t.id H' left' ⟨ZW x0,p,q⟩ with last:=s.last+1 } w':=by
 obtain ⟨o,h1,h2,h3,h4⟩:=h
 refine (ZbA h1 hx hy hf ht (hU.quietly h2) (ZhG hU h3) hx0 hkx hc hid hk hH hle hn hv hc3 hm3 hlast hins).mono ?_
 rintro e w' ⟨rfl,hst⟩
 exact ⟨rfl,Z2c h1 h2 h3 h4 hst⟩
theorem Z5N {x i c3 left' nr cr code:Nat} {y:ZA} {t:TE} {name:ByteArray} {l:List RV} {x0:RV} {Sv:Nat->Prop} {A3 Ar:Option Addr} {H H1 H2:List (List (Option Tup))} {p q pg sl z:Int} {v:Tup} (h:ZK w0 w sb K s) (hx:U64 x) (hy:s.sn x=some y) (hf:Z1r s.L y name s.T=some i) (ht:s.T[i]?=some t) (hU:U8 w0) (hx0:l[0]?=some x0) (hkx:Z4M x0) (hc:t.cols.length <= 8) (hid:U64 t.id)
  (hk:Z7t s t.id) (hH:s.hs t.id=some H) (hle:H.length+s.left <= 256) (hn:Z2A (Z04 t) l) (hv:Rd w Sv 4 A3 l.length (Z0P l)) (hc3:l.length <= c3) (hm3:c3 <= maxLen) (hg:ZM H pg sl=some v) (hx1:U64 v.xmin) (hx2:U64 v.xmax) (hcode:freeS s.L y v.xmin v.xmax=code)
  (hins:code=0->Z12 H s.left ⟨v.row,x,0,-1,-1,Zq l⟩=((p,q,0),H1,left')) (hst:Z1l H1 pg sl x p q=(z,H2)) :
  Calls Tryz.prog 13 #[ptrV sb,.int .u64 (x:Int),.string name,.agg #[.int .u64 v.row,.int .i64 pg,.int .i64 sl,.slice Ar nr cr],.slice A3 l.length c3] w fun e w'=>if code=0 then e=.returned (.int .i64 z)/\Z0W w0 w sb K (putSx s t.id H2 left' ⟨ZW x0,p,q⟩) w' else e=.returned (.int .i64 (code:Int))/\Z0W w0 w sb K s w':=by
 obtain ⟨o,h1,h2,h3,h4⟩:=h
 refine (ZbB h1 hx hy hf ht (hU.quietly h2) (ZhG hU h3) hx0 hkx hc hid hk hH hle hn hv hc3 hm3 hg hx1 hx2 hcode hins hst).mono ?_
 intro e w' hp
 unfold Z4W at hp
 split at hp
 ·rename_i hz
  rw [if_pos hz]
  exact ⟨hp.1,Z2c h1 h2 h3 h4 hp.2⟩
 ·rename_i hz
  rw [if_neg hz]
  exact ⟨hp.1,Z2c h1 h2 h3 h4 hp.2⟩
end
structure Z7u (w:World) (rb sb:Nat) (under:Bool) (vj:Value) (ps:Nat):Prop where
 box:w.heap[rb]?=some (.cells #[ptrV sb,.bool under,vj,.int .i64 (ps:Int)] 73 (0,0))
theorem Z7u.cells {w:World} {rb sb ps:Nat} {under:Bool} {vj:Value} (h:Z7u w rb sb under vj ps):w.cell? ⟨rb,0,none⟩=some (ptrV sb)/\w.cell? ⟨rb,1,none⟩=some (.bool under)/\w.cell? ⟨rb,2,none⟩=some vj/\w.cell? ⟨rb,3,none⟩=some (.int .i64 (ps:Int)) :=
 ⟨by rw [Z1 h.box];rfl,by rw [Z1 h.box];rfl,by rw [Z1 h.box];rfl,by rw [Z1 h.box];rfl⟩
structure Zg3 (w:World) (jb tid pages page index:Nat) (known:Bool) (vi vd:Value):Prop where
 box:w.heap[jb]?=some (.cells #[.int .u64 (tid:Int),.int .i64 (pages:Int),vi,.bool known,.int .i64 (page:Int),.int .i64 (index:Int),vd] 198 (0,0))
structure Z0b where
 w:World
 X:Nat->Prop
 at_:World
def ZF (B:Z0b) (w:World) (sb:Nat) (K:Nat->Prop) (s:St):Prop :=
 ZK B.w w sb (fun k=>K k ∨ B.X k) s/\(∀ k x,B.X k->B.at_.heap[k]?=some x->w.heap[k]?=some x)/\∀ k,K k->¬ B.X k
def ToB (B:Z0b) (w:World) (sb:Nat) (K:Nat->Prop) (s':St) (w':World):Prop:=ZF B w' sb K s'/\Z0 (fun k=>B.w.heap.size <= k/\¬ K k) w w'
section
variable {B:Z0b} {w w':World} {sb:Nat} {K K':Nat->Prop} {s s':St}
theorem ToB.st (h:ToB B w sb K s w'):ZF B w' sb K s:=h.1
theorem ZF.mono (h:ZF B w sb K s) (hk:∀ k,K' k->K k):ZF B w sb K' s:=⟨h.1.mono (fun k e=>e.imp (hk k) id),h.2.1,fun k e=>h.2.2 k (hk k e)⟩
theorem ZF.quietly (h:ZF B w sb K s) (hq:Quiet w w'):ZF B w' sb (fun k=>K k ∨ (w.heap.size <= k/\k < w'.heap.size)) s:=by
 refine ⟨(h.1.quietly hq).mono (fun k e=>?_),fun k x a b=>hq.get (h.2.1 k x a b) (fun y=>y),fun k e=>?_⟩
 ·rcases e with (e | e) | e
  ·exact Or.inl (Or.inl e)
  ·exact Or.inr e
  ·exact Or.inl (Or.inr e)
 ·rcases e with e | e
  ·exact h.2.2 k e
  ·exact fun y=>by have:=h.1.lt (Or.inr y:K k ∨ B.X k);omega
theorem ZF.same (h:ZF B w sb K s) (hq:Quiet w w'):ZF B w' sb K s:=(h.quietly hq).mono (fun _ x=>Or.inl x)
theorem ZF.quiet (h:ZF B w sb K s):Quiet B.w w:=h.1.quiet
theorem ZF.lt (h:ZF B w sb K s) {k:Nat} (hk:K k):k < w.heap.size:=h.1.lt (Or.inl hk:K k ∨ B.X k)
theorem ZF.law (h:ZF B w sb K s):ZK B.w w sb K s:=h.1.mono (fun _ e=>Or.inl e)
theorem ZF.turnTo (h:ZF B w sb K s) (ho:Z0 K w w') (hK:∀ k,K k->B.w.heap.size <= k) (hK':∀ k,K' k->K k ∨ (w.heap.size <= k/\k < w'.heap.size)):ZF B w' sb K' s:=by
 obtain ⟨o,h1,h2,h3,h4⟩:=h.1
 have hz:=ho.size
 refine ⟨⟨o,h1.kept ho (fun k x=>(h4 k (Or.inl x)).1),h2.trans' ho (fun k hk x=>by have:=hK k x;omega),h3,fun k x=>?_⟩,fun k x a b=>ho.get (h.2.1 k x a b) (fun y=>h.2.2 k y a),fun k e=>?_⟩
 ·rcases x with x | x
  ·rcases hK' k x with y | y
   ·exact ⟨(h4 k (Or.inl y)).1,Nat.lt_of_lt_of_le (h4 k (Or.inl y)).2 hz⟩
   ·exact ⟨h1.big k y.1,y.2⟩
  ·exact ⟨(h4 k (Or.inr x)).1,Nat.lt_of_lt_of_le (h4 k (Or.inr x)).2 hz⟩
 ·rcases hK' k e with y | y
  ·exact h.2.2 k y
  ·exact fun z=>by have:=(h4 k (Or.inr z)).2;omega
theorem ZF.turn (h:ZF B w sb K s) (ho:Z0 K w w') (hK:∀ k,K k->B.w.heap.size <= k):ZF B w' sb K s:=h.turnTo ho hK (fun _ e=>Or.inl e)
theorem ZF.call (h:ZF B w sb K s) (ht:Z0W B.w w sb (fun k=>K k ∨ B.X k) s' w'):ToB B w sb K s' w' :=
 ⟨⟨ht.st,fun k x a b=>ht.2.get (h.2.1 k x a b) (fun y=>y.2 (Or.inr a)),h.2.2⟩,ht.2.mono (fun k _ e=>⟨e.1,fun y=>e.2 (Or.inl y)⟩)⟩
theorem ZF.start {w0:World} (h:ZK w0 w sb K s):ZF ⟨w0,fun _=>False,w⟩ w sb K s:=⟨h.mono (fun k e=>by rcases e with e | e;exact e;exact e.elim),(fun k x a=>a.elim),fun k _ a=>a⟩
end
def Z0o (w0:Z0b) (w:World) (sb rb ps:Nat) (s:St):Prop:=∃ vj,ZF w0 w sb (·=rb) s/\Z7u w rb sb false vj ps/\w0.w.heap.size <= rb
def Z5n (w0:Z0b) (w:World) (sb rb ps:Nat) (s:St):Prop:=∃ A c,ZF w0 w sb (·=rb) s/\Z7u w rb sb true (.slice A 0 c) ps/\w0.w.heap.size <= rb/\c <= maxLen
def BrK (rb jr jb:Nat) (vi vd:Value) (k:Nat):Prop:=k=rb ∨ k=jr ∨ k=jb ∨ vi.ownBlock=some k ∨ vd.ownBlock=some k
structure Z0l (w0:Z0b) (w:World) (sb rb ps:Nat) (s:St) (tid n k i:Nat) (known:Bool) (ids:List Nat) (D:List (Int × Int)) (jr jb cj:Nat) (vi vd:Value):Prop where
 law:ZF w0 w sb (BrK rb jr jb vi vd) s
 br:Z7u w rb sb true (.slice (some ⟨jr,0,none⟩) 1 cj) ps
 row:∃ cs:List Value,w.heap[jr]?=some (.cells (ptrV jb :: cs).toArray 196 (0,0))
 job:Zg3 w jb tid n k i known vi vd
 idx:w.ownsRow 0 34 1 vi ids.length (ZE ids)
 dead:w.ownsRow 0 48 2 vd D.length (ZU D)
 new:∀ k,BrK rb jr jb vi vd k->w0.w.heap.size <= k
 cap:1 <= cj/\cj <= maxLen
def Z1K (w0:Z0b) (w:World) (sb rb ps:Nat) (s:St) (tid n k i:Nat) (known:Bool) (ids:List Nat) (D:List (Int × Int)):Prop:=∃ jr jb cj vi vd,Z0l w0 w sb rb ps s tid n k i known ids D jr jb cj vi vd
def Z1B (z:Int) (e:Ending):Prop:=∃ a b c,e=.returned (.agg #[.int .i64 z,a,b,c])
theorem Z26:(Tryz.prog.info? 118).map (·.size)=some 4:=by kernel_rfl
theorem Zb6 {w0:Z0b} {w:World} {sb:Nat} {s:St} (h:ZF w0 w sb (fun _=>False) s) :
  Calls Tryz.prog 6 #[ptrV sb] w (fun e w'=>∃ rb,e=.returned (ptrV rb)/\Z0o w0 w' sb rb 0 s):=by
 have hq:Quiet w (w.alloc (.cells #[ptrV sb,.bool false,.slice none 0 0,.int .i64 0] 73)):=(Z0.refl _ _).alloc _
 have HX:Hid (Z0o w0 (w.alloc (.cells #[ptrV sb,.bool false,.slice none 0 0,.int .i64 0] 73)) sb w.heap.size 0 s) :=
  ⟨.slice none 0 0,(h.quietly hq).mono (fun k e=>Or.inr ⟨by rw [e];exact Nat.le_refl _,by rw [e];simp⟩),⟨Z4 _ _⟩,h.quiet.size⟩
 clear h hq
 go_enter Tryz.func6,Tryz.ntmps6
 go_wp2
 go_ret
 exact ⟨_,rfl,HX.out⟩
theorem ZcV {w0:Z0b} {w:World} {sb rb ps:Nat} {s:St} (h:Z5n w0 w sb rb ps s) (hp:ps < 1000000) :
  Calls Tryz.prog 45 #[ptrV rb] w (fun e w'=>Z1B 4 e/\Z0o w0 w' sb rb (ps+1) s):=by
 obtain ⟨A,c,hl,hb,hr,hc⟩:=h
 obtain ⟨Z8,Z6⟩:∃ Z8:Ending->World->Prop,(fun e w'=>Z1B 4 e/\Z0o w0 w' sb rb (ps+1) s)=Z8:=⟨_,rfl⟩
 rw [Z6]
 have Ze:=zh Z6
 have HL:=zh hl
 have HB:=zh hb
 have HR:=zh hr
 have hq:Quiet w (w.alloc (.cells #[.int .i64 0,.int .u64 0,.int .u64 0,.int .i64 0] 118)):=(Z0.refl _ _).alloc _
 have h2:=Z4 w (.cells #[.int .i64 0,.int .u64 0,.int .u64 0,.int .i64 0] 118)
 obtain ⟨r2,hr2⟩:∃ r2,w.heap.size=r2:=⟨_,rfl⟩
 rw [hr2] at h2
 have HR2:=zh hr2
 unfold maxLen at hc
 clear Z6 hl hr
 go_enter Tryz.func45,Tryz.ntmps45
 go_upto_block 0 with (fail)
 (try rw [hr2])
 generalize w.alloc (.cells #[.int .i64 0,.int .u64 0,.int .u64 0,.int .i64 0] 118)=w1 at *
 have hb1:=hq.get hb.box (fun x=>x)
 obtain ⟨b0,b1,b2,b3⟩:=zC4 hb1
 have bf:=fun o=>Z7 hb1 o
 obtain ⟨e0,e1,e2,e3⟩:=zC4 h2
 have ef:=fun o=>Z7 h2 o
 have hlb:=Z2 hb1
 have hl2:=Z2 h2
 have hbl:=Z2 HB.out.box
 have hne:¬ rb=r2:=by omega
 have hne2:¬ r2=rb:=by omega
 have hw:IntKind.i64.wrap ((ps:Int)+1)=(ps:Int)+1:=Zp _ (by omega) (by omega)
 have HB3:Hid (((w1.setCell ⟨rb,1,none⟩ (.bool false)).setCell ⟨rb,3,none⟩ (.int .i64 ((ps:Int)+1))).heap[rb]?=some (.cells #[ptrV sb,.bool false,.slice A 0 c,.int .i64 ((ps:Int)+1)] 73 (0,0))):=by
  show _=_
  rw [Zg (Zg hb1 _ _) _ _]
  rfl
 have ho3:Z0 (·=rb) w1 ((w1.setCell ⟨rb,1,none⟩ (.bool false)).setCell ⟨rb,3,none⟩ (.int .i64 ((ps:Int)+1))):=((Z0.refl (·=rb) w1).setCell (p:=⟨rb,1,none⟩) (fun _=>rfl) _).setCell (p:=⟨rb,3,none⟩) (fun _=>rfl) _
 have h23:=ho3.get h2 hne2
 have HX:=zh (Z00 h23 (.int .i64 4) (.int .u64 0) (.int .u64 0) (.int .i64 0))
 have Zc:Hid (Z8 (.returned (.agg #[.int .i64 4,.int .u64 0,.int .u64 0,.int .i64 0])) (fourSet ((w1.setCell ⟨rb,1,none⟩ (.bool false)).setCell ⟨rb,3,none⟩ (.int .i64 ((ps:Int)+1))) r2 (.int .i64 4) (.int .u64 0) (.int .u64 0) (.int .i64 0))):=by
  rw [<- Ze.out]
  have ho4:=Zy ((w1.setCell ⟨rb,1,none⟩ (.bool false)).setCell ⟨rb,3,none⟩ (.int .i64 ((ps:Int)+1))) r2 (.int .i64 4) (.int .u64 0) (.int .u64 0) (.int .i64 0)
  have hr2':=HR2.out
  have ho:Z0 (·=rb) w (fourSet ((w1.setCell ⟨rb,1,none⟩ (.bool false)).setCell ⟨rb,3,none⟩ (.int .i64 ((ps:Int)+1))) r2 (.int .i64 4) (.int .u64 0) (.int .u64 0) (.int .i64 0)):=((hq.mono (fun _ _ x=>x.elim)).trans ho3).trans' ho4 (fun k hk e=>by have e':k=r2:=e;omega)
  refine ⟨⟨_,_,_,rfl⟩,.slice A 0 c,HL.out.turn ho (fun k e=>by have e':k=rb:=e;rw [e'];exact HR.out),⟨?_⟩,HR.out⟩
  exact ho4.get HB3.out hne
 unfold fourSet at HX Zc
 clear ho3 h23 hb1 h2 hq
 go_wp2
 exact bodyPost_ret (Z0j Tryz.results45 _ _ r2 _ _ (0,0) _ (by rfl) HX.out Tryz.underlying118 rfl Z26) (by rfl) Zc.out
theorem Zkb {α:Type _} {P:List α->Prop} (h0:P []) (h1:∀ l a,P l->P (l ++ [a])) (l:List α):P l:=by
 have h:∀ m:List α,P m.reverse:=fun m=>by
  induction m with
  | nil=>exact h0
  | cons a m ih=>rw [List.reverse_cons];exact h1 _ _ ih
 have:=h l.reverse
 rw [List.reverse_reverse] at this
 exact this
def ZcW (_:List (List (Option Tup))) (_:List Nat) (_:Nat) (_:List (Int × Int)):List Ent:=[]
structure Zg4 (L:List Nat) (hz:Nat) (H H':List (List (Option Tup))) (l:List (Int × Int)):Prop where
 get:∀ p s,ZM H' p s=if (p,s) ∈ l/\ZN L H hz (p,s)=true then none else ZM H p s
 used:usedH H'+(l.filter (ZN L H hz)).length=usedH H
 fit:∀ T ∈ H',Fits T
 len:H'.length=H.length
theorem Z9E {L:List Nat} {hz:Nat} {H:List (List (Option Tup))} (hfit:∀ T ∈ H,Fits T) (l:List (Int × Int)):l.Nodup->Zg4 L hz H (Z0D L hz H l) l:=by
 refine Zkb (P:=fun l=>l.Nodup->Zg4 L hz H (Z0D L hz H l) l) ?_ ?_ l
 ·exact fun _=>⟨fun p s=>by rw [if_neg (fun x=>by cases x.1)];rfl,rfl,hfit,rfl⟩
 ·intro l a ih hn
  obtain ⟨n1,_,n2⟩:=List.nodup_append.1 hn
  have hi:=ih n1
  have ha:a ∉ l:=fun x=>n2 _ x a (by simp) rfl
  have hga:ZM (Z0D L hz H l) a.1 a.2=ZM H a.1 a.2:=by
   rw [hi.get,if_neg (fun x=>ha x.1)]
  have hda:ZN L (Z0D L hz H l) hz a=ZN L H hz a:=by
   unfold ZN
   rw [hga]
  rw [Zb3,hda]
  cases hd:ZN L H hz a with
  | false =>
   rw [if_neg (by decide)]
   refine ⟨fun p s=>?_,?_,hi.fit,hi.len⟩
   ·rw [hi.get]
    by_cases e:(p,s)=a
    ·rw [e]
     rw [if_neg (fun x=>ha x.1),if_neg (fun x=>by rw [hd] at x;cases x.2)]
    ·by_cases e2:(p,s) ∈ l/\ZN L H hz (p,s)=true
     ·rw [if_pos e2,if_pos ⟨List.mem_append_left _ e2.1,e2.2⟩]
     ·rw [if_neg e2,if_neg (fun x=>e2 ⟨by
         rcases List.mem_append.1 x.1 with y | y
         · exact y
         · exact absurd (by simpa using y) e,x.2⟩)]
   ·rw [List.filter_append]
    simp only [List.filter_cons,hd,List.filter_nil]
    simpa using hi.used
  | true =>
   rw [if_pos rfl]
   obtain ⟨v,hv⟩:∃ v,ZM H a.1 a.2=some v:=by
    unfold ZN at hd
    cases e:ZM H a.1 a.2 with
    | none=>rw [e] at hd;cases hd
    | some v=>exact ⟨v,rfl⟩
   obtain ⟨H',h1,h2⟩:=Zf0 hi.fit (hga.trans hv)
   rw [h1]
   refine ⟨fun p s=>?_,?_,h2.fit,by rw [h2.len,hi.len]⟩
   ·show ZM H' p s=_
    rw [h2.get,hi.get]
    by_cases e:p=a.1/\s=a.2
    ·have e':(p,s)=a:=Prod.ext e.1 e.2
     rw [if_pos e,if_pos ⟨by rw [e'];simp,by rw [e'];exact hd⟩]
    ·rw [if_neg e]
     by_cases e2:(p,s) ∈ l/\ZN L H hz (p,s)=true
     ·rw [if_pos e2,if_pos ⟨List.mem_append_left _ e2.1,e2.2⟩]
     ·rw [if_neg e2,if_neg (fun x=>e2 ⟨by
         rcases List.mem_append.1 x.1 with y | y
         · exact y
         · have y':(p,s)=a:=by simpa using y
           exact absurd ⟨congrArg Prod.fst y',congrArg Prod.snd y'⟩ e,x.2⟩)]
   ·show usedH H'+_=_
    have h3:=h2.used
    have h4:=hi.used
    rw [List.filter_append,List.length_append]
    simp only [List.filter_cons,hd,List.filter_nil]
    show usedH H'+((l.filter (ZN L H hz)).length+1)=_
    omega
def Zek (w:World) (sb:Nat) (o:Nat->Nat) (s:St) (id hz:Nat) (H:List (List (Option Tup))) (ps:List (Int × Int)) (e:Ending) (w':World):Prop :=
 (∃ z:Int,e=.returned (.int .i64 z))/\Z0Z w sb o { s with hs:=upd s.hs id (some (Z0D s.L hz H ps)) } w'
theorem ZbC {w:World} {sb id hz N n c:Nat} {o:Nat->Nat} {s:St} {H:List (List (Option Tup))} {ps:List (Int × Int)} {A:Option Addr} {Sv:Nat->Prop} (h:Zn w sb o s) (hid:U64 id) (hH:s.hs id=some H) (hfit:∀ T ∈ H,Fits T) (hnum:Z2k H) (hr:Rd w Sv 2 A n (ZU ps)) (hS:∀ k,Sv k->o k=0) (hpl:ps.length=n) (hc:n <= c) (hm:c <= maxLen) (hnd:ps.Nodup) (hg:∀ a ∈ ps,∃ v,ZM H a.1 a.2=some v)
  (hh:Z1u s hz) (hL:s.L.length < 1000000000) (hN:∀ x y,s.sn x=some y->x <= N) (hN2:N <= 2000000) :
  Calls Tryz.prog 94 #[ptrV sb,.int .u64 (id:Int),.slice A n c] w (Zek w sb o s id hz H ps):=by
 obtain ⟨lb,bb,pb,mh,mt,ms,fh,ft,fs,h⟩:=h
 obtain ⟨hb,hfh,_⟩:=h.heaps.2 id H hH
 have HH:=zh h
 have HF:=zh hfh
 have HID:=zh hid
 have HHH:=zh hH
 have HFIT:=zh hfit
 have HNUM:=zh hnum
 have HLD:=zh (Z7K hr)
 have HSV:=zh hS
 have HPL:=zh hpl
 have HND:=zh hnd
 have HG:=zh hg
 have HHZ:=zh hh
 have HNN:=zh (And.intro hL (And.intro hN hN2))
 have hH0:({ s with hs:=upd s.hs id (some (Z0D s.L hz H (ps.take 0))) }:St)=s:=by
  have:upd s.hs id (some H)=s.hs:=by
   funext k
   by_cases e:k=id
   ·rw [e];simp [upd,hH]
   ·simp [upd,e]
  show ({ s with hs:=upd s.hs id (some H) }:St)=s
  rw [this]
 have HST0:Hid (Zj w sb o { s with hs:=upd s.hs id (some (Z0D s.L hz H (ps.take 0))) } lb bb pb mh mt ms fh ft fs):=by rw [hH0];exact h
 obtain ⟨Z8,Z6⟩:∃ Z8,Zek w sb o s id hz H ps=Z8:=⟨_,rfl⟩
 rw [Z6]
 have Ze:=zh Z6
 unfold maxLen at hm
 clear h hfh hid hH hfit hnum hr hS hpl hnd hg hh hL hN hN2 Z6 hH0
 go_enter Tryz.func94,Tryz.ntmps94
 go_wp2
 go_loopw [14,7,9] (fun i v _ wr=>∃ (k m:Nat) (o':Nat->Nat),k <= n/\i=.int .i64 (k:Int)/\m <= k/\v=.int .i64 (m:Int)/\Zj wr sb o' { s with hs:=upd s.hs id (some (Z0D s.L hz H (ps.take k))) } lb bb pb mh mt ms fh ft fs/\(∀ j,j < w.heap.size->o' j=o j)/\Z0 (fun j=>o j=10+2 * id) w wr) (fun i _ _ _=>n - (intOf i).toNat)
 case atStart=>exact ⟨0,0,o,Nat.zero_le _,rfl,Nat.le_refl _,rfl,HST0.out,fun _ _=>rfl,Z0.refl _ _⟩
 case round =>
  obtain ⟨k,m,o',hk,rfl,hmk,rfl,hR,hO,hT⟩:=hrel
  have HR:=zh hR
  have HO:=zh hO
  have HT:=zh hT
  clear hR hO hT
  by_cases hlt:k < n
  ·obtain ⟨⟨pg,sl⟩,ha⟩:∃ a,ps[k]?=some a:=⟨_,zg (by have:=HPL.out;omega)⟩
   obtain ⟨v,hgv0⟩:=HG.out (pg,sl) (List.mem_of_getElem? ha)
   have hnk:(pg,sl) ∉ ps.take k:=fun x=>by
    obtain ⟨j,hj⟩:=List.mem_iff_getElem?.1 x
    have hjk:j < k:=by
     have:=(zi.1 hj).1
     rw [List.length_take] at this
     omega
    rw [List.getElem?_take_of_lt hjk] at hj
    have:=(List.getElem?_inj (zi.1 hj).1 HND.out).1 (hj.trans ha.symm)
    omega
   have hsw:=Z9E (L:=s.L) (hz:=hz) HFIT.out (ps.take k) (HND.out.sublist (List.take_sublist _ _))
   have hgv:ZM (Z0D s.L hz H (ps.take k)) pg sl=some v:=by
    rw [hsw.get,if_neg (fun x=>hnk x.1)]
    exact hgv0
   obtain ⟨hx1,hx2⟩:=HNUM.out pg sl v hgv0
   obtain ⟨bl,ofl,rfl,_,la,lb2⟩:=Z5K (HLD.out.kept HT.out (fun k hk e=>by have:=HSV.out k hk.1;omega)) ha
   obtain ⟨r,hrv⟩:∃ r,Z0h s.L v.xmin v.xmax hz=r:=⟨_,rfl⟩
   have HTK:Hid (Z0D s.L hz H (ps.take (k+1))=if r then (Z1q (Z0D s.L hz H (ps.take k)) pg sl).2 else Z0D s.L hz H (ps.take k)):=by
    show _=_
    rw [List.take_add_one,ha,Option.toList_some,Zb3]
    have e1:ZN s.L (Z0D s.L hz H (ps.take k)) hz (pg,sl)=r:=by unfold ZN;rw [hgv];exact hrv
    rw [e1]
   obtain ⟨HK,hHK⟩:∃ HK,Z0D s.L hz H (ps.take k)=HK:=⟨_,rfl⟩
   rw [hHK] at HR HTK hgv hsw
   have hcode:(Z1q HK pg sl).1=0:=by unfold Z1q;rw [hgv]
   have HCODE:=zh hcode
   have hqb:Quiet wr (wr.alloc (.cells #[.int .i64 pg,.int .i64 sl] 48)):=(Z0.refl _ _).alloc _
   have hat:=Z4 wr (.cells #[.int .i64 pg,.int .i64 sl] 48)
   obtain ⟨at_,hat_⟩:∃ at_,wr.heap.size=at_:=⟨_,rfl⟩
   rw [hat_] at hat
   have HQB:Hid (Quiet wr (wr.alloc (.cells #[.int .i64 pg,.int .i64 sl] 48))):=hqb
   have HZA:Hid (o' at_=0):=HR.out.big at_ (by omega)
   have HSA:Hid (Zn wr sb o' { s with hs:=upd s.hs id (some HK) }):=⟨_,_,_,_,_,_,_,_,_,HR.out⟩
   have hHK2:({ s with hs:=upd s.hs id (some HK) }:St).hs id=some HK:=by simp [upd]
   have HDD:Hid (∀ W,Quiet (wr.alloc (.cells #[.int .i64 pg,.int .i64 sl] 48)) W->Calls Tryz.prog 130 #[ptrV sb,.int .u64 (id:Int),.agg #[.int .i64 pg,.int .i64 sl],.int .u64 (hz:Int)] W (Z0a W r)):=fun W hq=>by
    rw [<- hrv]
    exact Z9y (s:={ s with hs:=upd s.hs id (some HK) }) (HSA.out.quietly (HQB.out.trans hq)) HID.out hHK2 hgv hx1 hx2
   have HHO:Hid (∀ W,Quiet (wr.alloc (.cells #[.int .i64 pg,.int .i64 sl] 48)) W->Calls Tryz.prog 30 #[ptrV sb] W (fun e w'=>e=.returned (.int .u64 (hz:Int))/\Quiet W w')):=fun W hq=>by
    refine (Z3g (N:=N) (HSA.out.quietly (HQB.out.trans hq)) HNN.out.1 HNN.out.2.1 HNN.out.2.2).mono ?_
    rintro e w' ⟨z,rfl,hh,hq'⟩
    have hh':Z1u s z:=⟨hh.none_,hh.some_,hh.least,hh.num⟩
    rw [hh'.same HHZ.out]
    exact ⟨rfl,hq'⟩
   obtain ⟨hb',hf',hp'⟩:=HR.out.heaps.2 id HK hHK2
   have hbe:hb'=hb:=by
    rw [HF.out] at hf'
    injection hf' with hf'
    have e':(Value.pointer (some ⟨hb,0,none⟩))=.pointer (some ⟨hb',0,none⟩):=hf'
    injection e' with e'
    injection e' with e'
    injection e' with e' _ _
    exact e'.symm
   subst hbe
   have HP:=zh hp'
   dsimp only at la lb2
   clear ha hgv hx1 hx2 hrv hnk hsw hgv0 hcode hHK hf' hp' hHK2
   go_wp2_with fail
   (try rw [hat_])
   generalize wr.alloc (.cells #[.int .i64 pg,.int .i64 sl] 48)=wb at *
   have HAT:=zh hat
   have HATE:=zh hat_
   clear la lb2 hat hqb hat_
   have HS6:Hid (∀ W,Z0 (fun j=>o' j=10+2 * id) wb W->(fun w'=>w'.cell? ⟨at_,0,none⟩=some (.int .i64 pg)/\w'.cell? ⟨at_,1,none⟩=some (.int .i64 sl)/\w'.cell? ⟨sb,3,none⟩=some (.map (some mh))/\(Instr.lookup 66 (.map (some mh)) (.int .u64 (id:Int)) false).run Tryz.prog w'=.ok (ptrV hb') w') W):=fun W ho=>by
    have tg:=HR.out.tags
    have h2:=HR.out.quietly HQB.out
    have b7:=ho.get HAT.out (fun e=>by have:=HZA.out;omega)
    exact ⟨by rw [Z1 b7];rfl,by rw [Z1 b7];rfl,ho.cell h2.cells.2.2.2.1 (fun e=>by dsimp only at e;omega),Z1P (h2.mH.kept ho (fun e=>by omega)) HF.out HID.out⟩
   have HFREE:Hid (∀ W,Quiet wb W->Calls Tryz.prog 132 #[ptrV hb',.agg #[.int .i64 pg,.int .i64 sl]] W (fun e w'=>e=.returned (.int .i64 0)/\Z0 (fun j=>o' j=10+2 * id) W w'/\Zo w' hb' pb (fun j=>o' j=10+2 * id) (Z1q HK pg sl).2)):=fun W hq=>by
    have:=ZgC pg sl (HP.out.kept (HQB.out.trans hq) (fun _ _ x=>x))
    rw [HCODE.out] at this
    exact this
   cases r with
   | false =>
    refine zH HS6 ((Z0.refl _ _).drew) (fun Z3=>?_)
    have q0:Quiet wb wb.drew:=(Z0.refl _ _).drew
    generalize wb.drew=d0 at q0 Z3 ⊢
    refine zT 0 ?_
    refine zT 1 ?_
    refine zT 2 ?_
    refine zT 3 ?_
    refine zR 4 ?_
    intro K hK
    go_simp
    go_at_call 30
    refine (HHO.out _ q0).mono ?_
    rintro e d1 ⟨rfl,hq1⟩
    have q1:=q0.trans hq1
    clear hq1
    dsimp only
    refine hK.out _ _ ?_ (fun Z3=>?_)
    ·exact HS6.out _ (q1.mono (fun _ _ x=>x.elim))
    clear hK K
    (try simp only [Act.put,zPA,zPZ,zPS])
    refine zR 5 ?_
    intro K hK
    go_simp
    go_at_call 130
    refine (HDD.out _ q1).mono ?_
    rintro e d2 ⟨rfl,hq2⟩
    have q2:=q1.trans hq2
    clear hq2
    dsimp only
    refine hK.out _ _ ?_ (fun Z3=>?_)
    ·exact HS6.out _ (q2.mono (fun _ _ x=>x.elim))
    clear hK K
    (try simp only [Act.put,zPA,zPZ,zPS])
    refine zT 6 ?_
    refine zO 7 ?_
    refine zO 8 ?_
    refine zO 9 ?_
    refine zO 10 ?_
    refine zO 11 ?_
    refine zO 12 ?_
    refine zO 13 ?_
    refine zO 14 ?_
    refine zO 15 ?_
    refine zT 16 ?_
    refine zD ?_
    rw [if_neg (by decide)] at HTK
    have Zc:Hid (Zj d2 sb o' { s with hs:=upd s.hs id (some (Z0D s.L hz H (ps.take (k+1)))) } lb bb pb mh mt ms fh ft fs):=by
     rw [HTK.out]
     exact HR.out.quietly (HQB.out.trans q2)
    have HTE:Hid (Z0 (fun j=>o j=10+2 * id) w d2):=(HT.out.trans' HQB.out (fun _ _ x=>x.elim)).trans' q2 (fun _ _ x=>x.elim)
    clear Z3 q0 q1 q2 HS6 HDD HHO HFREE
    go_wp2
    go_roundw
    case rel=>exact ⟨k+1,m,o',by omega,by go_num,by omega,rfl,Zc.out,HO.out,HTE.out⟩
    case measure=>simp [intOf];omega
   | true =>
    refine zH HS6 ((Z0.refl _ _).drew) (fun Z3=>?_)
    have q0:Quiet wb wb.drew:=(Z0.refl _ _).drew
    generalize wb.drew=d0 at q0 Z3 ⊢
    refine zT 0 ?_
    refine zT 1 ?_
    refine zT 2 ?_
    refine zT 3 ?_
    refine zR 4 ?_
    intro K hK
    go_simp
    go_at_call 30
    refine (HHO.out _ q0).mono ?_
    rintro e d1 ⟨rfl,hq1⟩
    have q1:=q0.trans hq1
    clear hq1
    dsimp only
    refine hK.out _ _ ?_ (fun Z3=>?_)
    ·exact HS6.out _ (q1.mono (fun _ _ x=>x.elim))
    clear hK K
    (try simp only [Act.put,zPA,zPZ,zPS])
    refine zR 5 ?_
    intro K hK
    go_simp
    go_at_call 130
    refine (HDD.out _ q1).mono ?_
    rintro e d2 ⟨rfl,hq2⟩
    have q2:=q1.trans hq2
    clear hq2
    dsimp only
    refine hK.out _ _ ?_ (fun Z3=>?_)
    ·exact HS6.out _ (q2.mono (fun _ _ x=>x.elim))
    clear hK K
    (try simp only [Act.put,zPA,zPZ,zPS])
    refine zT 6 ?_
    refine zT 7 ?_
    refine zT 8 ?_
    refine zT 9 ?_
    refine zT 10 ?_
    refine zT 11 ?_
    refine zT 12 ?_
    refine zT 13 ?_
    refine zR 14 ?_
    intro K hK
    go_simp
    go_at_call 132
    refine (HFREE.out _ q2).mono ?_
    rintro e d3 ⟨rfl,ho3,hh3⟩
    dsimp only
    refine hK.out _ _ ?_ (fun Z3=>?_)
    ·exact HS6.out _ ((q2.mono (fun _ _ x=>x.elim)).trans ho3)
    clear hK K
    (try simp only [Act.put,zPA,zPZ,zPS])
    refine zT 15 ?_
    refine zT 16 ?_
    refine zD ?_
    rw [if_pos rfl] at HTK
    have hst:=(HR.out.quietly (HQB.out.trans q2)).setHeap (id:=id) (left':=s.left) (H':=(Z1q HK pg sl).2) HF.out (ho3.mono (fun j _ e=>Or.inl e)) (((HR.out.quietly (HQB.out.trans q2)).pool).kept ho3 (fun e=>by have:=HR.out.tags;omega)) (hh3.mono (fun j e=>Or.inl e))
    have Zc:Hid (Zj d3 sb (grow o' d2.heap.size d3.heap.size (10+2 * id)) { s with hs:=upd s.hs id (some (Z0D s.L hz H (ps.take (k+1)))) } lb bb pb mh mt ms fh ft fs):=by
     rw [HTK.out]
     have e1:({ ({ s with hs:=upd s.hs id (some HK) }:St) with left:=s.left,hs:=upd ({ s with hs:=upd s.hs id (some HK) }:St).hs id (some (Z1q HK pg sl).2) }:St)={ s with hs:=upd s.hs id (some (Z1q HK pg sl).2) }:=by
      simp only [Z44]
     rw [e1] at hst
     exact hst
    have hz2:=q2.size
    have hzb:=HQB.out.size
    have hzt:=HT.out.size
    have HOE:Hid (∀ j,j < w.heap.size->grow o' d2.heap.size d3.heap.size (10+2 * id) j=o j):=fun j hj=>by
     rw [Z0K (by omega)]
     exact HO.out j hj
    have HTE:Hid (Z0 (fun j=>o j=10+2 * id) w d3):=((HT.out.trans' HQB.out (fun _ _ x=>x.elim)).trans' q2 (fun _ _ x=>x.elim)).trans' ho3 (fun j hj e=>by rw [<- HO.out j hj];exact e)
    have hw1:IntKind.i64.wrap ((m:Int)+1)=((m+1:Nat):Int):=by rw [Zp _ (by omega) (by omega)];rfl
    clear Z3 q0 q1 q2 ho3 hh3 HS6 HDD HHO HFREE hst hz2 hzb hzt
    go_wp2
    go_roundw
    case rel=>exact ⟨k+1,m+1,_,by omega,by go_num,by omega,by first | rfl | go_num,Zc.out,HOE.out,HTE.out⟩
    case measure=>simp [intOf];omega
  ·obtain rfl:k=n:=by omega
   have Zc:Hid (Z8 (.returned (.int .i64 (m:Int))) wr):=by
    rw [<- Ze.out]
    have:=HR.out
    rw [List.take_of_length_le (by have:=HPL.out;omega)] at this
    exact ⟨⟨_,rfl⟩,o',HO.out,HT.out.mono (fun j _ e=>by omega),_,_,_,_,_,_,_,_,_,this⟩
   go_wp2
   exact Zc.out
theorem ZfG {w:World} {g c n lc zc oc:Nat} {ps:List Nat} {ds:List Bool} {R:Nat->World->Prop} {cur:Array Value} (hpl:ps.length=n) (hdl:ds.length=n) (hc:n <= c) (hm:c <= maxLen) (hg:w.heap[g]?=some (.cells cur 138 (0,0))) (hcur:∀ (i p:Nat),ps[i]?=some p->cur[i]?=some (ptrV p))
  (hf:∀ (k p:Nat) d W,R k W->ps[k]?=some p->ds[k]?=some d->Calls Tryz.prog 186 #[ptrV p,ptrV lc,ptrV zc,ptrV oc] W (fun e w'=>e=.returned (.bool d)/\R (k+1) w'/\∀ o,W.heap[g]?=some o->w'.heap[g]?=some o)) (h0:R 0 w) :
  Calls Tryz.prog 195 #[.slice (some ⟨g,0,none⟩) n c,.func (.func 186) #[] #[ptrV lc,ptrV zc,ptrV oc]] w (fun e w'=>w'.heap[g]?=some (.cells cur 138 (0,0))/\((∃ i:Nat,i < n/\ds[i]?=some true/\(∀ j:Nat,j < i->ds[j]?=some false)/\e=.returned (.int .i64 (i:Int))/\R (i+1) w') ∨ ((∀ j:Nat,j < n->ds[j]?=some false)/\e=.returned (.int .i64 (-1))/\R n w'))):=by
 obtain ⟨Z8,Z6⟩:∃ Z8:Ending->World->Prop,(fun e w'=>w'.heap[g]?=some (.cells cur 138 (0,0))/\((∃ i:Nat,i < n/\ds[i]?=some true/\(∀ j:Nat,j < i->ds[j]?=some false)/\e=.returned (.int .i64 (i:Int))/\R (i+1) w') ∨ ((∀ j:Nat,j < n->ds[j]?=some false)/\e=.returned (.int .i64 (-1))/\R n w')))=Z8:=⟨_,rfl⟩
 rw [Z6]
 have Ze:=zh Z6
 have HG:=zh hg
 have HCUR:=zh hcur
 have HF:=zh hf
 have HR0:=zh h0
 have HPL:=zh hpl
 have HDL:=zh hdl
 unfold maxLen at hm
 clear Z6 hg hcur hf h0 hpl hdl
 go_enter Tryz.func195,Tryz.ntmps195
 go_wp2
 go_loopw [8,5] (fun i _ wr=>∃ k:Nat,k <= n/\i=.int .i64 (k:Int)/\R k wr/\wr.heap[g]?=some (.cells cur 138 (0,0))/\∀ j:Nat,j < k->ds[j]?=some false) (fun i _ _=>n - (intOf i).toNat)
 case atStart=>exact ⟨0,Nat.zero_le _,rfl,HR0.out,HG.out,fun j hj=>absurd hj (by omega)⟩
 case round =>
  obtain ⟨k,hk,rfl,hR,hgr,hno⟩:=hrel
  have HR:=zh hR
  have HGR:=zh hgr
  have HNO:=zh hno
  clear hR hgr hno
  by_cases hlt:k < n
  ·obtain ⟨p,hp⟩:∃ p,ps[k]?=some p:=⟨_,zg (by have:=HPL.out;omega)⟩
   obtain ⟨d,hd⟩:∃ d,ds[k]?=some d:=⟨_,zg (by have:=HDL.out;omega)⟩
   have hcell:wr.cell? ⟨g,k,none⟩=some (ptrV p):=by rw [Z1 HGR.out];exact HCUR.out k p hp
   have lg:=Zf hcell
   dsimp only at lg
   have HC:=zh (HF.out k p d wr HR.out hp hd)
   have HD:=zh hd
   have hw1:IntKind.i64.wrap ((k:Int)+1)=((k+1:Nat):Int):=by rw [Zp _ (by omega) (by omega)];rfl
   clear hp hd
   go_wp2_with fail
   refine HC.out.mono ?_
   rintro e w2 ⟨rfl,hR2,hg2⟩
   have HR2:=zh hR2
   have HG2:=zh (hg2 _ HGR.out)
   clear hR2 hg2 HC hcell lg
   cases d with
   | true =>
    have Zc:Hid (Z8 (.returned (.int .i64 (k:Int))) w2):=by
     rw [<- Ze.out]
     exact ⟨HG2.out,Or.inl ⟨k,hlt,HD.out,HNO.out,rfl,HR2.out⟩⟩
    go_wp2
    exact Zc.out
   | false =>
    go_wp2
    go_roundw
    case rel=>exact ⟨k+1,by omega,by first | rfl | go_num,HR2.out,HG2.out,fun j hj=>by
                  by_cases e:j=k
                  · rw [e];exact HD.out
                  · exact HNO.out j (by omega)⟩
    case measure=>simp [intOf];omega
  ·obtain rfl:k=n:=by omega
   have Zc:Hid (Z8 (.returned (.int .i64 (-1))) wr):=by
    rw [<- Ze.out]
    exact ⟨HGR.out,Or.inr ⟨HNO.out,rfl,HR.out⟩⟩
   go_wp2
   exact Zc.out
theorem deleteT_nil {w:World} {c lc zc oc:Nat} {A:Option Addr} :
  Calls Tryz.prog 185 #[.slice A 0 c,.func (.func 186) #[] #[ptrV lc,ptrV zc,ptrV oc]] w (fun e w'=>e=.returned (.slice A 0 c)/\w'=w):=by
 have HI:Hid (Calls Tryz.prog 195 #[.slice A 0 c,.func (.func 186) #[] #[ptrV lc,ptrV zc,ptrV oc]] w (fun e w'=>e=.returned (.int .i64 (-1))/\w'=w)):=by
  go_enter Tryz.func195,Tryz.ntmps195
  go_wp2
  refine wp_loop_rounds 1 ?_
  rw [rounds_succ]
  go_wp2
  go_ret
  exact ⟨rfl,rfl⟩
 go_enter Tryz.func185,Tryz.ntmps185
 go_wp2_with fail
 refine HI.out.mono ?_
 rintro e w1 ⟨rfl,rfl⟩
 go_wp2
 go_ret
 exact ⟨rfl,rfl⟩
theorem ZdP {w:World} {g c n lc zc oc:Nat} {ps:List Nat} {ds:List Bool} {R:Nat->World->Prop} {cur:Array Value} (hpl:ps.length=n) (hdl:ds.length=n) (hc:n <= c) (hm:c <= maxLen) (hn:n <= 100000) (hg:w.heap[g]?=some (.cells cur 138 (0,0))) (hsz:cur.size=c) (hcur:∀ (i p:Nat),ps[i]?=some p->cur[i]?=some (ptrV p))
  (hf:∀ (k p:Nat) d W,R k W->ps[k]?=some p->ds[k]?=some d->Calls Tryz.prog 186 #[ptrV p,ptrV lc,ptrV zc,ptrV oc] W (fun e w'=>e=.returned (.bool d)/\R (k+1) w'/\∀ o,W.heap[g]?=some o->w'.heap[g]?=some o)) (hR:∀ k W W',R k W->Z0 (·=g) W W'->R k W') (h0:R 0 w) :
  Calls Tryz.prog 185 #[.slice (some ⟨g,0,none⟩) n c,.func (.func 186) #[] #[ptrV lc,ptrV zc,ptrV oc]] w (fun e w'=>e=.returned (.slice (some ⟨g,0,none⟩) (Z0e ps ds n).length c)/\R n w'/\∃ cur',w'.heap[g]?=some (.cells cur' 138 (0,0))/\cur'.size=c/\∀ (i p:Nat),(Z0e ps ds n)[i]?=some p->cur'[i]?=some (ptrV p)):=by
 have HI:=zh (ZfG (c:=c) hpl hdl hc hm hg hcur hf h0)
 obtain ⟨Z8,Z6⟩:∃ Z8:Ending->World->Prop,(fun e w'=>e=.returned (.slice (some ⟨g,0,none⟩) (Z0e ps ds n).length c)/\R n w'/\∃ cur',w'.heap[g]?=some (.cells cur' 138 (0,0))/\cur'.size=c/\∀ (i p:Nat),(Z0e ps ds n)[i]?=some p->cur'[i]?=some (ptrV p))=Z8:=⟨_,rfl⟩
 rw [Z6]
 have Ze:=zh Z6
 have HCUR:=zh hcur
 have HF:=zh hf
 have HRG:=zh hR
 have HPL:=zh hpl
 have HDL:=zh hdl
 have HSZ:=zh hsz
 unfold maxLen at hm
 clear Z6 hg hcur hf h0 hpl hdl hR hsz
 go_enter Tryz.func185,Tryz.ntmps185
 go_wp2_with fail
 refine HI.out.mono ?_
 rintro e w1 ⟨hg1,hcase⟩
 rcases hcase with ⟨i,hin,hdi,hno,rfl,hR1⟩ | ⟨hno,rfl,hR1⟩
 ·have HG1:=zh hg1
  have HR1:=zh hR1
  have hK1:(Z0e ps ds (i+1)).length=i:=by
   obtain ⟨p,hp⟩:∃ p,ps[i]?=some p:=⟨_,zg (by have:=HPL.out;omega)⟩
   rw [Z32 hp hdi]
   have:Z0e ps ds i=ps.take i:=Z3C (fun j hj=>hno j hj) (by have:=HPL.out;have:=HDL.out;omega) (by have:=HPL.out;omega)
   rw [this]
   simp
   have:=HPL.out
   omega
  have hKp:∀ (j q:Nat),(Z0e ps ds (i+1))[j]?=some q->cur[j]?=some (ptrV q):=fun j q hq=>by
   obtain ⟨p,hp⟩:∃ p,ps[i]?=some p:=⟨_,zg (by have:=HPL.out;omega)⟩
   rw [Z32 hp hdi,Z3C (fun j hj=>hno j hj) (by have:=HPL.out;have:=HDL.out;omega) (by have:=HPL.out;omega)] at hq
   simp only [if_pos,List.append_nil] at hq
   have hl:=(zi.1 hq).1
   rw [List.length_take] at hl
   rw [List.getElem?_take_of_lt (by omega)] at hq
   exact HCUR.out j q hq
  have HK1:=zh hK1
  have HKP:=zh hKp
  have hw0:IntKind.i64.wrap ((i:Int)+1)=((i+1:Nat):Int):=by rw [Zp _ (by omega) (by omega)];rfl
  have hne:((i:Int) == -1)=false:=by simp
  clear hg1 hR1 hno hdi HI hK1 hKp
  go_wp2
  go_loopw [5,6,7] (fun m j _ wr=>∃ (k a:Nat) (cr:Array Value),i < k/\k <= n/\j=.int .i64 (k:Int)/\a=(Z0e ps ds k).length/\a < k/\m=.int .i64 (a:Int)/\R k wr/\wr.heap[g]?=some (.cells cr 138 (0,0))/\cr.size=c/\(∀ (x q:Nat),(Z0e ps ds k)[x]?=some q->cr[x]?=some (ptrV q))/\∀ (x q:Nat),k <= x->ps[x]?=some q->cr[x]?=some (ptrV q)) (fun _ j _ _=>n - (intOf j).toNat)
  case atStart=>exact ⟨i+1,i,cur,by omega,by omega,by first | rfl | go_num,HK1.out.symm,by omega,rfl,HR1.out,HG1.out,HSZ.out,HKP.out,fun x q _ hq=>HCUR.out x q hq⟩
  case round =>
   obtain ⟨k,a,cr,hik,hk,rfl,ha,hak,rfl,hR,hg,hs,hkp,hrest⟩:=hrel
   have HA:=zh ha
   have HR:=zh hR
   have HG:=zh hg
   have HS:=zh hs
   have HKQ:=zh hkp
   have HRE:=zh hrest
   clear ha hR hg hs hkp hrest HG1 HR1 HK1 HKP
   by_cases hlt:k < n
   ·obtain ⟨p,hp⟩:∃ p,ps[k]?=some p:=⟨_,zg (by have:=HPL.out;omega)⟩
    obtain ⟨d,hd⟩:∃ d,ds[k]?=some d:=⟨_,zg (by have:=HDL.out;omega)⟩
    have hcell:wr.cell? ⟨g,k,none⟩=some (ptrV p):=by rw [Z1 HG.out];exact HRE.out k p (Nat.le_refl _) hp
    have lg:=Zf hcell
    dsimp only at lg
    have HC:=zh (HF.out k p d wr HR.out hp hd)
    have HSU:=zh (Z32 hp hd)
    have HP:=zh hp
    have hw1:IntKind.i64.wrap ((k:Int)+1)=((k+1:Nat):Int):=by rw [Zp _ (by omega) (by omega)];rfl
    have hw2:IntKind.i64.wrap ((a:Int)+1)=((a+1:Nat):Int):=by rw [Zp _ (by omega) (by omega)];rfl
    clear hp hd
    go_wp2_with fail
    refine HC.out.mono ?_
    rintro e w2 ⟨rfl,hR2,hg2⟩
    have HR2:=zh hR2
    have hgg:=hg2 _ HG.out
    have HG2:=zh hgg
    clear hR2 hg2 HC hcell lg
    cases d with
    | true =>
     have e1:Z0e ps ds (k+1)=Z0e ps ds k:=by rw [HSU.out];simp
     have E1:=zh e1
     clear hgg e1 hw2
     go_wp2
     go_roundw
     case rel=>exact ⟨k+1,a,cr,by omega,by omega,by first | rfl | go_num,by rw [E1.out];exact HA.out,by omega,rfl,HR2.out,HG2.out,HS.out,by rw [E1.out];exact HKQ.out,fun x q hx hq=>HRE.out x q (by omega) hq⟩
     case measure=>simp [intOf];omega
    | false =>
     have E1:Hid (Z0e ps ds (k+1)=Z0e ps ds k ++ [p]):=by show _=_;rw [HSU.out];simp
     have hca:∃ v,cr[a]?=some v:=⟨_,Array.getElem?_eq_getElem (by have:=HS.out;omega)⟩
     obtain ⟨va,hva⟩:=hca
     have hcl:w2.cell? ⟨g,a,none⟩=some va:=by rw [Z1 hgg];exact hva
     have lg:=Z2 hgg
     have gf:=fun o=>Z7 hgg o
     have HX:=zh (Zg hgg a (ptrV p))
     have ho:Z0 (·=g) w2 (w2.setCell ⟨g,a,none⟩ (ptrV p)):=(Z0.refl (·=g) w2).setCell (p:=⟨g,a,none⟩) (fun _=>rfl) _
     have HR3:=zh (HRG.out _ _ _ HR2.out ho)
     clear hgg ho hva
     go_wp2
     go_roundw
     case rel=>exact ⟨k+1,a+1,cr.setIfInBounds a (ptrV p),by omega,by omega,by first | rfl | go_num,by rw [E1.out,List.length_append,<- HA.out];rfl,by omega,by first | rfl | go_num,HR3.out,HX.out,by rw [Array.size_setIfInBounds];exact HS.out,fun x q hx=>by
                   rw [E1.out] at hx
                   by_cases e:x=a
                   · subst e
                     rw [List.getElem?_append_right (by have:=HA.out;omega)] at hx
                     rw [HA.out,Nat.sub_self] at hx
                     simp at hx
                     subst hx
                     rw [Array.getElem?_setIfInBounds_self_of_lt (by have:=HS.out;omega)]
                   · have hl:=(zi.1 hx).1
                     rw [List.length_append] at hl
                     simp only [List.length_cons,List.length_nil] at hl
                     rw [List.getElem?_append_left (by have:=HA.out;omega)] at hx
                     rw [Array.getElem?_setIfInBounds_ne (by omega)]
                     exact HKQ.out x q hx,fun x q hx hq=>by
                   rw [Array.getElem?_setIfInBounds_ne (by omega)]
                   exact HRE.out x q (by omega) hq⟩
     case measure=>simp [intOf];omega
   ·obtain rfl:k=n:=by omega
    have hla:=Z2 HG.out
    obtain ⟨d,hd⟩:∃ d,k - a=d+1:=⟨k - a - 1,by omega⟩
    have hfit:a+(d+1) <= cr.size:=by have:=HS.out;omega
    obtain ⟨w2,hclr,hg2,ho2⟩:=Z61 (P:=Tryz.prog) wr 129 138 Tryz.underlying129 (fun w=>by kernel_rfl) (o:=a) (d:=d) (c:=c - a) HG.out hfit
    have HG2:=zh hg2
    have HR2:=zh (HRG.out _ _ _ HR.out ho2)
    have Zc:Hid (Z8 (.returned (.slice (some ⟨g,0,none⟩) a c)) w2):=by
     rw [<- Ze.out]
     refine ⟨by rw [HA.out],HR2.out,_,HG2.out,?_,fun x q hx=>?_⟩
     ·rw [Z0i (by rw [List.length_replicate];exact hfit)]
      exact HS.out
     ·have hl:=(zi.1 hx).1
      have:=Z83 cr a (List.replicate (d+1) (.pointer none)) (x:=x) (by have:=HA.out;omega) (by rw [List.length_replicate];exact hfit)
      rw [this]
      exact HKQ.out x q hx
    have d1:¬ c=a:=by omega
    have d2:(a:Int) <= (k:Int):=by omega
    have d3:(k:Int) <= (c:Int):=by omega
    have d4:(a:Int) <= (c:Int):=by omega
    have d5:¬ c=0:=by omega
    rw [<- hd] at hclr
    clear hg2 ho2 hlt hfit hd
    go_wp2
    exact Zc.out
 ·have Zc:Hid (Z8 (.returned (.slice (some ⟨g,0,none⟩) n c)) w1):=by
   rw [<- Ze.out]
   have e1:Z0e ps ds n=ps:=by
    rw [Z3C (fun j hj=>hno j hj) (by have:=HPL.out;have:=HDL.out;omega) (by have:=HPL.out;omega),List.take_of_length_le (by have:=HPL.out;omega)]
   exact ⟨by rw [e1,HPL.out],hR1,cur,hg1,HSZ.out,fun x q hx=>by rw [e1] at hx;exact HCUR.out x q hx⟩
  clear hg1 hR1 hno HI
  go_wp2
  exact Zc.out
theorem ZfH {w:World} {g c n lc zc oc oc2:Nat} {ps:List Nat} {ds:List Bool} {R:Nat->World->Prop} {cur:Array Value} (hpl:ps.length=n) (hdl:ds.length=n) (hc:n <= c) (hm:c <= maxLen) (hg:w.heap[g]?=some (.cells cur 153 (0,0))) (hcur:∀ (i p:Nat),ps[i]?=some p->cur[i]?=some (ptrV p))
  (hf:∀ (k p:Nat) d W,R k W->ps[k]?=some p->ds[k]?=some d->Calls Tryz.prog 189 #[ptrV p,ptrV lc,ptrV zc,ptrV oc,ptrV oc2] W (fun e w'=>e=.returned (.bool d)/\R (k+1) w'/\∀ o,W.heap[g]?=some o->w'.heap[g]?=some o)) (h0:R 0 w) :
  Calls Tryz.prog 196 #[.slice (some ⟨g,0,none⟩) n c,.func (.func 189) #[] #[ptrV lc,ptrV zc,ptrV oc,ptrV oc2]] w (fun e w'=>w'.heap[g]?=some (.cells cur 153 (0,0))/\((∃ i:Nat,i < n/\ds[i]?=some true/\(∀ j:Nat,j < i->ds[j]?=some false)/\e=.returned (.int .i64 (i:Int))/\R (i+1) w') ∨ ((∀ j:Nat,j < n->ds[j]?=some false)/\e=.returned (.int .i64 (-1))/\R n w'))):=by
 obtain ⟨Z8,Z6⟩:∃ Z8:Ending->World->Prop,(fun e w'=>w'.heap[g]?=some (.cells cur 153 (0,0))/\((∃ i:Nat,i < n/\ds[i]?=some true/\(∀ j:Nat,j < i->ds[j]?=some false)/\e=.returned (.int .i64 (i:Int))/\R (i+1) w') ∨ ((∀ j:Nat,j < n->ds[j]?=some false)/\e=.returned (.int .i64 (-1))/\R n w')))=Z8:=⟨_,rfl⟩
 rw [Z6]
 have Ze:=zh Z6
 have HG:=zh hg
 have HCUR:=zh hcur
 have HF:=zh hf
 have HR0:=zh h0
 have HPL:=zh hpl
 have HDL:=zh hdl
 unfold maxLen at hm
 clear Z6 hg hcur hf h0 hpl hdl
 go_enter Tryz.func196,Tryz.ntmps196
 go_wp2
 go_loopw [8,5] (fun i _ wr=>∃ k:Nat,k <= n/\i=.int .i64 (k:Int)/\R k wr/\wr.heap[g]?=some (.cells cur 153 (0,0))/\∀ j:Nat,j < k->ds[j]?=some false) (fun i _ _=>n - (intOf i).toNat)
 case atStart=>exact ⟨0,Nat.zero_le _,rfl,HR0.out,HG.out,fun j hj=>absurd hj (by omega)⟩
 case round =>
  obtain ⟨k,hk,rfl,hR,hgr,hno⟩:=hrel
  have HR:=zh hR
  have HGR:=zh hgr
  have HNO:=zh hno
  clear hR hgr hno
  by_cases hlt:k < n
  ·obtain ⟨p,hp⟩:∃ p,ps[k]?=some p:=⟨_,zg (by have:=HPL.out;omega)⟩
   obtain ⟨d,hd⟩:∃ d,ds[k]?=some d:=⟨_,zg (by have:=HDL.out;omega)⟩
   have hcell:wr.cell? ⟨g,k,none⟩=some (ptrV p):=by rw [Z1 HGR.out];exact HCUR.out k p hp
   have lg:=Zf hcell
   dsimp only at lg
   have HC:=zh (HF.out k p d wr HR.out hp hd)
   have HD:=zh hd
   have hw1:IntKind.i64.wrap ((k:Int)+1)=((k+1:Nat):Int):=by rw [Zp _ (by omega) (by omega)];rfl
   clear hp hd
   go_wp2_with fail
   refine HC.out.mono ?_
   rintro e w2 ⟨rfl,hR2,hg2⟩
   have HR2:=zh hR2
   have HG2:=zh (hg2 _ HGR.out)
   clear hR2 hg2 HC hcell lg
   cases d with
   | true =>
    have Zc:Hid (Z8 (.returned (.int .i64 (k:Int))) w2):=by
     rw [<- Ze.out]
     exact ⟨HG2.out,Or.inl ⟨k,hlt,HD.out,HNO.out,rfl,HR2.out⟩⟩
    go_wp2
    exact Zc.out
   | false =>
    go_wp2
    go_roundw
    case rel=>exact ⟨k+1,by omega,by first | rfl | go_num,HR2.out,HG2.out,fun j hj=>by
                  by_cases e:j=k
                  · rw [e];exact HD.out
                  · exact HNO.out j (by omega)⟩
    case measure=>simp [intOf];omega
  ·obtain rfl:k=n:=by omega
   have Zc:Hid (Z8 (.returned (.int .i64 (-1))) wr):=by
    rw [<- Ze.out]
    exact ⟨HGR.out,Or.inr ⟨HNO.out,rfl,HR.out⟩⟩
   go_wp2
   exact Zc.out
theorem deleteX_nil {w:World} {c lc zc oc oc2:Nat} {A:Option Addr} :
  Calls Tryz.prog 188 #[.slice A 0 c,.func (.func 189) #[] #[ptrV lc,ptrV zc,ptrV oc,ptrV oc2]] w (fun e w'=>e=.returned (.slice A 0 c)/\w'=w):=by
 have HI:Hid (Calls Tryz.prog 196 #[.slice A 0 c,.func (.func 189) #[] #[ptrV lc,ptrV zc,ptrV oc,ptrV oc2]] w (fun e w'=>e=.returned (.int .i64 (-1))/\w'=w)):=by
  go_enter Tryz.func196,Tryz.ntmps196
  go_wp2
  refine wp_loop_rounds 1 ?_
  rw [rounds_succ]
  go_wp2
  go_ret
  exact ⟨rfl,rfl⟩
 go_enter Tryz.func188,Tryz.ntmps188
 go_wp2_with fail
 refine HI.out.mono ?_
 rintro e w1 ⟨rfl,rfl⟩
 go_wp2
 go_ret
 exact ⟨rfl,rfl⟩
theorem ZdQ {w:World} {g c n lc zc oc oc2:Nat} {ps:List Nat} {ds:List Bool} {R:Nat->World->Prop} {cur:Array Value} (hpl:ps.length=n) (hdl:ds.length=n) (hc:n <= c) (hm:c <= maxLen) (hn:n <= 100000) (hg:w.heap[g]?=some (.cells cur 153 (0,0))) (hsz:cur.size=c) (hcur:∀ (i p:Nat),ps[i]?=some p->cur[i]?=some (ptrV p))
  (hf:∀ (k p:Nat) d W,R k W->ps[k]?=some p->ds[k]?=some d->Calls Tryz.prog 189 #[ptrV p,ptrV lc,ptrV zc,ptrV oc,ptrV oc2] W (fun e w'=>e=.returned (.bool d)/\R (k+1) w'/\∀ o,W.heap[g]?=some o->w'.heap[g]?=some o)) (hR:∀ k W W',R k W->Z0 (·=g) W W'->R k W') (h0:R 0 w) :
  Calls Tryz.prog 188 #[.slice (some ⟨g,0,none⟩) n c,.func (.func 189) #[] #[ptrV lc,ptrV zc,ptrV oc,ptrV oc2]] w (fun e w'=>e=.returned (.slice (some ⟨g,0,none⟩) (Z0e ps ds n).length c)/\R n w'/\∃ cur',w'.heap[g]?=some (.cells cur' 153 (0,0))/\cur'.size=c/\∀ (i p:Nat),(Z0e ps ds n)[i]?=some p->cur'[i]?=some (ptrV p)):=by
 have HI:=zh (ZfH (c:=c) hpl hdl hc hm hg hcur hf h0)
 obtain ⟨Z8,Z6⟩:∃ Z8:Ending->World->Prop,(fun e w'=>e=.returned (.slice (some ⟨g,0,none⟩) (Z0e ps ds n).length c)/\R n w'/\∃ cur',w'.heap[g]?=some (.cells cur' 153 (0,0))/\cur'.size=c/\∀ (i p:Nat),(Z0e ps ds n)[i]?=some p->cur'[i]?=some (ptrV p))=Z8:=⟨_,rfl⟩
 rw [Z6]
 have Ze:=zh Z6
 have HCUR:=zh hcur
 have HF:=zh hf
 have HRG:=zh hR
 have HPL:=zh hpl
 have HDL:=zh hdl
 have HSZ:=zh hsz
 unfold maxLen at hm
 clear Z6 hg hcur hf h0 hpl hdl hR hsz
 go_enter Tryz.func188,Tryz.ntmps188
 go_wp2_with fail
 refine HI.out.mono ?_
 rintro e w1 ⟨hg1,hcase⟩
 rcases hcase with ⟨i,hin,hdi,hno,rfl,hR1⟩ | ⟨hno,rfl,hR1⟩
 ·have HG1:=zh hg1
  have HR1:=zh hR1
  have hK1:(Z0e ps ds (i+1)).length=i:=by
   obtain ⟨p,hp⟩:∃ p,ps[i]?=some p:=⟨_,zg (by have:=HPL.out;omega)⟩
   rw [Z32 hp hdi]
   have:Z0e ps ds i=ps.take i:=Z3C (fun j hj=>hno j hj) (by have:=HPL.out;have:=HDL.out;omega) (by have:=HPL.out;omega)
   rw [this]
   simp
   have:=HPL.out
   omega
  have hKp:∀ (j q:Nat),(Z0e ps ds (i+1))[j]?=some q->cur[j]?=some (ptrV q):=fun j q hq=>by
   obtain ⟨p,hp⟩:∃ p,ps[i]?=some p:=⟨_,zg (by have:=HPL.out;omega)⟩
   rw [Z32 hp hdi,Z3C (fun j hj=>hno j hj) (by have:=HPL.out;have:=HDL.out;omega) (by have:=HPL.out;omega)] at hq
   simp only [if_pos,List.append_nil] at hq
   have hl:=(zi.1 hq).1
   rw [List.length_take] at hl
   rw [List.getElem?_take_of_lt (by omega)] at hq
   exact HCUR.out j q hq
  have HK1:=zh hK1
  have HKP:=zh hKp
  have hw0:IntKind.i64.wrap ((i:Int)+1)=((i+1:Nat):Int):=by rw [Zp _ (by omega) (by omega)];rfl
  have hne:((i:Int) == -1)=false:=by simp
  clear hg1 hR1 hno hdi HI hK1 hKp
  go_wp2
  go_loopw [5,6,7] (fun m j _ wr=>∃ (k a:Nat) (cr:Array Value),i < k/\k <= n/\j=.int .i64 (k:Int)/\a=(Z0e ps ds k).length/\a < k/\m=.int .i64 (a:Int)/\R k wr/\wr.heap[g]?=some (.cells cr 153 (0,0))/\cr.size=c/\(∀ (x q:Nat),(Z0e ps ds k)[x]?=some q->cr[x]?=some (ptrV q))/\∀ (x q:Nat),k <= x->ps[x]?=some q->cr[x]?=some (ptrV q)) (fun _ j _ _=>n - (intOf j).toNat)
  case atStart=>exact ⟨i+1,i,cur,by omega,by omega,by first | rfl | go_num,HK1.out.symm,by omega,rfl,HR1.out,HG1.out,HSZ.out,HKP.out,fun x q _ hq=>HCUR.out x q hq⟩
  case round =>
   obtain ⟨k,a,cr,hik,hk,rfl,ha,hak,rfl,hR,hg,hs,hkp,hrest⟩:=hrel
   have HA:=zh ha
   have HR:=zh hR
   have HG:=zh hg
   have HS:=zh hs
   have HKQ:=zh hkp
   have HRE:=zh hrest
   clear ha hR hg hs hkp hrest HG1 HR1 HK1 HKP
   by_cases hlt:k < n
   ·obtain ⟨p,hp⟩:∃ p,ps[k]?=some p:=⟨_,zg (by have:=HPL.out;omega)⟩
    obtain ⟨d,hd⟩:∃ d,ds[k]?=some d:=⟨_,zg (by have:=HDL.out;omega)⟩
    have hcell:wr.cell? ⟨g,k,none⟩=some (ptrV p):=by rw [Z1 HG.out];exact HRE.out k p (Nat.le_refl _) hp
    have lg:=Zf hcell
    dsimp only at lg
    have HC:=zh (HF.out k p d wr HR.out hp hd)
    have HSU:=zh (Z32 hp hd)
    have HP:=zh hp
    have hw1:IntKind.i64.wrap ((k:Int)+1)=((k+1:Nat):Int):=by rw [Zp _ (by omega) (by omega)];rfl
    have hw2:IntKind.i64.wrap ((a:Int)+1)=((a+1:Nat):Int):=by rw [Zp _ (by omega) (by omega)];rfl
    clear hp hd
    go_wp2_with fail
    refine HC.out.mono ?_
    rintro e w2 ⟨rfl,hR2,hg2⟩
    have HR2:=zh hR2
    have hgg:=hg2 _ HG.out
    have HG2:=zh hgg
    clear hR2 hg2 HC hcell lg
    cases d with
    | true =>
     have e1:Z0e ps ds (k+1)=Z0e ps ds k:=by rw [HSU.out];simp
     have E1:=zh e1
     clear hgg e1 hw2
     go_wp2
     go_roundw
     case rel=>exact ⟨k+1,a,cr,by omega,by omega,by first | rfl | go_num,by rw [E1.out];exact HA.out,by omega,rfl,HR2.out,HG2.out,HS.out,by rw [E1.out];exact HKQ.out,fun x q hx hq=>HRE.out x q (by omega) hq⟩
     case measure=>simp [intOf];omega
    | false =>
     have E1:Hid (Z0e ps ds (k+1)=Z0e ps ds k ++ [p]):=by show _=_;rw [HSU.out];simp
     have hca:∃ v,cr[a]?=some v:=⟨_,Array.getElem?_eq_getElem (by have:=HS.out;omega)⟩
     obtain ⟨va,hva⟩:=hca
     have hcl:w2.cell? ⟨g,a,none⟩=some va:=by rw [Z1 hgg];exact hva
     have lg:=Z2 hgg
     have gf:=fun o=>Z7 hgg o
     have HX:=zh (Zg hgg a (ptrV p))
     have ho:Z0 (·=g) w2 (w2.setCell ⟨g,a,none⟩ (ptrV p)):=(Z0.refl (·=g) w2).setCell (p:=⟨g,a,none⟩) (fun _=>rfl) _
     have HR3:=zh (HRG.out _ _ _ HR2.out ho)
     clear hgg ho hva
     go_wp2
     go_roundw
     case rel=>exact ⟨k+1,a+1,cr.setIfInBounds a (ptrV p),by omega,by omega,by first | rfl | go_num,by rw [E1.out,List.length_append,<- HA.out];rfl,by omega,by first | rfl | go_num,HR3.out,HX.out,by rw [Array.size_setIfInBounds];exact HS.out,fun x q hx=>by
                   rw [E1.out] at hx
                   by_cases e:x=a
                   · subst e
                     rw [List.getElem?_append_right (by have:=HA.out;omega)] at hx
                     rw [HA.out,Nat.sub_self] at hx
                     simp at hx
                     subst hx
                     rw [Array.getElem?_setIfInBounds_self_of_lt (by have:=HS.out;omega)]
                   · have hl:=(zi.1 hx).1
                     rw [List.length_append] at hl
                     simp only [List.length_cons,List.length_nil] at hl
                     rw [List.getElem?_append_left (by have:=HA.out;omega)] at hx
                     rw [Array.getElem?_setIfInBounds_ne (by omega)]
                     exact HKQ.out x q hx,fun x q hx hq=>by
                   rw [Array.getElem?_setIfInBounds_ne (by omega)]
                   exact HRE.out x q (by omega) hq⟩
     case measure=>simp [intOf];omega
   ·obtain rfl:k=n:=by omega
    have hla:=Z2 HG.out
    obtain ⟨d,hd⟩:∃ d,k - a=d+1:=⟨k - a - 1,by omega⟩
    have hfit:a+(d+1) <= cr.size:=by have:=HS.out;omega
    obtain ⟨w2,hclr,hg2,ho2⟩:=Z61 (P:=Tryz.prog) wr 130 153 Tryz.underlying130 (fun w=>by kernel_rfl) (o:=a) (d:=d) (c:=c - a) HG.out hfit
    have HG2:=zh hg2
    have HR2:=zh (HRG.out _ _ _ HR.out ho2)
    have Zc:Hid (Z8 (.returned (.slice (some ⟨g,0,none⟩) a c)) w2):=by
     rw [<- Ze.out]
     refine ⟨by rw [HA.out],HR2.out,_,HG2.out,?_,fun x q hx=>?_⟩
     ·rw [Z0i (by rw [List.length_replicate];exact hfit)]
      exact HS.out
     ·have hl:=(zi.1 hx).1
      have:=Z83 cr a (List.replicate (d+1) (.pointer none)) (x:=x) (by have:=HA.out;omega) (by rw [List.length_replicate];exact hfit)
      rw [this]
      exact HKQ.out x q hx
    have d1:¬ c=a:=by omega
    have d2:(a:Int) <= (k:Int):=by omega
    have d3:(k:Int) <= (c:Int):=by omega
    have d4:(a:Int) <= (c:Int):=by omega
    have d5:¬ c=0:=by omega
    rw [<- hd] at hclr
    clear hg2 ho2 hlt hfit hd
    go_wp2
    exact Zc.out
 ·have Zc:Hid (Z8 (.returned (.slice (some ⟨g,0,none⟩) n c)) w1):=by
   rw [<- Ze.out]
   have e1:Z0e ps ds n=ps:=by
    rw [Z3C (fun j hj=>hno j hj) (by have:=HPL.out;have:=HDL.out;omega) (by have:=HPL.out;omega),List.take_of_length_le (by have:=HPL.out;omega)]
   exact ⟨by rw [e1,HPL.out],hR1,cur,hg1,HSZ.out,fun x q hx=>by rw [e1] at hx;exact HCUR.out x q hx⟩
  clear hg1 hR1 hno HI
  go_wp2
  exact Zc.out
def Z5o (w:World) (p:Nat) (e:EB):Prop:=w.heap[p]?=some (.cells (.int .u64 (e.id:Int) :: .string e.name :: .int .u64 (e.xmin:Int) :: .int .u64 (e.xmax:Int) :: e.rest).toArray e.ty (0,0))
theorem Z5o.ent {w:World} {p:Nat} {e:EB} (h:Z5o w p e):Z5D w p e.id e.name e.xmin e.xmax :=
 ⟨by rw [Z1 h];rfl,by rw [Z1 h];rfl,by rw [Z1 h];rfl,by rw [Z1 h];rfl⟩
theorem Z5o.kept {S:Nat->Prop} {w w':World} {p:Nat} {e:EB} (h:Z5o w p e) (ho:Z0 S w w') (hn:¬ S p):Z5o w' p e:=ho.get h hn
end Go.Proofs.YtobhgnjblniphaaGreatDoor
