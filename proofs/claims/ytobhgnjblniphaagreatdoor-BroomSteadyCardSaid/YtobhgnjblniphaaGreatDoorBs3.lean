/- The contract of slices.BinarySearchFunc at entries, by the tree's order. Laws on append of so many zero values, and on copy, for slices.Insert. The contract of slices.Insert of one element, at entries. The contract of slices.Insert of one element, at nodes. Nodes of a tree in memory, told by their entries; how they are kept. The contracts of the tree's small functions: leaf, least, below, copyOf, New. The contract of a node's split. The contract of a node's split, at a node over others; at every node. The contract of the tree's copyOf; three cells written. No condition. -/
import Derived.Test.YtobhgnjblniphaaGreatDoorBs2
import Derived.Deep.RegionLawGrows
import Derived.Laws.Rows
import Derived.Shelf.SlSortCmp.NoneTotal
import Derived.Ground.SlsfProg
import Derived.Test.YtobhgnjblniphaaGreatDoorProg
import Derived.WalkKit
import Derived.WalkMore
import Derived.Below
import Derived.Shelf.Unicode.ValidAny
import Derived.Ground.NamesProg
import Derived.Lib.Bytealg
import Derived.BigQuiet
set_option linter.unusedVariables false
set_option linter.unusedSimpArgs false
set_option maxRecDepth 100000
set_option maxHeartbeats 8000000
namespace Go.Lap
section
open Go.RowKit
section
variable {P:Program} {w:World} {ops:Array Oper} {rest:List Oper} {o:Oper} {a:Act} {K:Act->World->Prop} {Q:Exit->Act->World->Prop}
def laid (cur:Array Value) (at_:Nat) (cs:List Value):Array Value:=(cur.toList.take at_ ++ cs ++ cur.toList.drop (at_+cs.length)).toArray
theorem Z0i {cur:Array Value} {at_:Nat} {cs:List Value} (h:at_+cs.length <= cur.size):(laid cur at_ cs).size=cur.size:=by
 unfold laid
 simp
 omega
theorem Z4s (cur:Array Value) (at_:Nat) (cs:List Value):(laid cur at_ cs).toList=cur.toList.take at_ ++ cs ++ cur.toList.drop (at_+cs.length):=by simp [laid]
theorem Z1O (w:World) (dT sT elem:TypeId) {k g at_ dLen dCap sLen sCap:Nat} {src:Addr} {cur:Array Value} {t:TypeId} {cs:List Value} {m:Nat}
  (hu:P.underlying dT=some (.slice elem)) (hk:(P.info? elem).map (·.size)=some k) (hm:Nat.min sLen dLen=m)
  (hg:w.heap[g]?=some (.cells cur t (0,0))) (hn:cs.length=m * k) (hsrc:∀ j v,cs[j]?=some v->w.cell? (src.add j)=some v) (hfit:at_+cs.length <= cur.size) (h1:∀ v ∈ cs,v.oneCell'=true) :
  ∃ w',(∀ ty,(Builtin.copy_ #[dT,sT] ty #[.slice (some ⟨g,at_,none⟩) dLen dCap,.slice (some src) sLen sCap]).run P w=.ok (.int .i64 (m:Int)) w')/\w'.heap[g]?=some (.cells (laid cur at_ cs) t (0,0))/\Z0 (·=g) w w':=by
 subst hm
 exact ⟨_,fun ty=>Zbj (P:=P) w dT sT ty elem k g at_ dLen dCap src sLen sCap cur t cs hu hk hg hn hsrc hfit h1,setRow_heap w g cur _ t (0,0) hg,(Z0.refl _ _).setRow g _ (fun _=>rfl)⟩
theorem ZgX {t tn e:TypeId} {size bytes:Nat} (E:Z0c P t e size bytes) (htn:P.underlying tn=some (.int .i64)) (hgd:o.guard=none) (s x:Operand) (ho:o.op=.call { callee:=.builtin .append,args:=#[s,x],argTypes:=#[t,tn] })
  {g off i cap m:Nat} {z:Int} {olds:List Value} (hs:a.eval s=.slice (some ⟨g,off,none⟩) i cap) (hx:a.eval x=.int .i64 z) (hz:z=(m:Int)) (hm:0 < m) (hcap:cap < i+m) (hl:olds.length=i * size) (hold:∀ j v,olds[j]?=some v->w.cell? ⟨g,off+j,none⟩=some v)
  (hbig:(i+m) * bytes <= 140737488355328) (h63:i+m <= 1000000)
  (h:∀ w' G ROW,i+m <= G->G <= maxLen->w'.heap[w.heap.size]?=some (.cells ROW e (0,0))->ROW.size=G * size->ROW.toList.take (i * size)=olds->Z0 (fun _=>False) w w'->wpList P ops Q rest (a.put o.dst (.slice (some ⟨w.heap.size,0,none⟩) (i+m) G)) w'):wpList P ops Q (o :: rest) a w:=by
 obtain ⟨inf,zv,ht,hi,h0,h1',h2,hzc,hsz⟩:=E
 subst hz
 have hfc:(Builtin.firstCells inf.size i (.slice (some ⟨g,off,none⟩) i cap)).run P w.drew=.ok olds.toArray w.drew:=by
  have:=run_loadCells_list (P:=P) w.drew ⟨g,off,none⟩ olds (fun j v hj=>by rw [Zl];exact hold j v hj)
  rw [hl] at this
  unfold Builtin.firstCells
  rw [h1']
  exact this
 have hbb:m * inf.bytes <= 281474976710656:=by
  rw [h2]
  have:m * bytes <= (i+m) * bytes:=Nat.mul_le_mul_right _ (by omega)
  omega
 have hrun:=Lib.run_append_grow_zeros (P:=P) w t tn o.type e inf zv .i64 .i64 ht htn hi h0 (some ⟨g,off,none⟩) i cap olds hfc m hm (by omega) hcap (by omega) hbb (by rw [h2];exact growslice_fits hcap hbig)
 refine Lib.wpList_append_run w hgd s x t tn ho _ _ hs hx _ _ hrun ?_
 have hG:=grownCap_ge w (i+m) cap e
 refine h _ (grownCap w (i+m) cap e) (olds.toArray ++ Builtin.zeroCells zv.cells m ++ Builtin.zeroCells zv.cells (grownCap w (i+m) cap e - (i+m))) hG (grownCap_le_maxLen w (i+m) cap e (by unfold maxLen;omega)) (Z4 w.drew _) ?_ ?_ ((Z0.refl _ w).drew.alloc _)
 ·simp only [Array.size_append,List.size_toArray,size_zeroCells,hzc,hl]
  rw [<- Nat.add_mul,<- Nat.add_mul]
  congr 1
  omega
 ·simp only [Array.toList_append,List.append_assoc]
  rw [<- hl]
  simp
end
theorem Zco {cur:Array Value} {xs news:List Value} {i n size:Nat} (hx:xs.length=n * size) (hn:news.length=size) (hi:i <= n) (hc:cur.toList.take (i * size)=xs.take (i * size)) (hs:(n+1) * size <= cur.size) :
  (laid (laid cur (i * size) news) ((i+1) * size) (xs.drop (i * size))).toList.take ((n+1) * size)=xs.take (i * size) ++ news ++ xs.drop (i * size):=by
 have him:i * size <= n * size:=Nat.mul_le_mul_right _ hi
 have e1:(n+1) * size=n * size+size:=by rw [Nat.add_mul];omega
 have e2:(i+1) * size=i * size+size:=by rw [Nat.add_mul];omega
 have hlc:cur.toList.length=cur.size:=by simp
 rw [Z4s,Z4s,hc]
 have htl:(xs.take (i * size)).length=i * size:=by rw [List.length_take];omega
 have h1:(xs.take (i * size) ++ news ++ cur.toList.drop (i * size+news.length)).take ((i+1) * size)=xs.take (i * size) ++ news:=by
  rw [List.take_append_of_le_length (by rw [List.length_append,htl];omega),List.take_of_length_le (by rw [List.length_append,htl];omega)]
 rw [h1]
 rw [List.take_append_of_le_length (by rw [List.length_append,List.length_append,htl,List.length_drop];omega),List.take_of_length_le (by rw [List.length_append,List.length_append,htl,List.length_drop];omega)]
theorem ZaP {cur:Array Value} {xs news:List Value} {i n size:Nat} (hx:xs.length=n * size) (hn:news.length=size) (hi:i <= n) (hc:cur.toList.take (n * size)=xs) (hs:(n+1) * size <= cur.size) :
  (laid (laid cur ((i+1) * size) (xs.drop (i * size))) (i * size) news).toList.take ((n+1) * size)=xs.take (i * size) ++ news ++ xs.drop (i * size):=by
 have him:i * size <= n * size:=Nat.mul_le_mul_right _ hi
 have e1:(n+1) * size=n * size+size:=by rw [Nat.add_mul];omega
 have e2:(i+1) * size=i * size+size:=by rw [Nat.add_mul];omega
 have hlc:cur.toList.length=cur.size:=by simp
 rw [Z4s,Z4s]
 have ht:(cur.toList.take ((i+1) * size)).length=(i+1) * size:=by rw [List.length_take];omega
 have hd:(xs.drop (i * size)).length=n * size - i * size:=by rw [List.length_drop,hx]
 have h1:(cur.toList.take ((i+1) * size) ++ xs.drop (i * size) ++ cur.toList.drop ((i+1) * size+(xs.drop (i * size)).length)).take (i * size)=xs.take (i * size):=by
  rw [List.append_assoc,List.take_append_of_le_length (by rw [ht];omega),List.take_take,Nat.min_eq_left (by omega),<- hc,List.take_take,Nat.min_eq_left him]
 have h2:(cur.toList.take ((i+1) * size) ++ xs.drop (i * size) ++ cur.toList.drop ((i+1) * size+(xs.drop (i * size)).length)).drop (i * size+news.length)=xs.drop (i * size) ++ cur.toList.drop ((i+1) * size+(xs.drop (i * size)).length):=by
  rw [List.append_assoc,List.drop_append_of_le_length (by rw [ht];omega),List.drop_of_length_le (by rw [ht];omega)]
  rfl
 rw [h1,h2,<- List.append_assoc]
 have htl:(xs.take (i * size)).length=i * size:=by rw [List.length_take];omega
 rw [List.take_append_of_le_length (by rw [List.length_append,List.length_append,htl,hd];omega),List.take_of_length_le (by rw [List.length_append,List.length_append,htl,hd];omega)]
theorem ZgY {cur:Array Value} {xs news:List Value} {i n:Nat} (hx:xs.length=n) (hn:news.length=1) (hi:i <= n) (hc:cur.toList.take i=xs.take i) (hs:n+1 <= cur.size) :
  (laid (laid cur i news) (i+1) (xs.drop i)).toList.take ((n+1) * 1)=xs.take i ++ news ++ xs.drop i:=by
 have:=Zco (size:=1) (cur:=cur) (xs:=xs) (news:=news) (i:=i) (n:=n) (by omega) hn hi (by simpa using hc) (by omega)
 simpa using this
theorem Zfe {cur:Array Value} {xs news:List Value} {i n:Nat} (hx:xs.length=n) (hn:news.length=1) (hi:i <= n) (hc:cur.toList.take n=xs) (hs:n+1 <= cur.size) :
  (laid (laid cur (i+1) (xs.drop i)) i news).toList.take ((n+1) * 1)=xs.take i ++ news ++ xs.drop i:=by
 have:=ZaP (size:=1) (cur:=cur) (xs:=xs) (news:=news) (i:=i) (n:=n) (by omega) hn hi (by simpa using hc) (by omega)
 simpa using this
end
section
open Go.RowKit
abbrev ents (xs:List EV):List Ent:=xs.map (·.e)
def ZkX:EV:=⟨⟨[],0,0⟩,none,0⟩
def hd (xs:List EV):EV:=xs.headD ZkX
theorem ZaQ {xs:List EV} (h:xs ≠ []) (ys:List EV):hd (xs ++ ys)=hd xs:=by
 rcases xs with _ | ⟨x,xs⟩
 ·exact absurd rfl h
 ·rfl
theorem ZgZ {xs:List EV} (h:xs ≠ []):xs[0]?=some (hd xs):=by
 rcases xs with _ | ⟨x,xs⟩
 ·exact absurd rfl h
 ·rfl
theorem Z9n {xs:List EV} (h:xs ≠ []):hd xs ∈ xs:=List.mem_of_getElem? (ZgZ h)
def Z14 (e:EV) (xs:List EV):List EV:=xs.take (ZO e.e (ents xs)) ++ e :: xs.drop (ZO e.e (ents xs))
theorem Zh0 (e:EV) (xs:List EV):ents (Z14 e xs)=insE e.e (ents xs):=by
 rw [Z7J]
 unfold Z14 ents
 simp [List.map_take,List.map_drop]
theorem Z4a (e:EV) (xs:List EV):(Z14 e xs).length=xs.length+1:=by
 have:=Z4R e.e (ents xs)
 unfold Z14
 simp at this ⊢
 omega
theorem Zec (e:EV) (xs:List EV):Z14 e xs ≠ []:=by
 intro h
 have:=Z4a e xs
 rw [h] at this
 simp at this
theorem ZiD {e x:EV} {xs:List EV} (h:x ∈ Z14 e xs):x=e ∨ x ∈ xs:=by
 unfold Z14 at h
 rw [List.mem_append,List.mem_cons] at h
 rcases h with h | h | h
 ·exact Or.inr (List.mem_of_mem_take h)
 ·exact Or.inl h
 ·exact Or.inr (List.mem_of_mem_drop h)
theorem ZiE {e:Ent} {A P B:List Ent} (hA:∀ a ∈ A,cmpE a e < 0) (hB:∀ b ∈ B,¬ cmpE b e < 0):ZO e (A ++ P ++ B)=A.length+ZO e P:=by
 induction A with
 | nil =>
  simp only [List.nil_append,List.length_nil,Nat.zero_add]
  induction P with
  | nil =>
   rcases B with _ | ⟨b,B⟩
   ·rfl
   ·show ZO e (b :: B)=0
    rw [Z4o,if_neg (hB b (by simp))]
  | cons p P ih =>
   show ZO e (p :: (P ++ B))=_
   rw [Z4o,Z4o,ih]
 | cons a A ih =>
  show ZO e (a :: (A ++ P ++ B))=_
  rw [Z4o,if_pos (hA a (by simp)),ih (fun x hx=>hA x (by simp [hx])),List.length_cons]
  omega
theorem ZiF {e:EV} {A P B:List EV} (hA:∀ a ∈ A,cmpE a.e e.e < 0) (hB:∀ b ∈ B,¬ cmpE b.e e.e < 0):Z14 e (A ++ P ++ B)=A ++ Z14 e P ++ B:=by
 have hp:ZO e.e (ents (A ++ P ++ B))=A.length+ZO e.e (ents P):=by
  unfold ents
  rw [List.map_append,List.map_append,ZiE,List.length_map]
  ·intro a ha
   obtain ⟨x,hx,rfl⟩:=List.mem_map.1 ha
   exact hA x hx
  ·intro b hb
   obtain ⟨x,hx,rfl⟩:=List.mem_map.1 hb
   exact hB x hx
 have hle:ZO e.e (ents P) <= P.length:=by have:=Z4R e.e (ents P);simpa using this
 unfold Z14
 rw [hp]
 have ht:(A ++ P ++ B).take (A.length+ZO e.e (ents P))=A ++ P.take (ZO e.e (ents P)):=by
  rw [List.append_assoc,List.take_length_add_append,List.take_append_of_le_length hle]
 have hd:(A ++ P ++ B).drop (A.length+ZO e.e (ents P))=P.drop (ZO e.e (ents P)) ++ B:=by
  rw [List.append_assoc,List.drop_length_add_append,List.drop_append_of_le_length hle]
 rw [ht,hd]
 simp
structure Kid where
 b:Nat
 F:Nat->Prop
 xs:List EV
abbrev heads (ks:List Kid):List EV:=ks.map (fun x=>hd x.xs)
abbrev flat (ks:List Kid):List EV:=ks.flatMap (·.xs)
abbrev kptrs (ks:List Kid):List Value:=ks.map (fun x=>ptrV x.b)
theorem Z72 (ks:List Kid):∀ u ∈ kptrs ks,u.oneCell'=true:=by
 intro u hu
 obtain ⟨n,_,rfl⟩:=List.mem_map.1 hu
 rfl
end
section
open Go.RowKit
def Z75 (w:World) (b:Nat) (x y z:Value):World:=((w.setCell ⟨b,0,none⟩ x).setCell ⟨b,1,none⟩ y).setCell ⟨b,2,none⟩ z
theorem Zdw {w:World} {b:Nat} {t:TypeId} {fr:Nat × Nat} {a c d:Value} (h:w.heap[b]?=some (.cells #[a,c,d] t fr)) (x y z:Value):(Z75 w b x y z).heap[b]?=some (.cells #[x,y,z] t fr):=by
 unfold Z75
 rw [Zg (Zg (Zg h 0 x) 1 y) 2 z]
 rfl
theorem Zdx (w:World) (b:Nat) (x y z:Value):Z0 (·=b) w (Z75 w b x y z) :=
 (((Z0.refl (·=b) w).setCell (p:=⟨b,0,none⟩) (fun _=>rfl) _).setCell (p:=⟨b,1,none⟩) (fun _=>rfl) _).setCell (p:=⟨b,2,none⟩) (fun _=>rfl) _
end
theorem Zh7 {ks:List Kid} (hne:∀ x ∈ ks,x.xs ≠ []):∀ y ∈ heads ks,y ∈ flat ks:=by
 intro y hy
 obtain ⟨x,hx,rfl⟩:=List.mem_map.1 hy
 exact List.mem_flatMap.2 ⟨x,hx,Z9n (hne x hx)⟩
theorem Z5y (x:Kid) (ks:List Kid):flat (x :: ks)=x.xs ++ flat ks:=by rw [flat,List.flatMap_cons]
theorem Z3p (A:List Kid) (x:Kid) (B:List Kid):flat (A ++ x :: B)=flat A ++ x.xs ++ flat B:=by
 rw [flat,List.flatMap_append,List.flatMap_cons,List.append_assoc]
theorem Z4t (A:List Kid) (x:Kid) (B:List Kid):heads (A ++ x :: B)=heads A ++ hd x.xs :: heads B:=by simp [heads]
theorem Z76 (A:List Kid) (x:Kid) (B:List Kid):(A ++ x :: B).map (·.b)=A.map (·.b) ++ x.b :: B.map (·.b):=by simp
theorem Zct {ks:List Kid} (hne:∀ x ∈ ks,x.xs ≠ []) (hs:ZS (ents (flat ks))):ZS (ents (heads ks)):=by
 induction ks with
 | nil=>exact ZS.nil
 | cons x ks ih =>
  rw [Z5y] at hs
  unfold ents ZS at hs
  rw [List.map_append,List.pairwise_append] at hs
  refine List.pairwise_cons.2 ⟨fun y hy=>?_,ih (fun z hz=>hne z (by simp [hz])) hs.2.1⟩
  obtain ⟨z,hz,rfl⟩:=List.mem_map.1 hy
  exact hs.2.2 _ (List.mem_map.2 ⟨_,Z9n (hne x (by simp)),rfl⟩) _ (List.mem_map.2 ⟨z,Zh7 (fun z hz=>hne z (by simp [hz])) z hz,rfl⟩)
theorem ZiI {xs:List EV} (hs:ZS (ents xs)) {y:EV} (hy:y ∈ xs):(hd xs).e=y.e ∨ cmpE (hd xs).e y.e < 0:=by
 rcases xs with _ | ⟨x,xs⟩
 ·simp at hy
 ·rcases List.mem_cons.1 hy with rfl | hy
  ·exact Or.inl rfl
  ·exact Or.inr ((List.pairwise_cons.1 hs).1 _ (List.mem_map.2 ⟨y,hy,rfl⟩))
theorem Z3e {α:Type} {l:List α} {i:Nat} {x:α} (h:l[i]?=some x):l.take (i+1)=l.take i ++ [x]:=by
 rw [List.take_add_one,h];rfl
theorem ZaT {ks:List Kid} {i:Nat} {x:Kid} (h:ks[i]?=some x):flat (ks.take (i+1))=flat (ks.take i) ++ x.xs:=by
 rw [Z3e h,flat,List.flatMap_append]
 simp
def Z2H (e:Ent) (es:List Ent):List Ent:=if e ∈ es then es else insE e es
theorem Z6k {e x:Ent} {es:List Ent}:x ∈ Z2H e es ↔ x=e ∨ x ∈ es:=by
 unfold Z2H
 split
 ·constructor
  ·exact Or.inr
  ·rintro (h | h)
   ·rw [h];assumption
   ·exact h
 ·exact Ziy
theorem ZdA (e:Ent) (es:List Ent):(Z2H e es).length <= es.length+1:=by
 unfold Z2H
 split
 ·omega
 ·rw [Zdq];omega
section
open Go.Sort Go.Proofs Go.Shelf Go.RowKit
theorem ZiM {α:Type} {k:Nat} {rows:List (List α)} (h:∀ r ∈ rows,r.length=k) {i j:Nat} {r:List α} (hi:rows[i]?=some r) (hj:j < k):rows.flatten[i * k+j]?=r[j]?:=by
 induction rows generalizing i with
 | nil=>simp at hi
 | cons x rows ih =>
  have hx:x.length=k:=h x (by simp)
  rw [List.flatten_cons]
  rcases i with _ | i
  ·simp at hi
   subst hi
   rw [Nat.zero_mul,Nat.zero_add,List.getElem?_append_left (by omega)]
  ·rw [List.getElem?_cons_succ] at hi
   rw [List.getElem?_append_right (by rw [hx,Nat.add_mul];omega),hx,show (i+1) * k+j - k=i * k+j by rw [Nat.add_mul];omega]
   exact ih (fun r hr=>h r (by simp [hr])) hi
theorem Z7Z {α:Type} {k:Nat} {rows:List (List α)} (h:∀ r ∈ rows,r.length=k):rows.flatten.length=rows.length * k:=by
 induction rows with
 | nil=>simp
 | cons x rows ih =>
  rw [List.flatten_cons,List.length_append,h x (by simp),ih (fun r hr=>h r (by simp [hr])),List.length_cons,Nat.add_mul]
  omega
theorem Z77 {α:Type} [Inhabited α] (enc:α->List Value) (k:Nat) (hk:∀ x,(enc x).length=k) (l:List α):(flatK enc k l.toArray).toList=l.flatMap enc:=by
 apply List.ext_getElem?
 intro t
 have hrows:∀ r ∈ l.map enc,r.length=k:=fun r hr=>by
  obtain ⟨x,_,rfl⟩:=List.mem_map.1 hr
  exact hk x
 have hfl:(l.flatMap enc).length=l.length * k:=by
  rw [List.flatMap_def,Z7Z hrows,List.length_map]
 by_cases ht:t < l.length * k
 ·have k0:0 < k:=by
   rcases Nat.eq_zero_or_pos k with h | h
   ·subst h;simp at ht
   ·exact h
  have hd:t / k < l.length:=by rw [Nat.div_lt_iff_lt_mul k0];exact ht
  have hm:t % k < k:=Nat.mod_lt _ k0
  have e:t / k * k+t % k=t:=by rw [Nat.mul_comm];exact Nat.div_add_mod t k
  have h1:=ZiM hrows (i:=t / k) (j:=t % k) (r:=enc l[t / k]) (by rw [List.getElem?_map,zg hd];rfl) hm
  rw [e,<- List.flatMap_def] at h1
  rw [h1,Array.getElem?_toList,Array.getElem?_eq_getElem (by simpa using ht)]
  have hg:=get_flatK enc k l.toArray t (by simpa using ht)
  rw [getElem!_pos _ _ (by simpa using ht)] at hg
  rw [hg]
  have hh:l.toArray[t / k]! = l[t / k]:=by
   rw [getElem!_pos _ _ (by simpa using hd)]
   simp
  rw [hh,getElem!_pos _ _ (by rw [hk];exact hm),zg (by rw [hk];exact hm)]
 ·rw [List.getElem?_eq_none (by simp;omega),List.getElem?_eq_none (by rw [hfl];omega)]
theorem ZdB {α:Type} {enc:α->List Value} {k:Nat} (hk:∀ x,(enc x).length=k) (l:List α):(l.flatMap enc).length=l.length * k:=by
 rw [List.flatMap_def,Z7Z (fun r hr=>by obtain ⟨x,_,rfl⟩:=List.mem_map.1 hr;exact hk x),List.length_map]
theorem Zbm {cur F:Array Value} (h:F.size <= cur.size):(putCells id 0 F cur).toList.take F.size=F.toList:=by
 apply List.ext_getElem?
 intro j
 by_cases hj:j < F.size
 ·rw [List.getElem?_take_of_lt hj,Array.getElem?_toList,Array.getElem?_toList]
  simp [putCells,hj,show j < cur.size by omega]
 ·rw [List.getElem?_take_eq_none (by omega),List.getElem?_eq_none (by simp;omega)]
section
variable {P:Program} {ρ:Ren} {α:Type} [Inhabited α]
theorem ZiN (L:SlLaysF0.n6 P ρ) (k:Nat) (aE:∀ w,(isAgg (ρ.t 24)).run P w=.ok true w) (zE:∀ w,(Go.sizeOf (ρ.t 24)).run P w=.ok k w) (enc:α->List Value) (hk:∀ x,(enc x).length=k)
  (h1:∀ x,∀ v ∈ enc x,v.oneCell'=true) (cf:α->α->Int) (hO:SWO (ltOf cf)) (g:Nat) (eg:∀ args w,(callFunc g args).run P w=.ok (.enter g args) w)
  (hcl:∀ x y W,Calls P g #[.agg (enc x).toArray,.agg (enc y).toArray] W fun e w'=>e=.returned (.int .i64 (cf x y))/\∃ q os',w'=grow (W.drewN q) os')
  (e:TypeId) (v:Value) (l:List α) (w:World) (hown:w.ownsRow 0 e k v l.length (l.flatMap enc)) (hl:l.length < 4611686018427387904) :
  Calls P (ρ.f 6) #[v,.func (.func g) #[] #[]] w fun e' w'=>e'=.returned (.tuple #[])/\∃ l':List α,l'.Perm l/\l'.Pairwise (fun a b=>ltOf cf b a=false)/\w'.ownsRow 0 e k v l.length (l'.flatMap enc)/\Z0 (fun k=>v.ownBlock=some k) w w':=by
 rcases hown.2 with ⟨rfl,h0⟩ | ⟨b,cap,cur,rfl,_,hb,hc1,hc2,hc3,hc4⟩
 ·have hl0:l=[]:=List.eq_nil_of_length_eq_zero h0
  subst hl0
  refine (AnyF.slices_SortFunc_none L none 0 (.func (.func g) #[] #[]) w).mono ?_
  rintro e' w' ⟨rfl,rfl⟩
  exact ⟨rfl,[],List.Perm.refl _,List.Pairwise.nil,hown,Z0.refl _ _⟩
 ·have hblk:=Z2 hb
  have hH:HoldsK enc k w b 0 l.toArray:=by
   intro j hj
   have hj':j < l.length * k:=by simpa using hj
   refine ⟨?_,Z7 hb _⟩
   rw [Nat.zero_add,Z1 hb]
   have h2:(l.flatMap enc)[j]?=cur[j]?:=by rw [<- hc4,List.getElem?_take_of_lt hj',Array.getElem?_toList]
   rw [<- h2,<- Z77 enc k hk,Array.getElem?_toList,Array.getElem?_eq_getElem hj,getElem!_pos (flatK enc k l.toArray) j hj]
   rfl
  have hs:l.toArray.size=l.length:=rfl
  have hcall:=AnyQ.slices_SortFunc L k aE zE enc hk h1 cf hO g #[] b 0 cap l.toArray w eg (fun _ _ _ _ x y=>hcl x y _) hH hblk (by rw [hs];exact hl)
  rw [hs] at hcall
  refine hcall.mono ?_
  rintro e' w' ⟨rfl,d',n,os,hp,hsd,rfl⟩
  obtain ⟨p1,_,p3⟩:=hp
  have hd':d'.size=l.length:=p1
  have hperm:d'.toList.Perm l:=by
   rw [show l.length=d'.size from hd'.symm] at p3
   have h5:(d'.extract 0 d'.size).toList=d'.toList:=by simp
   have h6:(l.toArray.extract 0 d'.size).toList=l:=by rw [hd'];simp
   rw [h5,h6] at p3
   exact p3
  have hg:(sortWorldK enc k w b 0 n d' os).heap[b]?=some (.cells (putCells id 0 (flatK enc k d') cur) e (0,0)):=by
   unfold sortWorldK
   rw [heap_grow_old _ _ (by simpa [putRowK,Sort.ahead] using hblk)]
   simp [putRowK,putRow,mapBlock,Sort.ahead,Array.getElem?_modify,hb,onCells]
  refine ⟨rfl,d'.toList,hperm,?_,?_,⟨rfl,rfl,rfl,?_,fun i hi hn=>?_⟩⟩
  ·rw [List.pairwise_iff_getElem]
   intro i j hi hj hij
   have:=hsd i j (Nat.zero_le _) hij (by rw [<- hd'];simpa using hj)
   rw [getElem!_pos d' j (by simpa using hj),getElem!_pos d' i (by simpa using hi)] at this
   simpa using this
  ·have hfl:(flatK enc k d').toList=d'.toList.flatMap enc:=by
    have:=Z77 enc k hk d'.toList
    simpa using this
   refine ⟨by rw [ZdB hk];simp [hd'],.inr ⟨b,cap,_,rfl,Nat.zero_le _,hg,hc1,hc2,by simp [putCells,hc3],?_⟩⟩
   have hsz:(flatK enc k d').size=l.length * k:=by rw [size_flatK,hd']
   have:=Zbm (cur:=cur) (F:=flatK enc k d') (by rw [hsz,hc3];exact Nat.mul_le_mul_right _ hc1)
   rw [hsz,hfl] at this
   exact this
  ·show w.heap.size <= ((mapBlock _ _ _).heap ++ os).size
   simp [mapBlock,Sort.ahead]
  ·have hne:¬ b=i:=fun x=>hn (by rw [<- x];rfl)
   unfold sortWorldK
   rw [heap_grow_old _ _ (by simpa [putRowK,Sort.ahead] using hi)]
   simp [putRowK,putRow,mapBlock,Sort.ahead,Array.getElem?_modify,hne]
end
end
structure RV where
 k:Nat
 i:Int
 s:ByteArray
 b:Bool
def Z2x (v:RV):List Value:=[.int .u8 (v.k:Int),.int .i64 v.i,.string v.s,.bool v.b]
def Z7L:RV:=⟨0,0,⟨#[]⟩,false⟩
def Z0P (l:List RV):List Value:=l.flatMap Z2x
def Z1y (v:RV):Bool:=match v.k with
 | 0=>decide (v.i=0) && decide (v.s=⟨#[]⟩) && !v.b
 | 1=>decide (v.s=⟨#[]⟩) && !v.b
 | 2=>decide (v.i=0) && !v.b
 | 3=>decide (v.i=0) && decide (v.s=⟨#[]⟩)
 | _=>false
def Z4c (s:ByteArray):Bool:=decide (s.size <= 60) && Lib.validD s.data.toList && decide ((0:UInt8) ∉ s.data.toList)
def Zt (v:RV):Bool:=Z1y v && Z4c v.s
def sizeR (v:RV):Nat:=match v.k with
 | 1=>8
 | 2=>1+v.s.size
 | 3=>1
 | _=>0
theorem Z5W:∀ (l:List UInt8) (c:UInt8),decide (Lib.indexByte l c < 0)=decide (c ∉ l)
 | [],c=>by simp [Lib.indexByte]
 | b :: l,c=>by
  have ih:=Z5W l c
  have hg:=Lib.indexByte_ge l c
  have ih':Lib.indexByte l c < 0 ↔ c ∉ l:=decide_eq_decide.1 ih
  unfold Lib.indexByte
  by_cases h:b=c
  ·subst h
   simp
  ·have h2:¬ c=b:=fun e=>h e.symm
   by_cases h3:Lib.indexByte l c=-1
   ·have:c ∉ l:=ih'.1 (by omega)
    simp [h,h3,h2,this]
   ·have h4:c ∈ l:=Classical.byContradiction fun x=>h3 (by have:=ih'.2 x;omega)
    have h5:¬ Lib.indexByte l c+1 < 0:=by omega
    simp [h,h3,h4,h5]
def Z24 (ks:List Nat):List Value:=ks.map (fun k:Nat=>Value.int .u8 k)
def Z3r (k:Nat):Bool:=decide (k=0) || decide (3 < k)
def Z36 (ks:List Nat):Bool:=decide (0 < ks.length) && decide (ks.length <= 8) && !ks.any Z3r
def Z2y (p:Nat × RV):Bool:=decide (p.2.k ≠ 0) && decide (p.2.k ≠ p.1)
def fitsR (ks:List Nat) (l:List RV):Nat :=
 if Z36 ks=false ∨ l.length ≠ ks.length then 1 else if l.any (fun v=>!Zt v) then 3 else if (ks.zip l).any Z2y then 8 else if 200 < 1+(l.map sizeR).sum then 2 else 0
theorem Z7a {ks:List Nat} {i:Nat} {u:Value} (h:(Z24 ks)[i]?=some u):∃ k:Nat,ks[i]?=some k/\u=.int .u8 (k:Int):=by
 unfold Z24 at h
 rw [List.getElem?_map] at h
 rcases e:ks[i]? with _ | y
 ·rw [e] at h;cases h
 ·rw [e] at h;injection h with h;exact ⟨y,rfl,h.symm⟩
theorem Z5b {l:List RV} {i j:Nat} {v:RV} {u:Value} (h:l[i]?=some v) (hu:(Z2x v)[j]?=some u):(Z0P l)[i * 4+j]?=some u:=by
 induction l generalizing i with
 | nil=>simp at h
 | cons a l ih =>
  have e:Z0P (a :: l)=Z2x a ++ Z0P l:=rfl
  have h4:(Z2x a).length=4:=rfl
  have hj:j < 4:=(zi.1 hu).1
  rw [e]
  rcases i with _ | i
  ·rw [List.getElem?_cons_zero] at h
   injection h with h
   subst h
   rw [List.getElem?_append_left (by omega),Nat.zero_mul,Nat.zero_add]
   exact hu
  ·rw [List.getElem?_cons_succ] at h
   rw [List.getElem?_append_right (by omega),h4]
   have:(i+1) * 4+j - 4=i * 4+j:=by omega
   rw [this]
   exact ih h
end Go.Lap
namespace Go.Proofs.YtobhgnjblniphaaGreatDoor
open Go.RowKit Go.Lap
structure Z1e (w:World) (K:Nat->Prop) (x:EV):Prop where
 rd:Rd w K 1 x.A x.e.key.length (Z9 x.e.key)
 by_:∀ b ∈ x.e.key,b < 256
 len:x.e.key.length <= 1000
theorem Z1e.kept {w w':World} {K S:Nat->Prop} {x:EV} (h:Z1e w K x) (ho:Z0 S w w') (hn:∀ k,K k->¬ S k):Z1e w' K x:=⟨h.rd.kept ho hn,h.by_,h.len⟩
theorem Z1e.quietly {w w':World} {K:Nat->Prop} {x:EV} (h:Z1e w K x) (ho:Quiet w w'):Z1e w' K x:=h.kept ho (fun _ _ x=>x)
theorem Z1e.mono {w:World} {K K':Nat->Prop} {x:EV} (h:Z1e w K x) (hn:∀ k,K k->K' k):Z1e w K' x:=⟨h.rd.mono hn,h.by_,h.len⟩
theorem Zcn {w:World} {K K':Nat->Prop} {x y:EV} (hx:Z1e w K x) (hy:Z1e w K' y) :
  Calls Tryz.prog 107 #[entV x.e x.A x.c,entV y.e y.A y.c] w fun e w'=>e=.returned (.int .i64 (cmpE x.e y.e))/\Quiet w w' :=
 ZgW x.e y.e x.A y.A x.c y.c K K' w hx.rd hy.rd hx.by_ hy.by_
theorem Z71 {w:World} {S:Nat->Prop} {A:Option Addr} {xs:List EV} {j:Nat} {x:EV} (h:Rd w S 3 A xs.length (Z01 xs)) (hj:xs[j]?=some x) :
  ∃ b off,A=some ⟨b,off,none⟩/\w.cell? ⟨b,off+j * 3,none⟩=some (.slice x.A x.e.key.length x.c)/\w.cell? ⟨b,off+j * 3+1,none⟩=some (.int .i64 x.e.pg)/\w.cell? ⟨b,off+j * 3+2,none⟩=some (.int .i64 x.e.sl):=by
 have hl:=(zi.1 hj).1
 obtain ⟨b,off,e,_,hc⟩:=h.cells (by rw [Z5I];omega)
 obtain ⟨h1,h2,h3⟩:=Zcm hj
 exact ⟨b,off,e,hc _ _ h1,by rw [Nat.add_assoc];exact hc _ _ h2,by rw [Nat.add_assoc];exact hc _ _ h3⟩
theorem ZiB {es:List Ent} {t:Ent} (hs:ZS es) {h k:Nat} {x:Ent} (hx:es[h]?=some x) (hlt:cmpE x t < 0) (hk:k <= h) {y:Ent} (hy:es[k]?=some y):cmpE y t < 0:=by
 rcases Nat.lt_or_ge k h with z | z
 ·exact Z23 (hs.get z hy hx) hlt
 ·have:k=h:=by omega
  subst this
  rw [hx] at hy
  injection hy with hy
  subst hy
  exact hlt
theorem ZiC {es:List Ent} {t:Ent} (hs:ZS es) {h k:Nat} {x:Ent} (hx:es[h]?=some x) (hlt:¬ cmpE x t < 0) (hk:h <= k) {y:Ent} (hy:es[k]?=some y):¬ cmpE y t < 0:=by
 rcases Nat.lt_or_ge h k with z | z
 ·intro hy2
  exact hlt (Z23 (hs.get z hx hy) hy2)
 ·have:k=h:=by omega
  subst this
  rw [hx] at hy
  injection hy with hy
  subst hy
  exact hlt
theorem Z9m (xs:List EV) (t:EV) (A:Option Addr) (cap:Nat) (S K K':Nat->Prop) (w:World) (hr:Rd w S 3 A xs.length (Z01 xs)) (hk:∀ x ∈ xs,Z1e w K x) (ht:Z1e w K' t) (hs:ZS (xs.map (·.e))) (hl:xs.length <= 100000) :
  Calls Tryz.prog 106 #[.slice A xs.length cap,entV t.e t.A t.c,.func (.func 107) #[] #[]] w fun e w'=>e=.returned (.tuple #[.int .i64 (ZO t.e (xs.map (·.e)):Int),.bool (decide (t.e ∈ xs.map (·.e)))])/\Quiet w w':=by
 obtain ⟨n,hn⟩:∃ n,xs.length=n:=⟨_,rfl⟩
 have HN:=zh hn
 have HR:=zh hr
 have HK:=zh hk
 have HT:=zh ht
 have HS:=zh hs
 rw [hn] at hl ⊢
 obtain ⟨es,hes⟩:∃ es,xs.map (·.e)=es:=⟨_,rfl⟩
 have HES:=zh hes
 rw [hes] at HS ⊢
 have hel:es.length=n:=by rw [<- hes,List.length_map,hn]
 clear hr hk ht hs hn hes
 go_enter Tryz.func106,Tryz.ntmps106
 go_wp2_with fail
 go_loopw [9,10,11] (fun ci cj _ wr=>∃ (i j:Nat),i <= j/\j <= n/\ci=.int .i64 (i:Int)/\cj=.int .i64 (j:Int)/\Quiet w wr/\wr.heap[w.heap.size]?=some (.cells #[.slice t.A t.e.key.length t.c,.int .i64 t.e.pg,.int .i64 t.e.sl] 103 (0,0))/\(∀ k y,k < i->es[k]?=some y->cmpE y t.e < 0)/\(∀ k y,j <= k->es[k]?=some y->0 <= cmpE y t.e)) (fun ci cj _ _=>(intOf cj).toNat - (intOf ci).toNat)
 case atStart=>exact ⟨0,n,Nat.zero_le _,Nat.le_refl _,rfl,rfl,(Z0.refl _ _).alloc _,Z4 _ _,fun k y hk=>by omega,fun k y hk hy=>by have:=(zi.1 hy).1;omega⟩
 case round =>
  obtain ⟨i,j,hij,hjn,rfl,rfl,hq,hb,hlo,hhi⟩:=hrel
  have HQ:=zh hq
  have HB:=zh hb
  have HLO:=zh hlo
  have HHI:=zh hhi
  clear hq hb hlo hhi
  by_cases hlt:i < j
  ·obtain ⟨h,hh⟩:∃ h:Nat,(i+j) / 2=h:=⟨_,rfl⟩
   have HH:=zh hh
   have hih:i <= h/\h < j:=by omega
   clear hh
   go_wp2_with fail
   rw [show ((i:Int)+(j:Int)) / 2=(h:Int) by have:=HH.out;omega]
   clear HH
   obtain ⟨x,hx⟩:∃ x,xs[h]?=some x:=⟨_,zg (by have:=HN.out;omega)⟩
   have hxe:es[h]?=some x.e:=by rw [<- HES.out,List.getElem?_map,hx];rfl
   obtain ⟨b,off,rfl,r0,r1,r2⟩:=Z71 (HR.out.kept HQ.out (fun _ _ x=>x)) hx
   have HORD:=zh (Zcn ((HK.out x (List.mem_of_getElem? hx)).quietly HQ.out.drew) (HT.out.quietly HQ.out.drew))
   obtain ⟨t0,t1,t2⟩:=Z1N HB.out
   have HX:=zh hxe
   have d0:(0:Int) <= (h:Int):=by omega
   have d1:(h:Int) < (n:Int):=by omega
   clear hx hxe
   by_cases hc:cmpE x.e t.e < 0
   ·have HC:=zh hc
    have hcd:decide (cmpE x.e t.e < 0)=true:=decide_eq_true hc
    go_region_held3 (fun w'=>w'.cell? ⟨b,off+h * 3,none⟩=some (.slice x.A x.e.key.length x.c)/\w'.cell? ⟨b,off+h * 3+1,none⟩=some (.int .i64 x.e.pg)/\w'.cell? ⟨b,off+h * 3+2,none⟩=some (.int .i64 x.e.sl)/\w'.cell? ⟨w.heap.size,0,none⟩=some (.slice t.A t.e.key.length t.c)/\w'.cell? ⟨w.heap.size,1,none⟩=some (.int .i64 t.e.pg)/\w'.cell? ⟨w.heap.size,2,none⟩=some (.int .i64 t.e.sl))
     (first | go_keep | fail)
     (first
       | (go_at_call 107;go_must (refine HORD.out.mono ?_;rintro e w2 ⟨rfl,hq2⟩;have k0:=hq2.cell r0 (fun x=>x);have k1:=hq2.cell r1 (fun x=>x);have k2:=hq2.cell r2 (fun x=>x);have k3:=hq2.cell t0 (fun x=>x);have k4:=hq2.cell t1 (fun x=>x);have k5:=hq2.cell t2 (fun x=>x)))
       | fail)
    have HQ2:=zh (HQ.out.drew.trans hq2)
    have HB2:=zh (hq2.get HB.out (fun x=>x))
    clear hq2 k0 k1 k2 k3 k4 k5 r0 r1 r2 t0 t1 t2 HORD HB HQ
    go_wp2
    go_roundw
    case rel=>exact ⟨h+1,j,by omega,by omega,by go_num,rfl,HQ2.out,HB2.out,fun k y hk hy=>ZiB HS.out HX.out HC.out (by omega) hy,HHI.out⟩
    case measure=>simp [intOf];omega
   ·have HC:=zh hc
    have hcd:decide (cmpE x.e t.e < 0)=false:=decide_eq_false hc
    go_region_held3 (fun w'=>w'.cell? ⟨b,off+h * 3,none⟩=some (.slice x.A x.e.key.length x.c)/\w'.cell? ⟨b,off+h * 3+1,none⟩=some (.int .i64 x.e.pg)/\w'.cell? ⟨b,off+h * 3+2,none⟩=some (.int .i64 x.e.sl)/\w'.cell? ⟨w.heap.size,0,none⟩=some (.slice t.A t.e.key.length t.c)/\w'.cell? ⟨w.heap.size,1,none⟩=some (.int .i64 t.e.pg)/\w'.cell? ⟨w.heap.size,2,none⟩=some (.int .i64 t.e.sl))
     (first | go_keep | fail)
     (first
       | (go_at_call 107;go_must (refine HORD.out.mono ?_;rintro e w2 ⟨rfl,hq2⟩;have k0:=hq2.cell r0 (fun x=>x);have k1:=hq2.cell r1 (fun x=>x);have k2:=hq2.cell r2 (fun x=>x);have k3:=hq2.cell t0 (fun x=>x);have k4:=hq2.cell t1 (fun x=>x);have k5:=hq2.cell t2 (fun x=>x)))
       | fail)
    have HQ2:=zh (HQ.out.drew.trans hq2)
    have HB2:=zh (hq2.get HB.out (fun x=>x))
    clear hq2 k0 k1 k2 k3 k4 k5 r0 r1 r2 t0 t1 t2 HORD HB HQ
    go_wp2
    go_roundw
    case rel=>exact ⟨i,h,by omega,by omega,rfl,rfl,HQ2.out,HB2.out,HLO.out,fun k y hk hy=>by have:=ZiC HS.out HX.out (show ¬ cmpE x.e t.e < 0 by have:=HC.out;omega) hk hy;omega⟩
    case measure=>simp [intOf];omega
  ·obtain rfl:i=j:=by omega
   have hpos:i=ZO t.e es:=ZaO (by omega) HLO.out (fun y hy=>by have:=HHI.out i y (Nat.le_refl _) hy;omega)
   by_cases hin:i < n
   ·obtain ⟨x,hx⟩:∃ x,xs[i]?=some x:=⟨_,zg (by have:=HN.out;omega)⟩
    have hxe:es[i]?=some x.e:=by rw [<- HES.out,List.getElem?_map,hx];rfl
    obtain ⟨b,off,rfl,r0,r1,r2⟩:=Z71 (HR.out.kept HQ.out (fun _ _ x=>x)) hx
    have HORD:=zh (Zcn ((HK.out x (List.mem_of_getElem? hx)).quietly HQ.out.drew) (HT.out.quietly HQ.out.drew))
    obtain ⟨t0,t1,t2⟩:=Z1N HB.out
    have HRES:Hid (decide (t.e ∈ es)=(cmpE x.e t.e == 0)):=by
     have h1:=Z8r HS.out (e:=t.e)
     rw [<- hpos,hxe] at h1
     have h2:=Z5w x.e t.e
     by_cases e:x.e=t.e
     ·rw [decide_eq_true (h1.2 (by rw [e])),h2.2 e];rfl
     ·rw [decide_eq_false (fun z=>e (by injection h1.1 z))]
      exact (beq_false_of_ne (fun z=>e (h2.1 z))).symm
    have HPOS:=zh hpos
    have d0:(0:Int) <= (i:Int):=by omega
    have d1:(i:Int) < (n:Int):=by omega
    clear hx hxe hpos
    go_wp2_with fail
    go_region_held3 (fun w'=>w'.cell? ⟨b,off+i * 3,none⟩=some (.slice x.A x.e.key.length x.c)/\w'.cell? ⟨b,off+i * 3+1,none⟩=some (.int .i64 x.e.pg)/\w'.cell? ⟨b,off+i * 3+2,none⟩=some (.int .i64 x.e.sl)/\w'.cell? ⟨w.heap.size,0,none⟩=some (.slice t.A t.e.key.length t.c)/\w'.cell? ⟨w.heap.size,1,none⟩=some (.int .i64 t.e.pg)/\w'.cell? ⟨w.heap.size,2,none⟩=some (.int .i64 t.e.sl))
     (first | go_keep | fail)
     (first
       | (go_at_call 107;go_must (refine HORD.out.mono ?_;rintro e w2 ⟨rfl,hq2⟩;have k0:=hq2.cell r0 (fun x=>x);have k1:=hq2.cell r1 (fun x=>x);have k2:=hq2.cell r2 (fun x=>x);have k3:=hq2.cell t0 (fun x=>x);have k4:=hq2.cell t1 (fun x=>x);have k5:=hq2.cell t2 (fun x=>x)))
       | fail)
    have HQ2:=zh (HQ.out.drew.trans hq2)
    have HB2:=zh (hq2.get HB.out (fun x=>x))
    clear hq2 k0 k1 k2 k3 k4 k5 r0 r1 r2 t0 t1 t2 HORD HB HQ
    go_wp2
    go_ret2
    rw [HRES.out,<- HPOS.out]
    exact ⟨rfl,HQ2.out⟩
   ·obtain rfl:i=n:=by omega
    have HRES:Hid (decide (t.e ∈ es)=false):=decide_eq_false (fun z=>by
      have:=(Z8r HS.out).1 z
      rw [<- hpos] at this
      have:=(zi.1 this).1
      omega)
    have HPOS:=zh hpos
    clear hpos
    go_wp2_with fail
    go_quiet (fail)
    go_wp2
    go_ret2
    rw [HRES.out,<- HPOS.out]
    exact ⟨rfl,HQ.out.drewN _⟩
theorem Z3G:(Tryz.prog.info? 103).map (·.size)=some 3:=by kernel_rfl
theorem Zds (v:Value) (n vb:Nat) (xs news:List Value) (w:World) (hown:w.ownsRow 0 103 3 v n xs) (hnl:news.length=3) (hnew:w.heap[vb]?=some (.cells news.toArray 103 (0,0))) (h1:∀ u ∈ news,u.oneCell'=true) (hn:n <= 100000) :
  Calls Tryz.prog 108 #[v,.int .i64 (n:Int),.slice (some ⟨vb,0,none⟩) 1 1] w fun e w'=>∃ v',e=.returned v'/\ZT w w' 103 3 v v' (n+1) (xs ++ news):=by
 obtain ⟨A,cap,hv,hnc,hcm,_⟩:=Za hown
 subst hv
 unfold maxLen at hcm
 have HO:=zh hown
 have HR:Hid (Rd w (fun _=>True) 3 (some ⟨vb,0,none⟩) 1 news):=⟨by omega,fun _=>⟨vb,0,rfl,trivial,fun j u hu=>by rw [Z1 hnew];simpa using hu⟩⟩
 have H1:=zh h1
 clear hown hnew h1
 by_cases hc:cap=n
 ·subst hc
  go_enter Tryz.func108,Tryz.ntmps108
  go_wp2_with (at_builtin;refine app Z3o rfl (.tmp 23) (.tmp 24) rfl rfl HO.out rfl HR.out H1.out (by unfold maxLen;omega) (by omega) ?_)
  intro v' w1 hg
  have HG:=zh hg
  clear hg
  go_wp2
  go_ret
  exact ⟨v',rfl,HG.out⟩
 ·go_enter Tryz.func108,Tryz.ntmps108
  go_wp2_with (at_builtin;refine app Z3o rfl (.tmp 23) (.tmp 24) rfl rfl HO.out rfl HR.out H1.out (by unfold maxLen;omega) (by omega) ?_)
  intro v' w1 hg
  have HG:=zh hg
  clear hg
  go_wp2
  go_ret
  exact ⟨v',rfl,HG.out⟩
theorem Zcp (g n i vb:Nat) (xs news:List Value) (w:World) (hown:w.ownsRow 0 103 3 (.slice (some ⟨g,0,none⟩) n n) n xs) (hnl:news.length=3) (hnew:w.heap[vb]?=some (.cells news.toArray 103 (0,0))) (h1:∀ u ∈ news,u.oneCell'=true) (hx1:∀ u ∈ xs,u.oneCell'=true) (hn:n <= 100000) (hi:i < n) :
  Calls Tryz.prog 108 #[.slice (some ⟨g,0,none⟩) n n,.int .i64 (i:Int),.slice (some ⟨vb,0,none⟩) 1 1] w fun e w'=>∃ v',e=.returned v'/\ZT w w' 103 3 (.slice (some ⟨g,0,none⟩) n n) v' (n+1) (xs.take (i * 3) ++ news ++ xs.drop (i * 3)):=by
 have hxl:=hown.1
 have hcell:∀ j v,xs[j]?=some v->w.cell? ⟨g,j,none⟩=some v:=fun j v hj=>by have:=hown.cells rfl j v hj;rw [Zl,Nat.zero_add] at this;exact this
 have hgl:g < w.heap.size:=(hown.lt g rfl).2
 have HC:=zh hcell
 have HN:=zh hnew
 have H1:=zh h1
 have HX:=zh hx1
 have hin:¬ ((i:Int)=(n:Int)):=by omega
 have hin2:¬ n=i:=by omega
 have d0:(0:Int) <= (i:Int):=by omega
 have d1:(i:Int) <= (n:Int):=by omega
 have d2:(i:Int) <= (n:Int)+1:=by omega
 clear hown hcell hnew h1 hx1
 go_enter Tryz.func108,Tryz.ntmps108
 go_wp2_with (at_builtin;refine ZgX Z3o Tryz.underlying3 rfl (.tmp 34) (.tmp 39) rfl (g:=g) (off:=0) (i:=i) (cap:=n) (m:=n+1 - i) (olds:=xs.take (i * 3)) rfl rfl (by omega) (by omega) (by omega) (by rw [List.length_take];omega) (fun j v hj=>by
   rw [Nat.zero_add]
   rw [List.getElem?_take] at hj
   split at hj
   · exact HC.out j v hj
   · cases hj) (by omega) (by omega) ?_)
 intro w1 G ROW hG hGm hh1 hRs hRt hq1
 rw [show i+(n+1 - i)=n+1 by omega] at hG ⊢
 have HH1:=zh hh1
 have HQ1:=zh hq1
 have HRT:=zh hRt
 have hvb1:w1.heap[vb]?=_:=hq1.get HN.out (fun x=>x)
 have HV1:=zh hvb1
 have hGi:¬ G=i:=by omega
 have hGi1:¬ G=i+1:=by omega
 unfold maxLen at hGm
 clear hh1 hq1 hRt hvb1
 obtain ⟨w2,hcp1,hh2,ho2⟩:=Z1O (P:=Tryz.prog) w1 158 158 103 (k:=3) (g:=w.heap.size) (at_:=i * 3) (dLen:=n+1 - i) (dCap:=G - i) (sLen:=1) (sCap:=1) (src:=⟨vb,0,none⟩) (cs:=news) (m:=1) Tryz.underlying158 Z3G (Nat.min_eq_left (by omega)) HH1.out (by rw [hnl]) (fun j v hj=>by rw [Zl,Z1 HV1.out,Nat.zero_add];simpa using hj) (by rw [hnl,hRs];omega) H1.out
 have HH2:=zh hh2
 have HO2:Hid (Z0 (fun k=>k=w.heap.size) w w2):=(HQ1.out.mono (T:=fun k=>k=w.heap.size) (fun _ _ x=>x.elim)).trans' ho2 (fun k _ e=>e)
 clear hh2 ho2 HH1 HV1
 obtain ⟨w3,hcp2,hh3,ho3⟩:=Z1O (P:=Tryz.prog) w2.drew 158 158 103 (k:=3) (g:=w.heap.size) (at_:=(i+1) * 3) (dLen:=n - i) (dCap:=G - (i+1)) (sLen:=n - i) (sCap:=n - i) (src:=⟨g,i * 3,none⟩) (cs:=xs.drop (i * 3)) (m:=n - i) Tryz.underlying158 Z3G (Nat.min_self _) HH2.out (by rw [List.length_drop];omega) (fun j v hj=>by
   rw [Zl]
   rw [List.getElem?_drop] at hj
   exact HO2.out.cell (HC.out _ v hj) (by show ¬ g=w.heap.size;omega)) (by rw [Z0i (by rw [hnl,hRs];omega),List.length_drop,hRs];omega) (fun v hv=>HX.out v (List.mem_of_mem_drop hv))
 have HH3:=zh hh3
 have HO3:Hid (Z0 (fun k=>k=w.heap.size) w w3):=HO2.out.drew.trans ho3
 clear hh3 ho3 HH2 HO2
 have dw:IntKind.i64.wrap ((i:Int)+1)=(i:Int)+1:=Z3a (by omega)
 have dt:((i:Int)+1).toNat=i+1:=by omega
 have d3:(0:Int) <= (i:Int)+1:=by omega
 have d4:(i:Int)+1 <= (n:Int)+1:=by omega
 go_wp2_with fail
 go_region_held3 (fun _=>True) (first | trivial | fail) (fail)
 have HF:Hid (ZT w w3 103 3 (.slice (some ⟨g,0,none⟩) n n) (.slice (some ⟨w.heap.size,0,none⟩) (n+1) G) (n+1) (xs.take (i * 3) ++ news ++ xs.drop (i * 3))):=by
  refine ⟨⟨?_,Or.inr ⟨w.heap.size,G,_,rfl,Nat.zero_le _,HH3.out,hG,by unfold maxLen;omega,?_,?_⟩⟩,HO3.out.mono (fun k hk e=>by omega),Or.inr rfl⟩
  ·simp only [List.length_append,List.length_take,List.length_drop,hnl];omega
  ·rw [Z0i (by rw [Z0i (by rw [hnl,hRs];omega),List.length_drop,hRs];omega),Z0i (by rw [hnl,hRs];omega),hRs]
  ·exact Zco hxl hnl (by omega) HRT.out (by rw [hRs];omega)
 clear hcp1 hcp2 HH3 HO3
 go_wp2
 go_ret
 exact ⟨_,rfl,HF.out⟩
theorem Zbk (g n cap i vb:Nat) (xs news:List Value) (w:World) (hown:w.ownsRow 0 103 3 (.slice (some ⟨g,0,none⟩) n cap) n xs) (hnl:news.length=3) (hnew:w.heap[vb]?=some (.cells news.toArray 103 (0,0))) (h1:∀ u ∈ news,u.oneCell'=true) (hx1:∀ u ∈ xs,u.oneCell'=true) (hn:n <= 100000) (hi:i < n) (hcap:n+1 <= cap) (hvg:vb ≠ g) :
  Calls Tryz.prog 108 #[.slice (some ⟨g,0,none⟩) n cap,.int .i64 (i:Int),.slice (some ⟨vb,0,none⟩) 1 1] w fun e w'=>∃ v',e=.returned v'/\ZT w w' 103 3 (.slice (some ⟨g,0,none⟩) n cap) v' (n+1) (xs.take (i * 3) ++ news ++ xs.drop (i * 3)):=by
 have hxl:=hown.1
 have hcell:∀ j v,xs[j]?=some v->w.cell? ⟨g,j,none⟩=some v:=fun j v hj=>by have:=hown.cells rfl j v hj;rw [Zl,Nat.zero_add] at this;exact this
 obtain ⟨cur,hcur,hcs,hct,hcm⟩:∃ cur:Array Value,w.heap[g]?=some (.cells cur 103 (0,0))/\cur.size=cap * 3/\cur.toList.take (n * 3)=xs/\cap <= maxLen:=by
  rcases hown.2 with ⟨e1,_⟩ | ⟨g',cap',cur,e1,_,hh,_,hm,h1,h2⟩
  ·cases e1
  ·injection e1 with e1 _ e3
   injection e1 with e1
   injection e1 with e1 _ _
   subst e1 e3
   exact ⟨cur,hh,h1,h2,hm⟩
 unfold maxLen at hcm
 have hov:∀ lb cb,(callFunc 140 #[.slice (some ⟨vb,0,none⟩) 1 1,.slice (some ⟨g,(i+1) * 3,none⟩) lb cb]).run Tryz.prog w=.ok (.value (.bool false)) w:=fun lb cb=>by
  rw [run_callFunc_extern Tryz.func140 (by kernel_rfl) (by kernel_rfl) (by kernel_rfl) (e:=Extern.SlicesOverlaps.overlaps #[158,158] #[4]) (by kernel_rfl),
    Lib.run_overlaps_apart w 158 4 103 Tryz.underlying158 3 (fun w=>by kernel_rfl) ⟨vb,0,none⟩ ⟨g,(i+1) * 3,none⟩ 1 1 lb cb hvg 103 103 news.toArray.size cur.size (by simp [World.shape?,hnew]) (by simp [World.shape?,hcur]) (by rw [hcs];omega) (Z7 hnew 0) (Z7 hnew _)]
  rfl
 have hin:¬ ((i:Int)=(n:Int)):=by omega
 have d0:(0:Int) <= (i:Int):=by omega
 have d1:(i:Int) <= (n:Int):=by omega
 have d2:(i:Int) <= (n:Int)+1:=by omega
 have dw:IntKind.i64.wrap ((i:Int)+1)=(i:Int)+1:=Z3a (by omega)
 have dt:((i:Int)+1).toNat=i+1:=by omega
 have d3:(0:Int) <= (i:Int)+1:=by omega
 have d4:(i:Int)+1 <= (n:Int)+1:=by omega
 have hci:¬ cap=i:=by omega
 have hci1:¬ cap=i+1:=by omega
 obtain ⟨w2,hcp1,hh2,ho2⟩:=Z1O (P:=Tryz.prog) w.drew 158 158 103 (k:=3) (g:=g) (at_:=(i+1) * 3) (dLen:=n - i) (dCap:=cap - (i+1)) (sLen:=n+1 - i) (sCap:=cap - i) (src:=⟨g,i * 3,none⟩) (cs:=xs.drop (i * 3)) (m:=n - i) Tryz.underlying158 Z3G (Nat.min_eq_right (by omega)) (show w.drew.heap[g]?=_ from hcur) (by rw [List.length_drop];omega) (fun j v hj=>by
   rw [Zl]
   rw [List.getElem?_drop] at hj
   exact hcell _ v hj) (by rw [List.length_drop,hcs];omega) (fun v hv=>hx1 v (List.mem_of_mem_drop hv))
 have HO2:Hid (Z0 (fun k=>k=g) w w2):=((Z0.refl (fun k=>k=g) w).drew).trans ho2
 obtain ⟨w3,hcp2,hh3,ho3⟩:=Z1O (P:=Tryz.prog) w2 158 158 103 (k:=3) (g:=g) (at_:=i * 3) (dLen:=n+1 - i) (dCap:=cap - i) (sLen:=1) (sCap:=1) (src:=⟨vb,0,none⟩) (cs:=news) (m:=1) Tryz.underlying158 Z3G (Nat.min_eq_left (by omega)) hh2 (by rw [hnl]) (fun j v hj=>by rw [Zl,Z1 (HO2.out.get hnew hvg),Nat.zero_add];simpa using hj) (by rw [hnl,Z0i (by rw [List.length_drop,hcs];omega),hcs];omega) h1
 have HF:Hid (ZT w w3 103 3 (.slice (some ⟨g,0,none⟩) n cap) (.slice (some ⟨g,0,none⟩) (n+1) cap) (n+1) (xs.take (i * 3) ++ news ++ xs.drop (i * 3))):=by
  refine ⟨⟨?_,Or.inr ⟨g,cap,_,rfl,Nat.zero_le _,hh3,hcap,by unfold maxLen;omega,?_,?_⟩⟩,(HO2.out.trans ho3).mono (fun k hk e=>by rw [e];rfl),Or.inl rfl⟩
  ·simp only [List.length_append,List.length_take,List.length_drop,hnl];omega
  ·rw [Z0i (by rw [hnl,Z0i (by rw [List.length_drop,hcs];omega),hcs];omega),Z0i (by rw [List.length_drop,hcs];omega),hcs]
  ·exact ZaP hxl hnl (by omega) hct (by rw [hcs];omega)
 clear hown hcell hcur hct hnew h1 hx1 hh2 ho2 hh3 ho3 HO2
 go_enter Tryz.func108,Tryz.ntmps108
 go_wp2_with fail
 go_region_held3 (fun _=>True) (first | trivial | fail) (fail)
 go_wp2
 go_ret
 exact ⟨_,rfl,HF.out⟩
theorem Z7Y (v:Value) (n i vb:Nat) (xs news:List Value) (w:World) (hown:w.ownsRow 0 103 3 v n xs) (hnl:news.length=3) (hnew:w.heap[vb]?=some (.cells news.toArray 103 (0,0))) (h1:∀ u ∈ news,u.oneCell'=true) (hx1:∀ u ∈ xs,u.oneCell'=true) (hn:n <= 100000) (hi:i <= n) (hvb:v.ownBlock ≠ some vb) :
  Calls Tryz.prog 108 #[v,.int .i64 (i:Int),.slice (some ⟨vb,0,none⟩) 1 1] w fun e w'=>∃ v',e=.returned v'/\ZT w w' 103 3 v v' (n+1) (xs.take (i * 3) ++ news ++ xs.drop (i * 3)):=by
 have hxl:=hown.1
 by_cases hin:i=n
 ·subst hin
  have:=Zds v i vb xs news w hown hnl hnew h1 hn
  rw [List.take_of_length_le (by omega),List.drop_of_length_le (by omega),List.append_nil]
  exact this
 ·rcases ZB hown with ⟨_,h0⟩ | ⟨g,cap,rfl,hnc,_⟩
  ·omega
  ·by_cases hc:cap=n
   ·subst hc
    exact Zcp g cap i vb xs news w hown hnl hnew h1 hx1 hn (by omega)
   ·exact Zbk g n cap i vb xs news w hown hnl hnew h1 hx1 hn (by omega) (by omega) (fun e=>hvb (by rw [e];rfl))
theorem Z3H:(Tryz.prog.info? 157).map (·.size)=some 1:=by kernel_rfl
theorem Zdt (v:Value) (n vb:Nat) (xs news:List Value) (w:World) (hown:w.ownsRow 0 157 1 v n xs) (hnl:news.length=1) (hnew:w.heap[vb]?=some (.cells news.toArray 157 (0,0))) (h1:∀ u ∈ news,u.oneCell'=true) (hn:n <= 100000) :
  Calls Tryz.prog 110 #[v,.int .i64 (n:Int),.slice (some ⟨vb,0,none⟩) 1 1] w fun e w'=>∃ v',e=.returned v'/\ZT w w' 157 1 v v' (n+1) (xs ++ news):=by
 obtain ⟨A,cap,hv,hnc,hcm,_⟩:=Za hown
 subst hv
 unfold maxLen at hcm
 have HO:=zh hown
 have HR:Hid (Rd w (fun _=>True) 1 (some ⟨vb,0,none⟩) 1 news):=⟨by omega,fun _=>⟨vb,0,rfl,trivial,fun j u hu=>by rw [Z1 hnew];simpa using hu⟩⟩
 have H1:=zh h1
 clear hown hnew h1
 by_cases hc:cap=n
 ·subst hc
  go_enter Tryz.func110,Tryz.ntmps110
  go_wp2_with (at_builtin;refine app Z3A rfl (.tmp 23) (.tmp 24) rfl rfl HO.out rfl HR.out H1.out (by unfold maxLen;omega) (by omega) ?_)
  intro v' w1 hg
  have HG:=zh hg
  clear hg
  go_wp2
  go_ret
  exact ⟨v',rfl,HG.out⟩
 ·go_enter Tryz.func110,Tryz.ntmps110
  go_wp2_with (at_builtin;refine app Z3A rfl (.tmp 23) (.tmp 24) rfl rfl HO.out rfl HR.out H1.out (by unfold maxLen;omega) (by omega) ?_)
  intro v' w1 hg
  have HG:=zh hg
  clear hg
  go_wp2
  go_ret
  exact ⟨v',rfl,HG.out⟩
theorem Zcq (g n i vb:Nat) (xs news:List Value) (w:World) (hown:w.ownsRow 0 157 1 (.slice (some ⟨g,0,none⟩) n n) n xs) (hnl:news.length=1) (hnew:w.heap[vb]?=some (.cells news.toArray 157 (0,0))) (h1:∀ u ∈ news,u.oneCell'=true) (hx1:∀ u ∈ xs,u.oneCell'=true) (hn:n <= 100000) (hi:i < n) :
  Calls Tryz.prog 110 #[.slice (some ⟨g,0,none⟩) n n,.int .i64 (i:Int),.slice (some ⟨vb,0,none⟩) 1 1] w fun e w'=>∃ v',e=.returned v'/\ZT w w' 157 1 (.slice (some ⟨g,0,none⟩) n n) v' (n+1) (xs.take i ++ news ++ xs.drop i):=by
 have hxl:=hown.1
 have hcell:∀ j v,xs[j]?=some v->w.cell? ⟨g,j,none⟩=some v:=fun j v hj=>by have:=hown.cells rfl j v hj;rw [Zl,Nat.zero_add] at this;exact this
 have hgl:g < w.heap.size:=(hown.lt g rfl).2
 have HC:=zh hcell
 have HN:=zh hnew
 have H1:=zh h1
 have HX:=zh hx1
 have hin:¬ ((i:Int)=(n:Int)):=by omega
 have hin2:¬ n=i:=by omega
 have d0:(0:Int) <= (i:Int):=by omega
 have d1:(i:Int) <= (n:Int):=by omega
 have d2:(i:Int) <= (n:Int)+1:=by omega
 clear hown hcell hnew h1 hx1
 go_enter Tryz.func110,Tryz.ntmps110
 go_wp2_with (at_builtin;refine ZgX Z3A Tryz.underlying3 rfl (.tmp 34) (.tmp 39) rfl (g:=g) (off:=0) (i:=i) (cap:=n) (m:=n+1 - i) (olds:=xs.take i) rfl rfl (by omega) (by omega) (by omega) (by rw [List.length_take];omega) (fun j v hj=>by
   rw [Nat.zero_add]
   rw [List.getElem?_take] at hj
   split at hj
   · exact HC.out j v hj
   · cases hj) (by omega) (by omega) ?_)
 intro w1 G ROW hG hGm hh1 hRs hRt hq1
 rw [show i+(n+1 - i)=n+1 by omega] at hG ⊢
 have HH1:=zh hh1
 have HQ1:=zh hq1
 have HRT:=zh hRt
 have hvb1:w1.heap[vb]?=_:=hq1.get HN.out (fun x=>x)
 have HV1:=zh hvb1
 have hGi:¬ G=i:=by omega
 have hGi1:¬ G=i+1:=by omega
 unfold maxLen at hGm
 clear hh1 hq1 hRt hvb1
 obtain ⟨w2,hcp1,hh2,ho2⟩:=Z1O (P:=Tryz.prog) w1 159 159 157 (k:=1) (g:=w.heap.size) (at_:=i) (dLen:=n+1 - i) (dCap:=G - i) (sLen:=1) (sCap:=1) (src:=⟨vb,0,none⟩) (cs:=news) (m:=1) Tryz.underlying159 Z3H (Nat.min_eq_left (by omega)) HH1.out (by rw [hnl]) (fun j v hj=>by rw [Zl,Z1 HV1.out,Nat.zero_add];simpa using hj) (by rw [hnl,hRs];omega) H1.out
 have HH2:=zh hh2
 have HO2:Hid (Z0 (fun k=>k=w.heap.size) w w2):=(HQ1.out.mono (T:=fun k=>k=w.heap.size) (fun _ _ x=>x.elim)).trans' ho2 (fun k _ e=>e)
 clear hh2 ho2 HH1 HV1
 obtain ⟨w3,hcp2,hh3,ho3⟩:=Z1O (P:=Tryz.prog) w2.drew 159 159 157 (k:=1) (g:=w.heap.size) (at_:=(i+1)) (dLen:=n - i) (dCap:=G - (i+1)) (sLen:=n - i) (sCap:=n - i) (src:=⟨g,i,none⟩) (cs:=xs.drop i) (m:=n - i) Tryz.underlying159 Z3H (Nat.min_self _) HH2.out (by rw [List.length_drop];omega) (fun j v hj=>by
   rw [Zl]
   rw [List.getElem?_drop] at hj
   exact HO2.out.cell (HC.out _ v hj) (by show ¬ g=w.heap.size;omega)) (by rw [Z0i (by rw [hnl,hRs];omega),List.length_drop,hRs];omega) (fun v hv=>HX.out v (List.mem_of_mem_drop hv))
 have HH3:=zh hh3
 have HO3:Hid (Z0 (fun k=>k=w.heap.size) w w3):=HO2.out.drew.trans ho3
 clear hh3 ho3 HH2 HO2
 have dw:IntKind.i64.wrap ((i:Int)+1)=(i:Int)+1:=Z3a (by omega)
 have dt:((i:Int)+1).toNat=i+1:=by omega
 have d3:(0:Int) <= (i:Int)+1:=by omega
 have d4:(i:Int)+1 <= (n:Int)+1:=by omega
 go_wp2_with fail
 go_region_held3 (fun _=>True) (first | trivial | fail) (fail)
 have HF:Hid (ZT w w3 157 1 (.slice (some ⟨g,0,none⟩) n n) (.slice (some ⟨w.heap.size,0,none⟩) (n+1) G) (n+1) (xs.take i ++ news ++ xs.drop i)):=by
  refine ⟨⟨?_,Or.inr ⟨w.heap.size,G,_,rfl,Nat.zero_le _,HH3.out,hG,by unfold maxLen;omega,?_,?_⟩⟩,HO3.out.mono (fun k hk e=>by omega),Or.inr rfl⟩
  ·simp only [List.length_append,List.length_take,List.length_drop,hnl];omega
  ·rw [Z0i (by rw [Z0i (by rw [hnl,hRs];omega),List.length_drop,hRs];omega),Z0i (by rw [hnl,hRs];omega),hRs];omega
  ·exact ZgY (by omega) hnl (by omega) HRT.out (by rw [hRs];omega)
 clear hcp1 hcp2 HH3 HO3
 go_wp2
 go_ret
 exact ⟨_,rfl,HF.out⟩
theorem Zbl (g n cap i vb:Nat) (xs news:List Value) (w:World) (hown:w.ownsRow 0 157 1 (.slice (some ⟨g,0,none⟩) n cap) n xs) (hnl:news.length=1) (hnew:w.heap[vb]?=some (.cells news.toArray 157 (0,0))) (h1:∀ u ∈ news,u.oneCell'=true) (hx1:∀ u ∈ xs,u.oneCell'=true) (hn:n <= 100000) (hi:i < n) (hcap:n+1 <= cap) (hvg:vb ≠ g) :
  Calls Tryz.prog 110 #[.slice (some ⟨g,0,none⟩) n cap,.int .i64 (i:Int),.slice (some ⟨vb,0,none⟩) 1 1] w fun e w'=>∃ v',e=.returned v'/\ZT w w' 157 1 (.slice (some ⟨g,0,none⟩) n cap) v' (n+1) (xs.take i ++ news ++ xs.drop i):=by
 have hxl:=hown.1
 have hcell:∀ j v,xs[j]?=some v->w.cell? ⟨g,j,none⟩=some v:=fun j v hj=>by have:=hown.cells rfl j v hj;rw [Zl,Nat.zero_add] at this;exact this
 obtain ⟨cur,hcur,hcs,hct,hcm⟩:∃ cur:Array Value,w.heap[g]?=some (.cells cur 157 (0,0))/\cur.size=cap/\cur.toList.take (n)=xs/\cap <= maxLen:=by
  rcases hown.2 with ⟨e1,_⟩ | ⟨g',cap',cur,e1,_,hh,_,hm,h1,h2⟩
  ·cases e1
  ·injection e1 with e1 _ e3
   injection e1 with e1
   injection e1 with e1 _ _
   subst e1 e3
   exact ⟨cur,hh,by simpa using h1,by simpa using h2,hm⟩
 unfold maxLen at hcm
 have hov:∀ lb cb,(callFunc 142 #[.slice (some ⟨vb,0,none⟩) 1 1,.slice (some ⟨g,(i+1),none⟩) lb cb]).run Tryz.prog w=.ok (.value (.bool false)) w:=fun lb cb=>by
  rw [run_callFunc_extern Tryz.func142 (by kernel_rfl) (by kernel_rfl) (by kernel_rfl) (e:=Extern.SlicesOverlaps.overlaps #[159,159] #[4]) (by kernel_rfl),
    Lib.run_overlaps_apart w 159 4 157 Tryz.underlying159 1 (fun w=>by kernel_rfl) ⟨vb,0,none⟩ ⟨g,(i+1),none⟩ 1 1 lb cb hvg 157 157 news.toArray.size cur.size (by simp [World.shape?,hnew]) (by simp [World.shape?,hcur]) (by rw [hcs];omega) (Z7 hnew 0) (Z7 hnew _)]
  rfl
 have hin:¬ ((i:Int)=(n:Int)):=by omega
 have d0:(0:Int) <= (i:Int):=by omega
 have d1:(i:Int) <= (n:Int):=by omega
 have d2:(i:Int) <= (n:Int)+1:=by omega
 have dw:IntKind.i64.wrap ((i:Int)+1)=(i:Int)+1:=Z3a (by omega)
 have dt:((i:Int)+1).toNat=i+1:=by omega
 have d3:(0:Int) <= (i:Int)+1:=by omega
 have d4:(i:Int)+1 <= (n:Int)+1:=by omega
 have hci:¬ cap=i:=by omega
 have hci1:¬ cap=i+1:=by omega
 obtain ⟨w2,hcp1,hh2,ho2⟩:=Z1O (P:=Tryz.prog) w.drew 159 159 157 (k:=1) (g:=g) (at_:=(i+1)) (dLen:=n - i) (dCap:=cap - (i+1)) (sLen:=n+1 - i) (sCap:=cap - i) (src:=⟨g,i,none⟩) (cs:=xs.drop i) (m:=n - i) Tryz.underlying159 Z3H (Nat.min_eq_right (by omega)) (show w.drew.heap[g]?=_ from hcur) (by rw [List.length_drop];omega) (fun j v hj=>by
   rw [Zl]
   rw [List.getElem?_drop] at hj
   exact hcell _ v hj) (by rw [List.length_drop,hcs];omega) (fun v hv=>hx1 v (List.mem_of_mem_drop hv))
 have HO2:Hid (Z0 (fun k=>k=g) w w2):=((Z0.refl (fun k=>k=g) w).drew).trans ho2
 obtain ⟨w3,hcp2,hh3,ho3⟩:=Z1O (P:=Tryz.prog) w2 159 159 157 (k:=1) (g:=g) (at_:=i) (dLen:=n+1 - i) (dCap:=cap - i) (sLen:=1) (sCap:=1) (src:=⟨vb,0,none⟩) (cs:=news) (m:=1) Tryz.underlying159 Z3H (Nat.min_eq_left (by omega)) hh2 (by rw [hnl]) (fun j v hj=>by rw [Zl,Z1 (HO2.out.get hnew hvg),Nat.zero_add];simpa using hj) (by rw [hnl,Z0i (by rw [List.length_drop,hcs];omega),hcs];omega) h1
 have HF:Hid (ZT w w3 157 1 (.slice (some ⟨g,0,none⟩) n cap) (.slice (some ⟨g,0,none⟩) (n+1) cap) (n+1) (xs.take i ++ news ++ xs.drop i)):=by
  refine ⟨⟨?_,Or.inr ⟨g,cap,_,rfl,Nat.zero_le _,hh3,hcap,by unfold maxLen;omega,?_,?_⟩⟩,(HO2.out.trans ho3).mono (fun k hk e=>by rw [e];rfl),Or.inl rfl⟩
  ·simp only [List.length_append,List.length_take,List.length_drop,hnl];omega
  ·rw [Z0i (by rw [hnl,Z0i (by rw [List.length_drop,hcs];omega),hcs];omega),Z0i (by rw [List.length_drop,hcs];omega),hcs];omega
  ·exact Zfe (by omega) hnl (by omega) hct (by rw [hcs];omega)
 clear hown hcell hcur hct hnew h1 hx1 hh2 ho2 hh3 ho3 HO2
 go_enter Tryz.func110,Tryz.ntmps110
 go_wp2_with fail
 go_region_held3 (fun _=>True) (first | trivial | fail) (fail)
 go_wp2
 go_ret
 exact ⟨_,rfl,HF.out⟩
theorem Zdu (v:Value) (n i vb:Nat) (xs news:List Value) (w:World) (hown:w.ownsRow 0 157 1 v n xs) (hnl:news.length=1) (hnew:w.heap[vb]?=some (.cells news.toArray 157 (0,0))) (h1:∀ u ∈ news,u.oneCell'=true) (hx1:∀ u ∈ xs,u.oneCell'=true) (hn:n <= 100000) (hi:i <= n) (hvb:v.ownBlock ≠ some vb) :
  Calls Tryz.prog 110 #[v,.int .i64 (i:Int),.slice (some ⟨vb,0,none⟩) 1 1] w fun e w'=>∃ v',e=.returned v'/\ZT w w' 157 1 v v' (n+1) (xs.take i ++ news ++ xs.drop i):=by
 have hxl:=hown.1
 by_cases hin:i=n
 ·subst hin
  have:=Zdt v i vb xs news w hown hnl hnew h1 hn
  rw [List.take_of_length_le (by omega),List.drop_of_length_le (by omega),List.append_nil]
  exact this
 ·rcases ZB hown with ⟨_,h0⟩ | ⟨g,cap,rfl,hnc,_⟩
  ·omega
  ·by_cases hc:cap=n
   ·subst hc
    exact Zcq g cap i vb xs news w hown hnl hnew h1 hx1 hn (by omega)
   ·exact Zbl g n cap i vb xs news w hown hnl hnew h1 hx1 hn (by omega) (by omega) (fun e=>hvb (by rw [e];rfl))
structure Z7s (K:Nat->Prop) (w:World) (b:Nat) (F:Nat->Prop) (xs:List EV) (v:Value):Prop where
 box:w.heap[b]?=some (.cells #[v,.slice none 0 0] 161 (0,0))
 row:RowAt w v xs
 key:∀ x ∈ xs,Z1e w K x
 foot:F b/\(∀ k,v.ownBlock=some k->F k)
structure Z5E (N:World->Nat->(Nat->Prop)->List EV->Prop) (w:World) (b:Nat) (F:Nat->Prop) (v u:Value) (ks:List Kid):Prop where
 box:w.heap[b]?=some (.cells #[v,u] 161 (0,0))
 row:RowAt w v (heads ks)
 kids:w.ownsRow 0 157 1 u ks.length (kptrs ks)
 some_:∃ g,u.ownBlock=some g
 two:2 <= ks.length
 kid:∀ x ∈ ks,x.xs ≠ []/\N w x.b x.F x.xs
 sub:∀ x ∈ ks,∀ k,x.F k->F k/\k ≠ b/\v.ownBlock ≠ some k/\u.ownBlock ≠ some k
 apart:ks.Pairwise (fun x y=>∀ k,x.F k->¬ y.F k)
 foot:F b/\(∀ k,v.ownBlock=some k->F k)/\(∀ k,u.ownBlock=some k->F k)
def Zi (K:Nat->Prop):Nat->World->Nat->(Nat->Prop)->List EV->Prop
 | 0,w,b,F,xs=>∃ v,Z7s K w b F xs v
 | h+1,w,b,F,xs=>∃ v u ks,Z5E (Zi K h) w b F v u ks/\xs=flat ks
theorem Zi.kept {K S:Nat->Prop} {w w':World} (ho:Z0 S w w') (hK:∀ k,K k->¬ S k) {h:Nat}:∀ {b:Nat} {F:Nat->Prop} {xs:List EV},Zi K h w b F xs->(∀ k,F k->¬ S k)->Zi K h w' b F xs:=by
 induction h with
 | zero =>
  intro b F xs ⟨v,h⟩ hF
  exact ⟨v,ho.get h.box (hF _ h.foot.1),Z5 h.row ho (fun k e=>hF k (h.foot.2 k e)),fun x hx=>(h.key x hx).kept ho hK,h.foot⟩
 | succ h ih =>
  intro b F xs ⟨v,u,ks,h,e⟩ hF
  exact ⟨v,u,ks,⟨ho.get h.box (hF _ h.foot.1),Z5 h.row ho (fun k e=>hF k (h.foot.2.1 k e)),Z5 h.kids ho (fun k e=>hF k (h.foot.2.2 k e)),h.some_,h.two,fun x hx=>⟨(h.kid x hx).1,ih (h.kid x hx).2 (fun k hk=>hF k (h.sub x hx k hk).1)⟩,h.sub,h.apart,h.foot⟩,e⟩
theorem Zi.mono {K:Nat->Prop} {h:Nat} {w:World} {b:Nat} {F G:Nat->Prop} {xs:List EV} (hn:Zi K h w b F xs) (hg:∀ k,F k->G k):Zi K h w b G xs:=by
 cases h with
 | zero=>obtain ⟨v,h⟩:=hn;exact ⟨v,h.box,h.row,h.key,hg _ h.foot.1,fun k e=>hg _ (h.foot.2 k e)⟩
 | succ h =>
  obtain ⟨v,u,ks,h,e⟩:=hn
  exact ⟨v,u,ks,⟨h.box,h.row,h.kids,h.some_,h.two,h.kid,fun x hx k hk=>⟨hg _ (h.sub x hx k hk).1,(h.sub x hx k hk).2⟩,h.apart,hg _ h.foot.1,fun k e=>hg _ (h.foot.2.1 k e),fun k e=>hg _ (h.foot.2.2 k e)⟩,e⟩
theorem Zi.keys {K K':Nat->Prop} {w:World} (hk:∀ k,K k->K' k) {h:Nat}:∀ {b:Nat} {F:Nat->Prop} {xs:List EV},Zi K h w b F xs->Zi K' h w b F xs:=by
 induction h with
 | zero =>
  intro b F xs ⟨v,h⟩
  exact ⟨v,h.box,h.row,fun x hx=>(h.key x hx).mono hk,h.foot⟩
 | succ h ih =>
  intro b F xs ⟨v,u,ks,h,e⟩
  exact ⟨v,u,ks,⟨h.box,h.row,h.kids,h.some_,h.two,fun x hx=>⟨(h.kid x hx).1,ih (h.kid x hx).2⟩,h.sub,h.apart,h.foot⟩,e⟩
theorem Zi.key {K:Nat->Prop} {w:World} {h:Nat}:∀ {b:Nat} {F:Nat->Prop} {xs:List EV},Zi K h w b F xs->∀ x ∈ xs,Z1e w K x:=by
 induction h with
 | zero=>intro b F xs ⟨v,h⟩;exact h.key
 | succ h ih =>
  intro b F xs ⟨v,u,ks,h,e⟩ x hx
  rw [e] at hx
  obtain ⟨y,hy,hxy⟩:=List.mem_flatMap.1 hx
  exact ih (h.kid y hy).2 x hxy
theorem Zi.lim {K:Nat->Prop} {w:World} {h:Nat}:∀ {b:Nat} {F:Nat->Prop} {xs:List EV},Zi K h w b F xs->Zi K h w b (fun k=>F k/\k < w.heap.size) xs:=by
 induction h with
 | zero =>
  intro b F xs ⟨v,h⟩
  exact ⟨v,h.box,h.row,h.key,⟨h.foot.1,Z2 h.box⟩,fun k e=>⟨h.foot.2 k e,(h.row.lt k e).2⟩⟩
 | succ h ih =>
  intro b F xs ⟨v,u,ks,h,e⟩
  refine ⟨v,u,ks.map (fun x=>⟨x.b,fun k=>x.F k/\k < w.heap.size,x.xs⟩),⟨h.box,?_,?_,h.some_,by simpa using h.two,fun x hx=>?_,fun x hx k hk=>?_,?_,⟨h.foot.1,Z2 h.box⟩,fun k e=>⟨h.foot.2.1 k e,(h.row.lt k e).2⟩,fun k e=>⟨h.foot.2.2 k e,(h.kids.lt k e).2⟩⟩,?_⟩
  ·rw [heads,List.map_map];exact h.row
  ·rw [kptrs,List.map_map,List.length_map];exact h.kids
  ·obtain ⟨y,hy,rfl⟩:=List.mem_map.1 hx
   exact ⟨(h.kid y hy).1,ih (h.kid y hy).2⟩
  ·obtain ⟨y,hy,rfl⟩:=List.mem_map.1 hx
   exact ⟨⟨(h.sub y hy k hk.1).1,hk.2⟩,(h.sub y hy k hk.1).2⟩
  ·rw [List.pairwise_map]
   exact h.apart.imp (fun hxy k hk hk'=>hxy k hk.1 hk'.1)
  ·rw [flat,List.flatMap_map];exact e
section
variable {P:Program}
theorem Z6A {fn:Func} {p:Tmp} {ty:TypeId} (h:fn.results=#[.cell p ty]) (tmps:Array Value) (w:World) (g:Nat) (t:TypeId) (cs:Array Value) (fr:Nat × Nat) (d:TypeDesc)
  (hp:tmps.getD p undef=.pointer (some ⟨g,0,none⟩)) (hg:w.heap[g]?=some (.cells cs t fr))
  (hu:P.underlying ty=some d) (hd:(match d with | .struct _ | .array _ _=>true | _=>false)=true) (hi:(P.info? ty).map (·.size)=some cs.size) :
  (results fn tmps).run P w=.ok (.agg cs) w:=by
 have hp':tmps[p]?.getD undef=.pointer (some ⟨g,0,none⟩):=by simpa using hp
 simp [results,h,hp',asAddr,run_loadVar_row w g t ty cs fr d hg hu hd hi]
end
theorem Zcr:(Tryz.prog.info? 103).map (·.size)=some 3:=by kernel_rfl
theorem Z41 (b:Nat) (v:Value) (A:Option Addr) (n c:Nat) (w:World) (h:w.heap[b]?=some (.cells #[v,.slice A n c] 161 (0,0))) :
  Calls Tryz.prog 105 #[ptrV b] w fun e w'=>e=.returned (.bool A.isNone)/\w=w':=by
 have heq:=fun (w:World) (a:Option Addr) (n c:Nat)=>Lib.run_eql_slice_nil (P:=Tryz.prog) w 159 _ a n c 0 0 Tryz.underlying159
 have c1:w.cell? ⟨b,1,none⟩=some (.slice A n c):=by rw [Z1 h];rfl
 clear h
 go_enter Tryz.func105,Tryz.ntmps105
 go_wp2
 go_ret
 exact ⟨rfl,rfl⟩
theorem Z5E.form {N:World->Nat->(Nat->Prop)->List EV->Prop} {w:World} {b:Nat} {F:Nat->Prop} {v u:Value} {ks:List Kid} (h:Z5E N w b F v u ks):∃ g c,u=.slice (some ⟨g,0,none⟩) ks.length c/\ks.length <= c/\c <= maxLen:=by
 obtain ⟨g,hg⟩:=h.some_
 rcases ZB h.kids with ⟨e,_⟩ | ⟨g',c,e,h1,h2⟩
 ·rw [e] at hg;cases hg
 ·exact ⟨g',c,e,h1,h2⟩
theorem Zi.row {K F:Nat->Prop} {h:Nat} {w:World} {b:Nat} {xs:List EV} (hn:Zi K h w b F xs) (hx:xs ≠ []):∃ v u ys,w.heap[b]?=some (.cells #[v,u] 161 (0,0))/\RowAt w v ys/\ys ≠ []/\hd ys=hd xs:=by
 cases h with
 | zero=>obtain ⟨v,h⟩:=hn;exact ⟨v,_,xs,h.box,h.row,hx,rfl⟩
 | succ h =>
  obtain ⟨v,u,ks,h,e⟩:=hn
  have h2:=h.two
  rcases ks with _ | ⟨x,ks⟩
  ·simp at h2
  ·refine ⟨v,u,_,h.box,h.row,by simp,?_⟩
   rw [e,flat,List.flatMap_cons,ZaQ (h.kid x (by simp)).1]
   rfl
theorem Zh1 {w w':World} {g n c:Nat} {xs:List EV} {j:Nat} {x:EV} (h:RowAt w (.slice (some ⟨g,0,none⟩) n c) xs) (hj:xs[j]?=some x) (hq:Quiet w w') :
  w'.cell? ⟨g,j * 3,none⟩=some (.slice x.A x.e.key.length x.c)/\w'.cell? ⟨g,j * 3+1,none⟩=some (.int .i64 x.e.pg)/\w'.cell? ⟨g,j * 3+2,none⟩=some (.int .i64 x.e.sl):=by
 obtain ⟨h1,h2,h3⟩:=Zcm hj
 have key:∀ k u,(Z01 xs)[k]?=some u->w'.cell? ⟨g,k,none⟩=some u:=fun k u hu=>by
  have:=h.cells rfl k u hu
  rw [Zl,Nat.zero_add] at this
  exact hq.cell this (fun x=>x)
 exact ⟨key _ _ h1,key _ _ h2,key _ _ h3⟩
theorem Z5J {K F:Nat->Prop} {h:Nat} {w:World} {b:Nat} {xs:List EV} (hn:Zi K h w b F xs) (hx:xs ≠ []) :
  Calls Tryz.prog 74 #[ptrV b] w fun e w'=>e=.returned (entV (hd xs).e (hd xs).A (hd xs).c)/\w'=w.alloc (.cells #[.slice (hd xs).A (hd xs).e.key.length (hd xs).c,.int .i64 (hd xs).e.pg,.int .i64 (hd xs).e.sl] 103):=by
 obtain ⟨v,u,ys,hbox,hrow,hys,he⟩:=hn.row hx
 rw [<- he]
 have hl:0 < ys.length:=List.length_pos_iff.2 hys
 obtain ⟨g,c,rfl,hc,hcm⟩:∃ g c,v=.slice (some ⟨g,0,none⟩) ys.length c/\ys.length <= c/\c <= maxLen:=by
  rcases ZB hrow with ⟨_,e⟩ | ⟨g,c,e,h1,h2⟩
  ·omega
  ·exact ⟨g,c,e,h1,h2⟩
 obtain ⟨c0,c1,c2⟩:=Zh1 hrow (ZgZ hys) (w':=w.alloc (.cells #[.slice none 0 0,.int .i64 0,.int .i64 0] 103)) ((Z0.refl (fun _=>False) w).alloc _)
 rw [Nat.zero_mul] at c0 c1 c2
 rw [Nat.zero_add] at c1 c2
 have d0:(0:Int) < (ys.length:Int):=by omega
 have hb1:=Zd hbox (.cells #[.slice none 0 0,.int .i64 0,.int .i64 0] 103)
 have b0:(w.alloc (.cells #[.slice none 0 0,.int .i64 0,.int .i64 0] 103)).cell? ⟨b,0,none⟩=some (.slice (some ⟨g,0,none⟩) ys.length c):=by rw [Z1 hb1];rfl
 generalize hd ys=y at *
 clear hn hx hbox hb1 hrow he hys
 go_enter Tryz.func74,Tryz.ntmps74
 go_wp2
 exact bodyPost_ret (Z6A Tryz.results74 _ _ w.heap.size _ _ (0,0) _ (by rfl) (Z4 w _) Tryz.underlying103 rfl Zcr) (by rfl) ⟨rfl,rfl⟩
theorem Z73 {K F:Nat->Prop} {h:Nat} {w:World} {b:Nat} {xs:List EV} (hn:Zi K h w b F xs) (hx:xs ≠ []) :
  Calls Tryz.prog 74 #[ptrV b] w fun e w'=>e=.returned (entV (hd xs).e (hd xs).A (hd xs).c)/\Quiet w w' :=
 (Z5J hn hx).mono fun _ _ ⟨he,hw⟩=>⟨he,by rw [hw];exact (Z0.refl _ _).alloc _⟩
def Z5V (t:Ent) (es:List Ent):Nat:=if t ∈ es then ZO t es else ZO t es - 1
structure ZhS (t:Ent) (es:List Ent) (i:Nat):Prop where
 lt:i < es.length
 left:i=0 ∨ ∀ y,es[i]?=some y->¬ cmpE t y < 0
 right:∀ j y,i < j->es[j]?=some y->cmpE t y < 0
theorem Zff {t:Ent} {es:List Ent} (hs:ZS es) (h0:es ≠ []):ZhS t es (Z5V t es):=by
 have hl:=List.length_pos_iff.2 h0
 have hp:=Z4R t es
 unfold Z5V
 by_cases hm:t ∈ es
 ·rw [if_pos hm]
  have ht:=(Z8r hs).1 hm
  have hlt:=(zi.1 ht).1
  refine ⟨hlt,Or.inr (fun y hy=>?_),fun j y hj hy=>hs.get hj ht hy⟩
  rw [ht] at hy
  injection hy with hy
  rw [<- hy,Z3y]
  omega
 ·rw [if_neg hm]
  refine ⟨by omega,?_,fun j y hj hy=>Z7X hs hm (j:=j) (by omega) hy⟩
  ·by_cases h1:ZO t es=0
   ·exact Or.inl (by omega)
   ·right
    intro y hy h
    have:=Z49 (e:=t) (l:=es) (j:=ZO t es - 1) (by omega) hy
    have:=Z23 h this
    rw [Z3y] at this
    omega
theorem Zh2 (b:Nat) (v u:Value) (ys:List EV) (t:EV) (K K':Nat->Prop) (w:World) (hbox:w.heap[b]?=some (.cells #[v,u] 161 (0,0))) (hrow:RowAt w v ys) (hk:∀ x ∈ ys,Z1e w K x) (ht:Z1e w K' t) (hs:ZS (ents ys)) (hl:ys.length <= 100000) :
  Calls Tryz.prog 109 #[ptrV b,entV t.e t.A t.c] w fun e w'=>e=.returned (.int .i64 (Z5V t.e (ents ys):Int))/\Quiet w w':=by
 obtain ⟨A,c,rfl,hc,hcm,hrd⟩:=Za hrow
 have hq0:Quiet w (w.alloc (.cells #[.slice t.A t.e.key.length t.c,.int .i64 t.e.pg,.int .i64 t.e.sl] 103)):=(Z0.refl _ _).alloc _
 have HQ0:=zh hq0
 have b0:(w.alloc (.cells #[.slice t.A t.e.key.length t.c,.int .i64 t.e.pg,.int .i64 t.e.sl] 103)).cell? ⟨b,0,none⟩=some (.slice A ys.length c):=by rw [Z1 (hq0.get hbox (fun x=>x))];rfl
 obtain ⟨t0,t1,t2⟩:=Z1N (Z4 w (.cells #[.slice t.A t.e.key.length t.c,.int .i64 t.e.pg,.int .i64 t.e.sl] 103))
 have HSR:=zh (Z9m ys t A c _ K K' _ (hrd.kept hq0.drew (fun _ _ x=>x)) (fun x hx=>(hk x hx).quietly hq0.drew) (ht.quietly hq0.drew) hs hl)
 have hpl:ZO t.e (ents ys) <= ys.length:=by have:=Z4R t.e (ents ys);simpa using this
 have HR:Hid (Z5V t.e (ents ys)=if t.e ∈ ents ys then ZO t.e (ents ys) else ZO t.e (ents ys) - 1):=rfl
 generalize ZO t.e (ents ys)=p at *
 generalize Z5V t.e (ents ys)=r at *
 by_cases hm:t.e ∈ ents ys
 ·rw [if_pos hm] at HR
  have HSR':=HSR.out
  rw [decide_eq_true hm] at HSR'
  have HS:=zh HSR'
  clear hbox hrow hrd hk ht hs hq0 HSR HSR' hm
  go_enter Tryz.func109,Tryz.ntmps109
  go_wp2_with fail
  go_region_held3 (fun w'=>w'.cell? ⟨b,0,none⟩=some (.slice A ys.length c)/\w'.cell? ⟨w.heap.size,0,none⟩=some (.slice t.A t.e.key.length t.c)/\w'.cell? ⟨w.heap.size,1,none⟩=some (.int .i64 t.e.pg)/\w'.cell? ⟨w.heap.size,2,none⟩=some (.int .i64 t.e.sl))
   (first | go_keep | fail)
   (first
     | (go_at_call 106;go_must (refine HS.out.mono ?_;rintro e w2 ⟨rfl,hq2⟩;have k0:=hq2.cell b0 (fun x=>x);have k1:=hq2.cell t0 (fun x=>x);have k2:=hq2.cell t1 (fun x=>x);have k3:=hq2.cell t2 (fun x=>x)))
     | fail)
  have HQ2:=zh (HQ0.out.drew.trans hq2)
  clear hq2 k0 k1 k2 k3 b0 t0 t1 t2 HS HQ0
  go_wp2
  go_ret
  rw [HR.out]
  exact ⟨rfl,HQ2.out⟩
 ·rw [if_neg hm] at HR
  have HSR':=HSR.out
  rw [decide_eq_false hm] at HSR'
  have HS:=zh HSR'
  clear hbox hrow hrd hk ht hs hq0 HSR HSR' hm
  go_enter Tryz.func109,Tryz.ntmps109
  go_wp2_with fail
  go_region_held3 (fun w'=>w'.cell? ⟨b,0,none⟩=some (.slice A ys.length c)/\w'.cell? ⟨w.heap.size,0,none⟩=some (.slice t.A t.e.key.length t.c)/\w'.cell? ⟨w.heap.size,1,none⟩=some (.int .i64 t.e.pg)/\w'.cell? ⟨w.heap.size,2,none⟩=some (.int .i64 t.e.sl))
   (first | go_keep | fail)
   (first
     | (go_at_call 106;go_must (refine HS.out.mono ?_;rintro e w2 ⟨rfl,hq2⟩;have k0:=hq2.cell b0 (fun x=>x);have k1:=hq2.cell t0 (fun x=>x);have k2:=hq2.cell t1 (fun x=>x);have k3:=hq2.cell t2 (fun x=>x)))
     | fail)
  have HQ2:=zh (HQ0.out.drew.trans hq2)
  clear hq2 k0 k1 k2 k3 b0 t0 t1 t2 HS HQ0
  go_wp2
  go_ret
  rw [HR.out,show ((p - 1:Nat):Int)=max ((p:Int) - 1) 0 by omega]
  exact ⟨rfl,HQ2.out⟩
def Zcs (w:World) (e0:Ent) (e:Ending) (w':World):Prop :=
 ∃ A c,e=.returned (entV e0 A c)/\Quiet w w'/\Rd w' (fun k=>w.heap.size <= k/\k < w'.heap.size) 1 A e0.key.length (Z9 e0.key)
theorem Zed (w:World):Calls Tryz.prog 28 #[] w fun e w'=>e=.returned (ptrV (w.heap.size+1))/\Quiet w w'/\w'.heap[w.heap.size]?=some (.cells #[.slice none 0 0,.slice none 0 0] 161 (0,0))/\w'.heap[w.heap.size+1]?=some (.cells #[ptrV w.heap.size,.int .i64 0] 163 (0,0)):=by
 go_enter Tryz.func28,Tryz.ntmps28
 go_wp2
 go_ret
 exact ⟨rfl,((Z0.refl _ _).alloc _).alloc _,Zd (Z4 _ _) _,Z0y _ _ _⟩
structure Z9K (K:Nat->Prop) (h:Nat) (w w':World) (b:Nat) (F:Nat->Prop) (xs:List EV) (r:Nat) (F1 F2:Nat->Prop) (x1 x2:List EV):Prop where
 all:xs=x1 ++ x2
 ne1:x1 ≠ []
 ne2:x2 ≠ []
 n1:Zi K h w' b F1 x1
 n2:Zi K h w' r F2 x2
 apart:∀ k,F1 k->¬ F2 k
 sub1:∀ k,F1 k->F k ∨ w.heap.size <= k
 sub2:∀ k,F2 k->F k ∨ w.heap.size <= k
 only:Z0 F w w'
def Z74 (K:Nat->Prop) (h:Nat) (w:World) (b:Nat) (F:Nat->Prop) (xs:List EV) (e:Ending) (w':World):Prop :=
 (e=.returned (.pointer none)/\w=w') ∨ ∃ r F1 F2 x1 x2,e=.returned (ptrV r)/\Z9K K h w w' b F xs r F1 F2 x1 x2
theorem Z9o (b:Nat) (v u:Value) (ys:List EV) (w:World) (hbox:w.heap[b]?=some (.cells #[v,u] 161 (0,0))) (hrow:RowAt w v ys) (hl:ys.length <= 8) :
  Calls Tryz.prog 73 #[ptrV b] w fun e w'=>e=.returned (.pointer none)/\w=w':=by
 obtain ⟨A,c,rfl,hc,hcm,_⟩:=Za hrow
 have b0:w.cell? ⟨b,0,none⟩=some (.slice A ys.length c):=by rw [Z1 hbox];rfl
 have d:decide ((ys.length:Int) <= 8)=true:=decide_eq_true (by omega)
 clear hbox hrow
 go_enter Tryz.func73,Tryz.ntmps73
 go_wp2
 go_ret
 exact ⟨rfl,rfl⟩
theorem Zh3 {w:World} {v:Value} {g n c:Nat} {ys:List EV} (h:RowAt w v ys) (e:v=.slice (some ⟨g,0,none⟩) n c):Rd w (·=g) 3 (some ⟨g,0,none⟩) ys.length (Z01 ys):=by
 subst e
 refine ⟨by rw [Z5I],fun _=>⟨g,0,rfl,rfl,fun j u hu=>?_⟩⟩
 have:=h.cells rfl j u hu
 rw [Zl] at this
 exact this
structure Z9L (w w3:World) (b r:Nat) (v1 v2 u:Value) (ys:List EV) (k:Nat):Prop where
 only:Z0 (·=b) w (w3.setCell ⟨b,0,none⟩ v1)
 box:(w3.setCell ⟨b,0,none⟩ v1).heap[b]?=some (.cells #[v1,u] 161 (0,0))
 new:(w3.setCell ⟨b,0,none⟩ v1).heap[r]?=some (.cells #[v2,.slice none 0 0] 161 (0,0))
 row1:RowAt (w3.setCell ⟨b,0,none⟩ v1) v1 (ys.take k)
 row2:RowAt (w3.setCell ⟨b,0,none⟩ v1) v2 (ys.drop k)
 fresh:w.heap.size <= r/\(∀ j,v1.ownBlock=some j->w.heap.size <= j/\j ≠ r/\v2.ownBlock ≠ some j)/\(∀ j,v2.ownBlock=some j->w.heap.size <= j/\j ≠ r)
theorem ZaR {w w1 w3:World} {b k:Nat} {v v1 v2 u:Value} {ys:List EV} (hbox:w.heap[b]?=some (.cells #[v,u] 161 (0,0))) (hk:k <= ys.length)
  (h1:Z2n w w1 103 3 v2 (ys.length - k) (Z01 (ys.drop k))) (h3:Z2n (w1.alloc (.cells #[v2,.slice none 0 0] 161)) w3 103 3 v1 k (Z01 (ys.take k))):Z9L w w3 b w1.heap.size v1 v2 u ys k:=by
 have hb:=Z2 hbox
 have hz1:=h1.quiet.size
 have hz3:=h3.quiet.size
 rw [World.size_alloc] at hz3
 obtain ⟨j1,e1,l1⟩:=h3.loc
 obtain ⟨j2,e2,l2⟩:=h1.loc
 rw [World.size_alloc] at l1
 have hj2:=(h1.own.lt j2 e2).2
 have hq:Quiet w w3:=(h1.quiet.alloc _).trans h3.quiet
 have hset:Z0 (·=b) w3 (w3.setCell ⟨b,0,none⟩ v1):=(Z0.refl (·=b) w3).setCell (p:=⟨b,0,none⟩) (fun _=>rfl) _
 refine ⟨(hq.mono (T:=(·=b)) (fun _ _ x=>x.elim)).trans hset,?_,?_,?_,?_,hz1,fun j e=>?_,fun j e=>?_⟩
 ·rw [Zg (hq.get hbox (fun x=>x)) 0 v1];rfl
 ·exact hset.get (h3.quiet.get (Z4 w1 _) (fun x=>x)) (by show ¬ w1.heap.size=b;omega)
 ·have hl:(ys.take k).length=k:=by rw [List.length_take];omega
  unfold RowAt
  rw [hl]
  exact Z5 h3.own hset (fun j e x=>by rw [e1] at e;injection e with e;omega)
 ·have hl:(ys.drop k).length=ys.length - k:=List.length_drop
  unfold RowAt
  rw [hl]
  exact Z5 (Z5 (Z5 h1.own ((Z0.refl (fun _=>False) w1).alloc _) (fun _ _ x=>x)) h3.quiet (fun _ _ x=>x)) hset (fun j e x=>by rw [e2] at e;injection e with e;omega)
 ·rw [e1] at e
  injection e with e
  exact ⟨by omega,by omega,fun x=>by rw [e2] at x;injection x with x;omega⟩
 ·rw [e2] at e
  injection e with e
  exact ⟨by omega,by omega⟩
theorem Z9L.leaf {K F:Nat->Prop} {w w3:World} {b r k:Nat} {v v1 v2:Value} {xs:List EV} (h:Z9L w w3 b r v1 v2 (.slice none 0 0) xs k) (hl:Z7s K w b F xs v) (hK:∀ j,K j->¬ F j) (hk0:0 < k) (hk:k < xs.length) :
  Z9K K 0 w (w3.setCell ⟨b,0,none⟩ v1) b F xs r (fun j=>j=b ∨ v1.ownBlock=some j) (fun j=>j=r ∨ v2.ownBlock=some j) (xs.take k) (xs.drop k):=by
 have hb:=Z2 hl.box
 have hkey:∀ x ∈ xs,Z1e (w3.setCell ⟨b,0,none⟩ v1) K x:=fun x hx=>(hl.key x hx).kept h.only (fun j hj e=>hK j hj (by rw [e];exact hl.foot.1))
 refine ⟨(List.take_append_drop k xs).symm,fun e=>?_,fun e=>?_,⟨v1,h.box,h.row1,fun x hx=>hkey x (List.mem_of_mem_take hx),Or.inl rfl,fun j e=>Or.inr e⟩,⟨v2,h.new,h.row2,fun x hx=>hkey x (List.mem_of_mem_drop hx),Or.inl rfl,fun j e=>Or.inr e⟩,fun j x y=>?_,fun j x=>?_,fun j x=>?_,h.only.mono (fun j _ e=>by rw [e];exact hl.foot.1)⟩
 ·have:=congrArg List.length e;rw [List.length_take,List.length_nil] at this;omega
 ·have:=congrArg List.length e;rw [List.length_drop,List.length_nil] at this;omega
 ·have hf:=h.fresh
  rcases x with x | x <;> rcases y with y | y
  ·omega
  ·have:=(hf.2.2 j y).1;omega
  ·exact (hf.2.1 j x).2.1 y
  ·exact (hf.2.1 j x).2.2 y
 ·rcases x with x | x
  ·exact Or.inl (by rw [x];exact hl.foot.1)
  ·exact Or.inr (h.fresh.2.1 j x).1
 ·rcases x with x | x
  ·exact Or.inr (by rw [x];exact h.fresh.1)
  ·exact Or.inr (h.fresh.2.2 j x).1
theorem Zfg {K F:Nat->Prop} {w:World} {b:Nat} {xs:List EV} {v:Value} (hl:Z7s K w b F xs v) (hK:∀ j,K j->¬ F j) (hn:xs.length <= 100000) :
  Calls Tryz.prog 73 #[ptrV b] w (Z74 K 0 w b F xs):=by
 by_cases h8:xs.length <= 8
 ·exact (Z9o b v _ xs w hl.box hl.row h8).mono (fun e w' h=>Or.inl h)
 ·obtain ⟨g,c,hv,hc,hcm⟩:∃ g c,v=.slice (some ⟨g,0,none⟩) xs.length c/\xs.length <= c/\c <= maxLen:=by
   rcases ZB hl.row with ⟨_,e⟩ | ⟨g,c,e,h1,h2⟩
   ·omega
   ·exact ⟨g,c,e,h1,h2⟩
  obtain ⟨k,hk⟩:∃ k,xs.length / 2=k:=⟨_,rfl⟩
  have hrd:=Zh3 hl.row hv
  have b0:w.cell? ⟨b,0,none⟩=some (.slice (some ⟨g,0,none⟩) xs.length c):=by rw [Z1 hl.box,<- hv];rfl
  have HL:=zh hl
  have HV:=zh hv
  have HK:=zh hK
  have HRD:=zh hrd
  have HD1:=zh (hrd.drop (k:=k) (by omega))
  have hb:=Z2 hl.box
  have hkk:4 <= k/\k < xs.length:=by omega
  have q0:(0:Int) <= (xs.length:Int) / 2:=by omega
  have q1:(xs.length:Int) / 2 <= (xs.length:Int):=by omega
  have q2:((xs.length:Int) / 2).toNat=k:=by omega
  have q3:¬ c=k:=by omega
  have d8:decide ((xs.length:Int) <= 8)=false:=decide_eq_false (by omega)
  have hcm':c <= 9223372036854775807:=by unfold maxLen at hcm;omega
  have HC1:=zh (Z4r ⟨g,0+k * 3,none⟩ (xs.length - k) (c - k) _ (·=g) w HD1.out (fun u hu=>Z20 xs u (List.mem_of_mem_drop hu)) (by omega))
  rw [Nat.zero_add] at HC1
  clear hrd hK hl hk hcm hv
  go_enter Tryz.func73,Tryz.ntmps73
  have HBX:Hid (w.heap[b]?=some (.cells #[.slice (some ⟨g,0,none⟩) xs.length c,.slice none 0 0] 161 (0,0))):=by rw [<- HV.out];exact HL.out.box
  go_wp2_with fail
  refine HC1.out.mono ?_
  rintro e w1 ⟨v2,rfl,h1⟩
  rw [<- Z4q] at h1
  obtain ⟨A2,c2,hv2,_,_,_⟩:=Za h1.own
  subst hv2
  have HN1:=zh h1
  have hq2:Quiet w (w1.alloc (.cells #[.slice A2 (xs.length - k) c2,.slice none 0 0] 161)):=h1.quiet.alloc _
  have hb2:=hq2.get HBX.out (fun x=>x)
  have HB2:=zh hb2
  have HC2:=zh (Z4r ⟨g,0,none⟩ k c _ (·=g) _ ((HRD.out.takeK (k:=k) (by omega)).kept hq2 (fun _ _ x=>x)) (fun u hu=>Z20 xs u (List.mem_of_mem_take hu)) (by omega))
  have b0':(w1.alloc (.cells #[.slice A2 (xs.length - k) c2,.slice none 0 0] 161)).cell? ⟨b,0,none⟩=some (.slice (some ⟨g,0,none⟩) xs.length c):=hq2.cell b0 (fun x=>x)
  clear h1 HC1 HD1 b0 hb2 hq2
  go_wp2_with fail
  refine HC2.out.mono ?_
  rintro e w3 ⟨v1,rfl,h3⟩
  rw [<- Z4p] at h3
  obtain ⟨A1,c1,hv1,_,_,_⟩:=Za h3.own
  subst hv1
  have hb3:=h3.quiet.get HB2.out (fun x=>x)
  have HCW:=zh (ZaR HBX.out (by omega) HN1.out h3)
  have b3:w3.cell? ⟨b,0,none⟩=some (.slice (some ⟨g,0,none⟩) xs.length c):=h3.quiet.cell b0' (fun x=>x)
  have f3:=fun o=>Z7 hb3 o
  clear h3 HC2 b0' hb3 HN1 HRD HB2
  have HLF:=zh (Z41 b _ _ _ _ _ HCW.out.box)
  go_wp2_with fail
  refine HLF.out.mono ?_
  rintro e w4 ⟨rfl,rfl⟩
  have HR:=zh (HCW.out.leaf HL.out HK.out (by omega) (by omega))
  clear HLF HCW b3 f3
  go_wp2
  go_ret
  exact Or.inr ⟨_,_,_,_,_,rfl,HR.out⟩
structure Zda (w w8:World) (b r:Nat) (v1 v2 u1 u2:Value) (ys:List EV) (ps:List Value) (k:Nat):Prop where
 only:Z0 (·=b) w w8
 box1:w8.heap[b]?=some (.cells #[v1,u1] 161 (0,0))
 box2:w8.heap[r]?=some (.cells #[v2,u2] 161 (0,0))
 row1:RowAt w8 v1 (ys.take k)
 row2:RowAt w8 v2 (ys.drop k)
 kid1:w8.ownsRow 0 157 1 u1 k (ps.take k)
 kid2:w8.ownsRow 0 157 1 u2 (ps.length - k) (ps.drop k)
 some1:∃ g,u1.ownBlock=some g
 some2:∃ g,u2.ownBlock=some g
 fresh:w.heap.size <= r/\(∀ j,v1.ownBlock=some j->w.heap.size <= j/\j ≠ r/\v2.ownBlock ≠ some j/\u2.ownBlock ≠ some j)/\(∀ j,v2.ownBlock=some j->w.heap.size <= j/\j ≠ r)/\(∀ j,u1.ownBlock=some j->w.heap.size <= j/\j ≠ r/\v2.ownBlock ≠ some j/\u2.ownBlock ≠ some j)/\(∀ j,u2.ownBlock=some j->w.heap.size <= j/\j ≠ r)
theorem Zh4 {w w3 w5 w7:World} {b r k:Nat} {v1 v2 u u1 u2:Value} {ys:List EV} {ps:List Value} (hb:b < w.heap.size) (h:Z9L w w3 b r v1 v2 u ys k)
  (h5:Z2n (w3.setCell ⟨b,0,none⟩ v1) w5 157 1 u2 (ps.length - k) (ps.drop k)) (h7:Z2n (w5.setCell ⟨r,1,none⟩ u2) w7 157 1 u1 k (ps.take k)) :
  Zda w (w7.setCell ⟨b,1,none⟩ u1) b r v1 v2 u1 u2 ys ps k:=by
 obtain ⟨hr,hf1,hf2⟩:=h.fresh
 have hz4:=h.only.size
 have hz5:=h5.quiet.size
 have hz7:=h7.quiet.size
 have hs6:Z0 (·=r) w5 (w5.setCell ⟨r,1,none⟩ u2):=(Z0.refl (·=r) w5).setCell (p:=⟨r,1,none⟩) (fun _=>rfl) _
 have hz6:=hs6.size
 have hs8:Z0 (·=b) w7 (w7.setCell ⟨b,1,none⟩ u1):=(Z0.refl (·=b) w7).setCell (p:=⟨b,1,none⟩) (fun _=>rfl) _
 obtain ⟨j1,e1,l1⟩:=h7.loc
 obtain ⟨j2,e2,l2⟩:=h5.loc
 have hj2:=(h5.own.lt j2 e2).2
 have hrl:=Z2 h.new
 have hr5:=h5.quiet.get h.new (fun x=>x)
 have hb5:=h5.quiet.get h.box (fun x=>x)
 have hr6:=Zg hr5 1 u2
 have hb6:=hs6.get hb5 (show ¬ b=r by omega)
 have hr7:=h7.quiet.get hr6 (fun x=>x)
 have hb7:=h7.quiet.get hb6 (fun x=>x)
 have v1l:∀ j,v1.ownBlock=some j->j < (w3.setCell ⟨b,0,none⟩ v1).heap.size:=fun j e=>(h.row1.lt j e).2
 have v2l:∀ j,v2.ownBlock=some j->j < (w3.setCell ⟨b,0,none⟩ v1).heap.size:=fun j e=>(h.row2.lt j e).2
 have keep:∀ {e:TypeId} {sz n:Nat} {v:Value} {xs:List Value},(w3.setCell ⟨b,0,none⟩ v1).ownsRow 0 e sz v n xs->(∀ j,v.ownBlock=some j->j ≠ r/\j ≠ b)->(w7.setCell ⟨b,1,none⟩ u1).ownsRow 0 e sz v n xs:=fun ho hn =>
  Z5 (Z5 (Z5 (Z5 ho h5.quiet (fun _ _ x=>x)) hs6 (fun j e=>(hn j e).1)) h7.quiet (fun _ _ x=>x)) hs8 (fun j e=>(hn j e).2)
 refine ⟨?_,?_,?_,keep h.row1 (fun j e=>⟨(hf1 j e).2.1,by have:=(hf1 j e).1;omega⟩),keep h.row2 (fun j e=>⟨(hf2 j e).2,by have:=(hf2 j e).1;omega⟩),?_,?_,⟨j1,e1⟩,⟨j2,e2⟩,hr,fun j e=>⟨(hf1 j e).1,(hf1 j e).2.1,(hf1 j e).2.2,fun x=>?_⟩,hf2,fun j e=>?_,fun j e=>?_⟩
 ·exact (((h.only.trans' h5.quiet (fun _ _ x=>x.elim)).trans' hs6 (fun k hk e=>by omega)).trans' h7.quiet (fun _ _ x=>x.elim)).trans hs8
 ·rw [Zg hb7 1 u1];rfl
 ·have:=hs8.get hr7 (show ¬ r=b by omega)
  rw [this];rfl
 ·exact Z5 h7.own hs8 (fun j e x=>by rw [e1] at e;injection e with e;omega)
 ·exact Z5 (Z5 (Z5 h5.own hs6 (fun j e x=>by rw [e2] at e;injection e with e;omega)) h7.quiet (fun _ _ x=>x)) hs8 (fun j e x=>by rw [e2] at e;injection e with e;omega)
 ·rw [e2] at x
  injection x with x
  have:=v1l j e
  omega
 ·rw [e1] at e
  injection e with e
  refine ⟨by omega,by omega,fun x=>?_,fun x=>?_⟩
  ·have:=v2l j x;omega
  ·rw [e2] at x;injection x with x;omega
 ·rw [e2] at e
  injection e with e
  exact ⟨by omega,by omega⟩
theorem Zda.inner {K F:Nat->Prop} {h:Nat} {w w8:World} {b r k:Nat} {v u v1 v2 u1 u2:Value} {ks:List Kid} (hc:Zda w w8 b r v1 v2 u1 u2 (heads ks) (kptrs ks) k) (hi:Z5E (Zi K h) w b F v u ks) (hK:∀ j,K j->¬ F j) (hlim:∀ x ∈ ks,∀ j,x.F j->j < w.heap.size) (hk0:2 <= k) (hk:k+2 <= ks.length) :
  Z9K K (h+1) w w8 b F (flat ks) r (fun j=>j=b ∨ v1.ownBlock=some j ∨ u1.ownBlock=some j ∨ ∃ x ∈ ks.take k,x.F j) (fun j=>j=r ∨ v2.ownBlock=some j ∨ u2.ownBlock=some j ∨ ∃ x ∈ ks.drop k,x.F j) (flat (ks.take k)) (flat (ks.drop k)):=by
 obtain ⟨hr,hf1,hf2,hf3,hf4⟩:=hc.fresh
 have hb:=Z2 hi.box
 have hkid:∀ x ∈ ks,x.xs ≠ []/\Zi K h w8 x.b x.F x.xs:=fun x hx=>⟨(hi.kid x hx).1,Zi.kept hc.only (fun j hj e=>hK j hj (by rw [e];exact hi.foot.1)) (hi.kid x hx).2 (fun j hj e=>(hi.sub x hx j hj).2.1 e)⟩
 have hkl:(kptrs ks).length=ks.length:=by simp
 have hne:∀ l:List Kid,(∀ x ∈ l,x ∈ ks)->l ≠ []->flat l ≠ []:=fun l hl h0 e=>by
  rcases l with _ | ⟨x,l⟩
  ·exact h0 rfl
  ·rw [flat,List.flatMap_cons] at e
   exact (hi.kid x (hl x (by simp))).1 (List.append_eq_nil_iff.1 e).1
 have hcross:∀ x ∈ ks.take k,∀ y ∈ ks.drop k,∀ j,x.F j->¬ y.F j:=by
  have:=hi.apart
  rw [<- List.take_append_drop k ks,List.pairwise_append] at this
  exact this.2.2
 refine ⟨?_,hne _ (fun x hx=>List.mem_of_mem_take hx) (fun e=>?_),hne _ (fun x hx=>List.mem_of_mem_drop hx) (fun e=>?_),⟨v1,u1,ks.take k,⟨hc.box1,?_,?_,hc.some1,?_,fun x hx=>hkid x (List.mem_of_mem_take hx),fun x hx j hj=>?_,hi.apart.sublist (List.take_sublist _ _),Or.inl rfl,fun j e=>Or.inr (Or.inl e),fun j e=>Or.inr (Or.inr (Or.inl e))⟩,rfl⟩,⟨v2,u2,ks.drop k,⟨hc.box2,?_,?_,hc.some2,?_,fun x hx=>hkid x (List.mem_of_mem_drop hx),fun x hx j hj=>?_,hi.apart.sublist (List.drop_sublist _ _),Or.inl rfl,fun j e=>Or.inr (Or.inl e),fun j e=>Or.inr (Or.inr (Or.inl e))⟩,rfl⟩,fun j x y=>?_,fun j x=>?_,fun j x=>?_,hc.only.mono (fun j _ e=>by rw [e];exact hi.foot.1)⟩
 ·rw [<- List.flatMap_append,List.take_append_drop]
 ·have:=congrArg List.length e;rw [List.length_take,List.length_nil] at this;omega
 ·have:=congrArg List.length e;rw [List.length_drop,List.length_nil] at this;omega
 ·rw [heads,List.map_take];exact hc.row1
 ·rw [kptrs,List.map_take,List.length_take,Nat.min_eq_left (by omega)];exact hc.kid1
 ·rw [List.length_take];omega
 ·have hx':=List.mem_of_mem_take hx
  have hl:=hlim x hx' j hj
  exact ⟨Or.inr (Or.inr (Or.inr ⟨x,hx,hj⟩)),(hi.sub x hx' j hj).2.1,fun e=>by have:=(hf1 j e).1;omega,fun e=>by have:=(hf3 j e).1;omega⟩
 ·rw [heads,List.map_drop];exact hc.row2
 ·rw [kptrs,List.map_drop,List.length_drop];have:=hc.kid2;rw [hkl] at this;exact this
 ·rw [List.length_drop];omega
 ·have hx':=List.mem_of_mem_drop hx
  have hl:=hlim x hx' j hj
  exact ⟨Or.inr (Or.inr (Or.inr ⟨x,hx,hj⟩)),by omega,fun e=>by have:=(hf2 j e).1;omega,fun e=>by have:=(hf4 j e).1;omega⟩
 ·rcases x with x | x | x | ⟨x,hx,hxj⟩
  ·rcases y with y | y | y | ⟨y,hy,hyj⟩
   ·omega
   ·have:=(hf2 j y).1;omega
   ·have:=(hf4 j y).1;omega
   ·exact (hi.sub y (List.mem_of_mem_drop hy) j hyj).2.1 x
  ·rcases y with y | y | y | ⟨y,hy,hyj⟩
   ·exact (hf1 j x).2.1 y
   ·exact (hf1 j x).2.2.1 y
   ·exact (hf1 j x).2.2.2 y
   ·have:=hlim y (List.mem_of_mem_drop hy) j hyj;have:=(hf1 j x).1;omega
  ·rcases y with y | y | y | ⟨y,hy,hyj⟩
   ·exact (hf3 j x).2.1 y
   ·exact (hf3 j x).2.2.1 y
   ·exact (hf3 j x).2.2.2 y
   ·have:=hlim y (List.mem_of_mem_drop hy) j hyj;have:=(hf3 j x).1;omega
  ·have hl:=hlim x (List.mem_of_mem_take hx) j hxj
   rcases y with y | y | y | ⟨y,hy,hyj⟩
   ·omega
   ·have:=(hf2 j y).1;omega
   ·have:=(hf4 j y).1;omega
   ·exact hcross x hx y hy j hxj hyj
 ·rcases x with x | x | x | ⟨x,hx,hxj⟩
  ·exact Or.inl (by rw [x];exact hi.foot.1)
  ·exact Or.inr (hf1 j x).1
  ·exact Or.inr (hf3 j x).1
  ·exact Or.inl (hi.sub x (List.mem_of_mem_take hx) j hxj).1
 ·rcases x with x | x | x | ⟨x,hx,hxj⟩
  ·exact Or.inr (by rw [x];exact hr)
  ·exact Or.inr (hf2 j x).1
  ·exact Or.inr (hf4 j x).1
  ·exact Or.inl (hi.sub x (List.mem_of_mem_drop hx) j hxj).1
theorem Zky {w:World} {u:Value} {g n c m:Nat} {ps:List Value} (h:w.ownsRow 0 157 1 u m ps) (e:u=.slice (some ⟨g,0,none⟩) n c):Rd w (·=g) 1 (some ⟨g,0,none⟩) m ps:=by
 subst e
 refine ⟨h.1,fun _=>⟨g,0,rfl,rfl,fun j u hu=>?_⟩⟩
 have:=h.cells rfl j u hu
 rw [Zl] at this
 exact this
theorem Zdv {K F:Nat->Prop} {h:Nat} {w:World} {b:Nat} {v u:Value} {ks:List Kid} (hi:Z5E (Zi K h) w b F v u ks) (hK:∀ j,K j->¬ F j) (hlim:∀ x ∈ ks,∀ j,x.F j->j < w.heap.size) (hn:ks.length <= 100000) :
  Calls Tryz.prog 73 #[ptrV b] w (Z74 K (h+1) w b F (flat ks)):=by
 have hhl:(heads ks).length=ks.length:=by simp
 by_cases h8:ks.length <= 8
 ·exact (Z9o b v u (heads ks) w hi.box hi.row (by omega)).mono (fun e w' h=>Or.inl h)
 ·obtain ⟨g,c,hv,hc,hcm⟩:∃ g c,v=.slice (some ⟨g,0,none⟩) ks.length c/\ks.length <= c/\c <= maxLen:=by
   rcases ZB hi.row with ⟨_,e⟩ | ⟨g,c,e,h1,h2⟩
   ·omega
   ·rw [hhl] at e h1
    exact ⟨g,c,e,h1,h2⟩
  obtain ⟨gu,cu,hu,hcu,hcum⟩:=hi.form
  obtain ⟨k,hk⟩:∃ k,ks.length / 2=k:=⟨_,rfl⟩
  obtain ⟨n,hnn⟩:∃ n,ks.length=n:=⟨_,rfl⟩
  have hrd:=Zh3 hi.row hv
  rw [hhl,hnn] at hrd
  have hru:=Zky hi.kids hu
  rw [hnn] at hru hv hu hc hcu hk h8 hn
  have HHL:=zh (hhl.trans hnn)
  have HPL:Hid ((kptrs ks).length=n):=by show _=_;simp [hnn]
  have b0:w.cell? ⟨b,0,none⟩=some (.slice (some ⟨g,0,none⟩) n c):=by rw [Z1 hi.box,<- hv];rfl
  have HI:=zh hi
  have HV:=zh hv
  have HK:=zh hK
  have HLIM:=zh hlim
  have HRD:=zh hrd
  have HRU:=zh hru
  have HD1:=zh (hrd.drop (k:=k) (by omega))
  have hb:=Z2 hi.box
  have hkk:4 <= k/\k+4 <= n:=by omega
  have q0:(0:Int) <= (n:Int) / 2:=by omega
  have q1:(n:Int) / 2 <= (n:Int):=by omega
  have q2:((n:Int) / 2).toNat=k:=by omega
  have q3:¬ c=k:=by omega
  have q4:¬ cu=k:=by omega
  have d8:decide ((n:Int) <= 8)=false:=decide_eq_false (by omega)
  have hcm':c <= 9223372036854775807:=by unfold maxLen at hcm;omega
  have hcum':cu <= 9223372036854775807:=by unfold maxLen at hcum;omega
  have HC1:=zh (Z4r ⟨g,0+k * 3,none⟩ (n - k) (c - k) _ (·=g) w HD1.out (fun u hu=>Z20 (heads ks) u (List.mem_of_mem_drop hu)) (by omega))
  rw [Nat.zero_add] at HC1
  have HBX:Hid (w.heap[b]?=some (.cells #[.slice (some ⟨g,0,none⟩) n c,.slice (some ⟨gu,0,none⟩) n cu] 161 (0,0))):=by rw [<- HV.out,<- hu];exact hi.box
  have HNN:=zh hnn
  have HUG:Hid (∀ j,u.ownBlock=some j->j=gu):=fun j e=>by rw [hu] at e;injection e with e;exact e.symm
  have hgub:gu ≠ b:=fun e=>by
   obtain ⟨cc,hcc⟩:=Zh hi.kids (k:=gu) (by rw [hu];rfl)
   exact Zb hcc hi.box (by decide) e
  have hgul:gu < w.heap.size:=(hi.kids.lt gu (by rw [hu];rfl)).2
  clear hrd hru hK hlim hi hk hcm hcum hv hu hnn hhl
  go_enter Tryz.func73,Tryz.ntmps73
  go_wp2_with fail
  refine HC1.out.mono ?_
  rintro e w1 ⟨v2,rfl,h1⟩
  rw [<- Z4q] at h1
  obtain ⟨A2,c2,hv2,_,_,_⟩:=Za h1.own
  subst hv2
  have HN1:=zh h1
  have hq2:Quiet w (w1.alloc (.cells #[.slice A2 (n - k) c2,.slice none 0 0] 161)):=h1.quiet.alloc _
  have hb2:=hq2.get HBX.out (fun x=>x)
  have HB2:=zh hb2
  have HC2:=zh (Z4r ⟨g,0,none⟩ k c _ (·=g) _ ((HRD.out.takeK (k:=k) (by omega)).kept hq2 (fun _ _ x=>x)) (fun u hu=>Z20 (heads ks) u (List.mem_of_mem_take hu)) (by omega))
  have b0':(w1.alloc (.cells #[.slice A2 (n - k) c2,.slice none 0 0] 161)).cell? ⟨b,0,none⟩=some (.slice (some ⟨g,0,none⟩) n c):=hq2.cell b0 (fun x=>x)
  clear h1 HC1 HD1 b0 hb2 hq2
  go_wp2_with fail
  refine HC2.out.mono ?_
  rintro e w3 ⟨v1,rfl,h3⟩
  rw [<- Z4p] at h3
  obtain ⟨A1,c1,hv1,_,_,_⟩:=Za h3.own
  subst hv1
  have hb3:=h3.quiet.get HB2.out (fun x=>x)
  have HCW:=zh (ZaR (ys:=heads ks) HBX.out (by rw [HHL.out];omega) (by rw [HHL.out];exact HN1.out) h3)
  have b3:w3.cell? ⟨b,0,none⟩=some (.slice (some ⟨g,0,none⟩) n c):=h3.quiet.cell b0' (fun x=>x)
  have f3:=fun o=>Z7 hb3 o
  clear h3 HC2 b0' hb3 HN1 HRD HB2
  have HLF:=zh (Z41 b _ _ _ _ _ HCW.out.box)
  go_wp2_with fail
  refine HLF.out.mono ?_
  rintro e w4 ⟨rfl,rfl⟩
  have hru4:=HRU.out.kept HCW.out.only (fun j e e'=>hgub (e.symm.trans e'))
  have HRU4:=zh hru4
  have HC3:=zh (Z6j ⟨gu,0+k * 1,none⟩ (n - k) (cu - k) _ (·=gu) _ (hru4.drop (k:=k) (by omega)) (fun u hu=>Z72 ks u (List.mem_of_mem_drop hu)) (by omega))
  rw [Nat.zero_add,Nat.mul_one] at HC3
  have b1:(w3.setCell ⟨b,0,none⟩ (.slice A1 k c1)).cell? ⟨b,1,none⟩=some (.slice (some ⟨gu,0,none⟩) n cu):=by rw [Z1 HCW.out.box];rfl
  have hrn:=HCW.out.new
  clear HLF b3 f3 hru4
  go_wp2_with fail
  refine HC3.out.mono ?_
  rintro e w5 ⟨u2,rfl,h5⟩
  obtain ⟨A5,c5,hu2,_,_,_⟩:=Za h5.own
  subst hu2
  have hr5:=h5.quiet.get hrn (fun x=>x)
  have z5:w5.cell? ⟨w1.heap.size,1,none⟩=some (.slice none 0 0):=by rw [Z1 hr5];rfl
  have f5:=fun o=>Z7 hr5 o
  have hb5:=h5.quiet.get HCW.out.box (fun x=>x)
  have hs6:Z0 (·=w1.heap.size) w5 (w5.setCell ⟨w1.heap.size,1,none⟩ (.slice A5 (n - k) c5)):=(Z0.refl (·=w1.heap.size) w5).setCell (p:=⟨w1.heap.size,1,none⟩) (fun _=>rfl) _
  have hfr:=HCW.out.fresh.1
  have hb6:=hs6.get hb5 (show ¬ b=w1.heap.size by omega)
  have b6:(w5.setCell ⟨w1.heap.size,1,none⟩ (.slice A5 (n - k) c5)).cell? ⟨b,1,none⟩=some (.slice (some ⟨gu,0,none⟩) n cu):=by rw [Z1 hb6];rfl
  have HB6:=zh hb6
  have HN5:Hid (Z2n (w3.setCell ⟨b,0,none⟩ (.slice A1 k c1)) w5 157 1 (.slice A5 (n - k) c5) ((kptrs ks).length - k) ((kptrs ks).drop k)):=by show Z2n _ _ _ _ _ _ _;rw [HPL.out];exact h5
  have HC4:=zh (Z6j ⟨gu,0,none⟩ k cu _ (·=gu) _ (((HRU4.out.takeK (k:=k) (by omega)).kept h5.quiet (fun _ _ x=>x)).kept hs6 (fun j e e'=>by omega)) (fun u hu=>Z72 ks u (List.mem_of_mem_take hu)) (by omega))
  rw [Nat.mul_one] at HC4
  clear h5 hr5 hb5 hs6 hb6 HC3 b1 hrn HRU4
  go_wp2_with fail
  refine HC4.out.mono ?_
  rintro e w7 ⟨u1,rfl,h7⟩
  obtain ⟨A7,c7,hu1,_,_,_⟩:=Za h7.own
  subst hu1
  have hb7:=h7.quiet.get HB6.out (fun x=>x)
  have z7:w7.cell? ⟨b,1,none⟩=some (.slice (some ⟨gu,0,none⟩) n cu):=by rw [Z1 hb7];rfl
  have f7:=fun o=>Z7 hb7 o
  have HCI:=zh (Zh4 (ps:=kptrs ks) hb HCW.out HN5.out h7)
  have HR:=zh (HCI.out.inner HI.out HK.out HLIM.out (by omega) (by have:=HNN.out;omega))
  clear h7 hb7 HC4 HN5 HCW HCI b6 z5 f5 HB6
  go_wp2
  go_ret
  exact Or.inr ⟨_,_,_,_,_,rfl,HR.out⟩
theorem ZaS {K F:Nat->Prop} {h:Nat} {w:World} {b:Nat} {xs:List EV} (hn:Zi K h w b F xs) (hK:∀ j,K j->¬ F j) (hl:xs.length <= 100000) :
  Calls Tryz.prog 73 #[ptrV b] w (Z74 K h w b F xs):=by
 cases h with
 | zero=>obtain ⟨v,hv⟩:=hn;exact Zfg hv hK hl
 | succ h =>
  obtain ⟨v,u,ks,hi,e⟩:=hn.lim
  subst e
  have hkl:ks.length <= (flat ks).length:=by
   have hk:=hi.kid
   clear hi hl hn
   induction ks with
   | nil=>simp
   | cons x ks ih =>
    have h1:=List.length_pos_iff.2 (hk x (by simp)).1
    have h2:=ih (fun y hy=>hk y (by simp [hy]))
    rw [flat,List.flatMap_cons,List.length_append,List.length_cons]
    unfold flat at h2
    omega
  refine (Zdv hi (fun j hj x=>hK j hj x.1) (fun x hx j hj=>(hi.sub x hx j hj).1.2) (by omega)).mono ?_
  rintro e w' (x | ⟨r,F1,F2,x1,x2,rfl,hc⟩)
  ·exact Or.inl x
  ·exact Or.inr ⟨r,F1,F2,x1,x2,rfl,hc.all,hc.ne1,hc.ne2,hc.n1,hc.n2,hc.apart,fun j hj=>(hc.sub1 j hj).imp (fun x=>x.1) id,fun j hj=>(hc.sub2 j hj).imp (fun x=>x.1) id,hc.only.mono (fun j _ x=>x.1)⟩
theorem Zfh (e0:Ent) (A:Option Addr) (c:Nat) (S:Nat->Prop) (w:World) (hr:Rd w S 1 A e0.key.length (Z9 e0.key)) (hl:e0.key.length <= 100000) :
  Calls Tryz.prog 72 #[entV e0 A c] w (Zcs w e0):=by
 have hq0:Quiet w ((w.alloc (.cells #[.slice A e0.key.length c,.int .i64 e0.pg,.int .i64 e0.sl] 103)).alloc (.cells #[.slice none 0 0,.int .i64 0,.int .i64 0] 103)):=((Z0.refl _ _).alloc _).alloc _
 have H0:=zh hq0
 obtain ⟨t0,t1,t2⟩:=Z1N (Zd (Z4 w (.cells #[.slice A e0.key.length c,.int .i64 e0.pg,.int .i64 e0.sl] 103)) (.cells #[.slice none 0 0,.int .i64 0,.int .i64 0] 103))
 have HN:=zh (Z0y w (.cells #[.slice A e0.key.length c,.int .i64 e0.pg,.int .i64 e0.sl] 103) (.cells #[.slice none 0 0,.int .i64 0,.int .i64 0] 103))
 have HC:=zh (Zai A c e0.key S _ (hr.kept hq0.drew (fun _ _ x=>x)) hl)
 clear hr hq0
 go_enter Tryz.func72,Tryz.ntmps72
 go_wp2_with fail
 go_region_held3 (fun w'=>w'.cell? ⟨w.heap.size,0,none⟩=some (.slice A e0.key.length c)/\w'.cell? ⟨w.heap.size,1,none⟩=some (.int .i64 e0.pg)/\w'.cell? ⟨w.heap.size,2,none⟩=some (.int .i64 e0.sl))
  (first | go_keep | fail)
  (first
    | (go_at_call 111;go_must (refine HC.out.mono ?_;rintro e w2 ⟨v2,rfl,hf2⟩;obtain ⟨A2,c2,hv2,_,_,hrd2⟩:=Za hf2.own;subst hv2;have k0:=hf2.quiet.cell t0 (fun x=>x);have k1:=hf2.quiet.cell t1 (fun x=>x);have k2:=hf2.quiet.cell t2 (fun x=>x);have hr2:=hf2.quiet.get HN.out (fun x=>x);obtain ⟨z0,z1,z2⟩:=Z1N hr2;have zf:=fun o=>Z7 hr2 o))
    | fail)
 have HX:=zh (Zdw hr2 (.slice A2 e0.key.length c2) (.int .i64 e0.pg) (.int .i64 e0.sl))
 have hz2:=hf2.quiet.size
 have hsz:((w.alloc (.cells #[.slice A e0.key.length c,.int .i64 e0.pg,.int .i64 e0.sl] 103)).alloc (.cells #[.slice none 0 0,.int .i64 0,.int .i64 0] 103)).drew.heap.size=w.heap.size+2:=by show (World.alloc _ _).heap.size=_;simp
 have HP:Hid (Zcs w e0 (.returned (entV e0 A2 c2)) (Z75 w2 (w.heap.size+1) (.slice A2 e0.key.length c2) (.int .i64 e0.pg) (.int .i64 e0.sl))):=by
  have ho:=Zdx w2 (w.heap.size+1) (.slice A2 e0.key.length c2) (.int .i64 e0.pg) (.int .i64 e0.sl)
  have hlz:∀ k,Value.ownBlock (.slice A2 e0.key.length c2)=some k->w.heap.size+2 <= k/\k < w2.heap.size:=fun k e=>⟨by have:=hf2.new k e;omega,(hf2.own.lt k e).2⟩
  refine ⟨A2,c2,rfl,(H0.out.drew.trans hf2.quiet).trans' ho (fun k hk e=>by omega),?_⟩
  exact (Rd.kept (hrd2.mono (T:=fun k=>w.heap.size+2 <= k/\k < w2.heap.size) hlz) ho (fun k hk e=>by omega)).mono (fun k hk=>⟨by omega,by have:=ho.size;omega⟩)
 clear hf2 hr2 hrd2 hz2 hsz HC H0 HN k0 k1 k2 z0 z1 z2 zf t0 t1 t2
 unfold Z75 at HX HP
 go_wp2
 generalize (((w2.setCell ⟨w.heap.size+1,0,none⟩ (.slice A2 e0.key.length c2)).setCell ⟨w.heap.size+1,1,none⟩ (.int .i64 e0.pg)).setCell ⟨w.heap.size+1,2,none⟩ (.int .i64 e0.sl))=W6 at HX HP ⊢
 exact bodyPost_ret (Z6A Tryz.results72 _ _ (w.heap.size+1) _ _ (0,0) _ (by rfl) HX.out Tryz.underlying103 rfl Zcr) (by rfl) HP.out
theorem ZiG (e:EV) (xs:List EV):Z01 (Z14 e xs)=(Z01 xs).take (ZO e.e (ents xs) * 3) ++ e.cells ++ (Z01 xs).drop (ZO e.e (ents xs) * 3):=by
 unfold Z14
 rw [show ∀ l:List EV,e :: l=[e] ++ l from fun _=>rfl,Z2a,Z2a,Z59,Z4p,Z4q,List.append_assoc]
theorem ZiH {K F:Nat->Prop} {w W w5:World} {b:Nat} {xs:List EV} {v v5:Value} {e:EV} (hl:Z7s K w b F xs v) (hK:∀ k,K k->¬ F k/\k < w.heap.size) (he:Z1e w K e) (hq:Quiet w W)
  (hg:ZT W w5 103 3 v v5 (xs.length+1) ((Z01 xs).take (ZO e.e (ents xs) * 3) ++ e.cells ++ (Z01 xs).drop (ZO e.e (ents xs) * 3))) :
  Z0 F w (w5.setCell ⟨b,0,none⟩ v5)/\Z7s K (w5.setCell ⟨b,0,none⟩ v5) b (fun k=>F k ∨ w.heap.size <= k) (Z14 e xs) v5:=by
 have hbw:=Z2 hl.box
 have hset:Z0 (·=b) w5 (w5.setCell ⟨b,0,none⟩ v5):=(Z0.refl (·=b) w5).setCell (p:=⟨b,0,none⟩) (fun _=>rfl) _
 have hvb:∀ j,v.ownBlock=some j->j ≠ b:=fun j e=>by
  obtain ⟨c,hc⟩:=Zh hl.row e
  exact Zb hc hl.box (by decide)
 have hz:=hq.size
 have hbox5:=hg.only.get (hq.get hl.box (fun x=>x)) (fun e=>hvb b e rfl)
 have ho:Z0 F w (w5.setCell ⟨b,0,none⟩ v5):=((hq.mono (T:=F) (fun _ _ x=>x.elim)).trans' hg.only (fun k hk e=>hl.foot.2 k e)).trans' hset (fun k hk e=>by rw [e];exact hl.foot.1)
 have hv5b:∀ j,v5.ownBlock=some j->j ≠ b:=fun j e=>by
  rcases hg.loc with x | x
  ·rw [x] at e;exact hvb j e
  ·rw [x] at e;injection e with e;omega
 refine ⟨ho,⟨by rw [Zg hbox5];rfl,?_,fun x hx=>?_,Or.inl hl.foot.1,fun j e=>?_⟩⟩
 ·unfold RowAt
  rw [Z4a,ZiG]
  exact Z5 hg.own hset (fun j e x=>hv5b j e x)
 ·have:Z1e w K x:=by
   rcases ZiD hx with rfl | hx
   ·exact he
   ·exact hl.key x hx
  exact this.kept ho (fun k hk=>(hK k hk).1)
 ·rcases hg.loc with x | x
  ·rw [x] at e;exact Or.inl (hl.foot.2 j e)
  ·rw [x] at e;injection e with e;exact Or.inr (by omega)
def Z42 (K:Nat->Prop) (h:Nat) (w:World) (b:Nat) (F:Nat->Prop) (xs:List EV) (e:EV) (r:Ending) (w':World):Prop :=
 (e.e ∈ ents xs/\r=.returned (.bool false)/\Z0 F w w'/\Zi K h w' b (fun k=>F k ∨ w.heap.size <= k) xs) ∨
 (e.e ∉ ents xs/\r=.returned (.bool true)/\Z0 F w w'/\Zi K h w' b (fun k=>F k ∨ w.heap.size <= k) (Z14 e xs))
theorem Zdy {K F:Nat->Prop} {w:World} {b:Nat} {xs:List EV} {v:Value} {e:EV} (hl:Z7s K w b F xs v) (hK:∀ k,K k->¬ F k/\k < w.heap.size) (he:Z1e w K e) (hs:ZS (ents xs)) (hn:xs.length <= 50000) :
  Calls Tryz.prog 71 #[ptrV b,entV e.e e.A e.c] w (Z42 K 0 w b F xs e):=by
 obtain ⟨A,c,hv,hc,hcm,hrd⟩:=Za hl.row
 have hq0:Quiet w (w.alloc (.cells #[.slice e.A e.e.key.length e.c,.int .i64 e.e.pg,.int .i64 e.e.sl] 103)):=(Z0.refl _ _).alloc _
 have HQ0:=zh hq0
 have hbox1:=hq0.get hl.box (fun x=>x)
 have HLF:=zh (Z41 b v none 0 0 _ hbox1)
 have b0:(w.alloc (.cells #[.slice e.A e.e.key.length e.c,.int .i64 e.e.pg,.int .i64 e.e.sl] 103)).cell? ⟨b,0,none⟩=some (.slice A xs.length c):=by rw [Z1 hbox1,<- hv];rfl
 obtain ⟨t0,t1,t2⟩:=Z1N (Z4 w (.cells #[.slice e.A e.e.key.length e.c,.int .i64 e.e.pg,.int .i64 e.e.sl] 103))
 have HS:=zh (Z9m xs e A c _ K K _ (hrd.kept hq0.drew (fun _ _ x=>x)) (fun x hx=>(hl.key x hx).quietly hq0.drew) (he.quietly hq0.drew) hs (by omega))
 have hpl:ZO e.e (ents xs) <= xs.length:=by have:=Z4R e.e (ents xs);simpa using this
 have HL:=zh hl
 have HK:=zh hK
 have HE:=zh he
 have HV:=zh hv
 have HBX:=zh hbox1
 clear hl hK he hs hrd hq0 hbox1 hv
 by_cases hm:e.e ∈ ents xs
 ·rw [decide_eq_true hm] at HS
  have HM:=zh hm
  clear hm
  generalize ZO e.e (ents xs)=p at HS hpl
  go_enter Tryz.func71,Tryz.ntmps71
  go_wp2_with fail
  refine HLF.out.mono ?_
  rintro r w1 ⟨rfl,rfl⟩
  go_wp2_with fail
  go_region_held3 (fun w'=>w'.cell? ⟨b,0,none⟩=some (.slice A xs.length c)/\w'.cell? ⟨w.heap.size,0,none⟩=some (.slice e.A e.e.key.length e.c)/\w'.cell? ⟨w.heap.size,1,none⟩=some (.int .i64 e.e.pg)/\w'.cell? ⟨w.heap.size,2,none⟩=some (.int .i64 e.e.sl))
   (first | go_keep | fail)
   (first
     | (go_at_call 106;go_must (refine HS.out.mono ?_;rintro r w2 ⟨rfl,hq2⟩;have k0:=hq2.cell b0 (fun x=>x);have k1:=hq2.cell t0 (fun x=>x);have k2:=hq2.cell t1 (fun x=>x);have k3:=hq2.cell t2 (fun x=>x)))
     | fail)
  have HQ2:=zh (HQ0.out.drew.trans hq2)
  clear hq2 k0 k1 k2 k3 b0 t0 t1 t2 HS HQ0 HLF
  go_wp2
  go_ret
  refine Or.inl ⟨HM.out,rfl,HQ2.out.mono (fun _ _ x=>x.elim),?_⟩
  exact (Zi.kept (K:=K) (h:=0) HQ2.out (fun _ _ x=>x) ⟨v,HL.out⟩ (fun _ _ x=>x)).mono (fun _ x=>Or.inl x)
 ·rw [decide_eq_false hm] at HS
  have HM:=zh hm
  clear hm
  obtain ⟨p,hp⟩:∃ p,ZO e.e (ents xs)=p:=⟨_,rfl⟩
  have HP:=zh hp
  rw [hp] at HS hpl
  clear hp
  go_enter Tryz.func71,Tryz.ntmps71
  go_wp2_with fail
  refine HLF.out.mono ?_
  rintro r w1 ⟨rfl,rfl⟩
  go_wp2_with fail
  go_region_held3 (fun w'=>w'.cell? ⟨b,0,none⟩=some (.slice A xs.length c)/\w'.cell? ⟨w.heap.size,0,none⟩=some (.slice e.A e.e.key.length e.c)/\w'.cell? ⟨w.heap.size,1,none⟩=some (.int .i64 e.e.pg)/\w'.cell? ⟨w.heap.size,2,none⟩=some (.int .i64 e.e.sl))
   (first | go_keep | fail)
   (first
     | (go_at_call 106;go_must (refine HS.out.mono ?_;rintro r w2 ⟨rfl,hq2⟩;have k0:=hq2.cell b0 (fun x=>x);have k1:=hq2.cell t0 (fun x=>x);have k2:=hq2.cell t1 (fun x=>x);have k3:=hq2.cell t2 (fun x=>x)))
     | fail)
  have HQ2:=zh (HQ0.out.drew.trans hq2)
  have HB2:=zh (hq2.get HBX.out (fun x=>x))
  clear hq2 b0 t0 t1 t2 HS HQ0 HLF HBX
  go_upto_region 5 with fail
  have hw2:w.heap.size < w2.heap.size:=Zf k1
  have hvb:Hid (∀ j,v.ownBlock=some j->j ≠ b):=fun j e=>by
   obtain ⟨c,hc⟩:=Zh HL.out.row e
   exact Zb hc HL.out.box (by decide)
  have hvl:Hid (∀ j,v.ownBlock=some j->j < w.heap.size):=fun j e=>(HL.out.row.lt j e).2
  go_cut [] (fun wx=>∃ v5,Z0 F w wx/\Z7s K wx b (fun k=>F k ∨ w.heap.size <= k) (Z14 e xs) v5)
  case first =>
   have k0a:(w2.alloc (.cells #[.slice e.A e.e.key.length e.c,.int .i64 e.e.pg,.int .i64 e.e.sl] 103)).cell? ⟨b,0,none⟩=some (.slice A xs.length c):=((Z0.refl (fun _=>False) w2).alloc _).cell k0 (fun x=>x)
   go_region_law (first
     | (go_simp;go_at_call 108;refine (Z7Y _ xs.length p w2.heap.size (Z01 xs) e.cells _ (by rw [<- HV.out];exact Z5 (Z5 HL.out.row HQ2.out (fun _ _ x=>x)) (((Z0.refl (fun _=>False) w2).alloc _).drew) (fun _ _ x=>x)) rfl (by exact Z4 w2 _) (Z20 [e]) (Z20 xs) (by omega) hpl (by rw [<- HV.out];exact fun x=>by have:=hvl.out _ x;omega)).mono ?_;rintro r w5 ⟨v5,rfl,hg5⟩;have hb5:w5.heap[b]?=some (.cells #[v,.slice none 0 0] 161 (0,0)):=hg5.only.get (by exact Zd HB2.out _) (fun x=>hvb.out b (by rw [HV.out];exact x) rfl);obtain ⟨A5,c5,hv5,_,_,_⟩:=Za hg5.own;subst hv5;have s1:w5.cell? ⟨b,0,none⟩=some v:=(by rw [Z1 hb5];rfl);have s2:=fun o=>Z7 hb5 o)
     | fail)
   all_goals
    go_wp2_with fail
    go_meet
    have hr:=ZiH (e:=e) HL.out HK.out HE.out (HQ2.out.alloc (.cells #[.slice e.A e.e.key.length e.c,.int .i64 e.e.pg,.int .i64 e.e.sl] 103)).drew (by rw [HP.out,HV.out];exact hg5)
    exact ⟨_,hr.1,hr.2⟩
  case rest =>
   obtain ⟨v5,ho5,hl5⟩:=hcut
   have HR:Hid (Z42 K 0 w b F xs e (.returned (.bool true)) wc):=Or.inr ⟨HM.out,rfl,ho5,v5,hl5⟩
   clear ho5 hl5
   go_wp2
   go_ret
   exact HR.out
structure Mid (K:Nat->Prop) (h:Nat) (w0 w:World) (b:Nat) (F:Nat->Prop) (v u:Value) (ys:List EV) (ps:List Nat) (ks:List Kid):Prop where
 only:Z0 F w0 w
 box:w.heap[b]?=some (.cells #[v,u] 161 (0,0))
 row:RowAt w v ys
 kids:w.ownsRow 0 157 1 u ps.length (ps.map ptrV)
 some_:∃ g,u.ownBlock=some g
 kid:∀ x ∈ ks,x.xs ≠ []/\Zi K h w x.b x.F x.xs
 sub:∀ x ∈ ks,∀ k,x.F k->(F k ∨ w0.heap.size <= k)/\k < w.heap.size/\k ≠ b/\v.ownBlock ≠ some k/\u.ownBlock ≠ some k
 apart:ks.Pairwise (fun x y=>∀ k,x.F k->¬ y.F k)
 foot:F b/\b < w0.heap.size/\(∀ k,v.ownBlock=some k->F k ∨ w0.heap.size <= k)/\(∀ k,u.ownBlock=some k->F k ∨ w0.heap.size <= k)
 keys:∀ k,K k->¬ F k/\k < w0.heap.size
section
variable {K F:Nat->Prop} {h:Nat} {w0 w w':World} {b:Nat} {v u:Value} {ys:List EV} {ps:List Nat} {ks:List Kid}
theorem Mid.start (hi:Z5E (Zi K h) w0 b F v u ks) (hlim:∀ k,F k->k < w0.heap.size) (hK:∀ k,K k->¬ F k/\k < w0.heap.size):Mid K h w0 w0 b F v u (heads ks) (ks.map (·.b)) ks:=by
 refine ⟨Z0.refl _ _,hi.box,hi.row,?_,hi.some_,hi.kid,fun x hx k hk=>⟨Or.inl (hi.sub x hx k hk).1,hlim k (hi.sub x hx k hk).1,(hi.sub x hx k hk).2⟩,hi.apart,⟨hi.foot.1,Z2 hi.box,fun k e=>Or.inl (hi.foot.2.1 k e),fun k e=>Or.inl (hi.foot.2.2 k e)⟩,hK⟩
 have:=hi.kids
 rw [List.length_map,List.map_map]
 exact this
theorem Mid.done (hm:Mid K h w0 w b F v u (heads ks) (ks.map (·.b)) ks) (h2:2 <= ks.length):Zi K (h+1) w b (fun k=>F k ∨ w0.heap.size <= k) (flat ks):=by
 refine ⟨v,u,ks,⟨hm.box,hm.row,?_,hm.some_,h2,hm.kid,fun x hx k hk=>⟨(hm.sub x hx k hk).1,(hm.sub x hx k hk).2.2⟩,hm.apart,Or.inl hm.foot.1,hm.foot.2.2.1,hm.foot.2.2.2⟩,rfl⟩
 have:=hm.kids
 rw [List.length_map,List.map_map] at this
 exact this
theorem Mid.nokey (hm:Mid K h w0 w b F v u ys ps ks) {k:Nat} (hk:K k):¬ (F k ∨ w0.heap.size <= k):=fun x=>by
 have:=hm.keys k hk
 rcases x with x | x
 ·exact this.1 x
 ·omega
theorem Mid.bn (hm:Mid K h w0 w b F v u ys ps ks):(∀ k,v.ownBlock=some k->k ≠ b)/\(∀ k,u.ownBlock=some k->k ≠ b)/\(∀ k,v.ownBlock=some k->u.ownBlock ≠ some k):=by
 refine ⟨fun k e=>?_,fun k e=>?_,fun k e e'=>?_⟩
 ·obtain ⟨c,hc⟩:=Zh hm.row e;exact Zb hc hm.box (by decide)
 ·obtain ⟨c,hc⟩:=Zh hm.kids e;exact Zb hc hm.box (by decide)
 ·obtain ⟨c,hc⟩:=Zh hm.row e
  obtain ⟨d,hd⟩:=Zh hm.kids e'
  exact Zb hc hd (by decide) rfl
theorem Mid.quietly (hm:Mid K h w0 w b F v u ys ps ks) (hq:Quiet w w'):Mid K h w0 w' b F v u ys ps ks:=by
 have hz:=hq.size
 exact ⟨hm.only.trans' hq (fun _ _ x=>x.elim),hq.get hm.box (fun x=>x),Z5 hm.row hq (fun _ _ x=>x),Z5 hm.kids hq (fun _ _ x=>x),hm.some_,fun x hx=>⟨(hm.kid x hx).1,Zi.kept hq (fun _ _ x=>x) (hm.kid x hx).2 (fun _ _ x=>x)⟩,fun x hx k hk=>⟨(hm.sub x hx k hk).1,by have:=(hm.sub x hx k hk).2.1;omega,(hm.sub x hx k hk).2.2⟩,hm.apart,hm.foot,hm.keys⟩
theorem Zh5 {A B:List Kid} {x:Kid} (h:(A ++ x :: B).Pairwise (fun x y=>∀ k,x.F k->¬ y.F k)):∀ y,y ∈ A ∨ y ∈ B->∀ k,x.F k->¬ y.F k:=by
 rw [List.pairwise_append,List.pairwise_cons] at h
 intro y hy k hx hyk
 rcases hy with hy | hy
 ·exact h.2.2 y hy x (by simp) k hyk hx
 ·exact h.2.1.1 y hy k hx hyk
theorem Zh6 {A B M:List Kid} {x:Kid} (h:(A ++ x :: B).Pairwise (fun x y=>∀ k,x.F k->¬ y.F k)) (hM:M.Pairwise (fun x y=>∀ k,x.F k->¬ y.F k)) (hn:∀ m ∈ M,∀ y,y ∈ A ∨ y ∈ B->∀ k,m.F k->¬ y.F k) :
  (A ++ M ++ B).Pairwise (fun x y=>∀ k,x.F k->¬ y.F k):=by
 rw [List.pairwise_append,List.pairwise_cons] at h
 rw [List.pairwise_append,List.pairwise_append]
 refine ⟨⟨h.1,hM,fun a ha m hm k hk hmk=>hn m hm a (Or.inl ha) k hmk hk⟩,h.2.1.2,fun a ha y hy=>?_⟩
 rcases List.mem_append.1 ha with ha | ha
 ·exact h.2.2 a ha y (by simp [hy])
 ·exact hn a ha y (Or.inr hy)
theorem Mid.turn {A B M:List Kid} {x:Kid} (hm:Mid K h w0 w b F v u ys ps (A ++ x :: B)) (ho:Z0 x.F w w') (hM:∀ m ∈ M,m.xs ≠ []/\Zi K h w' m.b m.F m.xs/\∀ k,m.F k->(x.F k ∨ w.heap.size <= k)/\k < w'.heap.size) (hMp:M.Pairwise (fun x y=>∀ k,x.F k->¬ y.F k)) :
  Mid K h w0 w' b F v u ys ps (A ++ M ++ B):=by
 have hz:=ho.size
 have hz0:=hm.only.size
 have hxm:x ∈ A ++ x :: B:=by simp
 have hxs:=hm.sub x hxm
 have hbw:=Z2 hm.box
 have hap:=Zh5 hm.apart
 have hkK:∀ k,K k->¬ x.F k:=fun k hk hx=>hm.nokey hk (hxs k hx).1
 have old:∀ y,y ∈ A ∨ y ∈ B->y ∈ A ++ x :: B:=fun y hy=>by rcases hy with hy | hy <;> simp [hy]
 refine ⟨hm.only.trans' ho (fun k hk hx=>?_),ho.get hm.box (fun hx=>(hxs b hx).2.2.1 rfl),Z5 hm.row ho (fun k e hx=>(hxs k hx).2.2.2.1 e),Z5 hm.kids ho (fun k e hx=>(hxs k hx).2.2.2.2 e),hm.some_,fun y hy=>?_,fun y hy k hk=>?_,Zh6 hm.apart hMp (fun m hmm y hy k hk hyk=>?_),hm.foot,hm.keys⟩
 ·rcases (hxs k hx).1 with e | e
  ·exact e
  ·omega
 ·rw [List.append_assoc,List.mem_append,List.mem_append] at hy
  have key:∀ y,y ∈ A ∨ y ∈ B->y.xs ≠ []/\Zi K h w' y.b y.F y.xs:=fun y hy=>⟨(hm.kid y (old y hy)).1,Zi.kept ho hkK (hm.kid y (old y hy)).2 (fun k hk hx=>hap y hy k hx hk)⟩
  rcases hy with hy | hy | hy
  ·exact key y (Or.inl hy)
  ·exact ⟨(hM y hy).1,(hM y hy).2.1⟩
  ·exact key y (Or.inr hy)
 ·rw [List.append_assoc,List.mem_append,List.mem_append] at hy
  have key:∀ y,y ∈ A ∨ y ∈ B->y.F k->(F k ∨ w0.heap.size <= k)/\k < w'.heap.size/\k ≠ b/\v.ownBlock ≠ some k/\u.ownBlock ≠ some k:=fun y hy hk=>by
   have:=hm.sub y (old y hy) k hk
   exact ⟨this.1,by omega,this.2.2⟩
  rcases hy with hy | hy | hy
  ·exact key y (Or.inl hy) hk
  ·obtain ⟨h1,h2⟩:=(hM y hy).2.2 k hk
   rcases h1 with h1 | h1
   ·have:=hxs k h1
    exact ⟨this.1,h2,this.2.2⟩
   ·exact ⟨Or.inr (by omega),h2,by omega,fun e=>by have:=(hm.row.lt k e).2;omega,fun e=>by have:=(hm.kids.lt k e).2;omega⟩
  ·exact key y (Or.inr hy) hk
 ·rcases ((hM m hmm).2.2 k hk).1 with h1 | h1
  ·exact hap y hy k h1 hyk
  ·have:=(hm.sub y (old y hy) k hyk).2.1
   omega
theorem Mid.put {A B:List Kid} {x:Kid} {xs':List EV} (hm:Mid K h w0 w b F v u ys ps (A ++ x :: B)) (ho:Z0 x.F w w') (hn:Zi K h w' x.b (fun k=>x.F k ∨ w.heap.size <= k) xs') (hne:xs' ≠ []) :
  Mid K h w0 w' b F v u ys ps (A ++ ⟨x.b,fun k=>(x.F k ∨ w.heap.size <= k)/\k < w'.heap.size,xs'⟩ :: B):=by
 have:=hm.turn (M:=[⟨x.b,fun k=>(x.F k ∨ w.heap.size <= k)/\k < w'.heap.size,xs'⟩]) ho (fun m hmm=>by
   simp at hmm
   subst hmm
   exact ⟨hne,hn.lim,fun k hk=>hk⟩) (by simp)
 rw [List.append_assoc] at this
 exact this
theorem Mid.cleave {A B:List Kid} {x:Kid} {r:Nat} {F1 F2:Nat->Prop} {x1 x2:List EV} (hm:Mid K h w0 w b F v u ys ps (A ++ x :: B)) (hc:Z9K K h w w' x.b x.F x.xs r F1 F2 x1 x2) :
  ∃ G1 G2,Mid K h w0 w' b F v u ys ps (A ++ ⟨x.b,G1,x1⟩ :: ⟨r,G2,x2⟩ :: B):=by
 refine ⟨fun k=>F1 k/\k < w'.heap.size,fun k=>F2 k/\k < w'.heap.size,?_⟩
 have:=hm.turn (M:=[⟨x.b,fun k=>F1 k/\k < w'.heap.size,x1⟩,⟨r,fun k=>F2 k/\k < w'.heap.size,x2⟩]) hc.only (fun m hmm=>by
   simp at hmm
   rcases hmm with rfl | rfl
   · exact ⟨hc.ne1,hc.n1.lim,fun k hk=>⟨hc.sub1 k hk.1,hk.2⟩⟩
   · exact ⟨hc.ne2,hc.n2.lim,fun k hk=>⟨hc.sub2 k hk.1,hk.2⟩⟩) (by
   rw [List.pairwise_cons]
   refine ⟨fun y hy k hk hyk=>?_,by simp⟩
   simp at hy
   subst hy
   exact hc.apart k hk.1 hyk.1)
 rw [List.append_assoc] at this
 exact this
theorem Mid.lay {g n c j:Nat} (hm:Mid K h w0 w b F (.slice (some ⟨g,0,none⟩) n c) u ys ps ks) (hn:ys.length=n) (x:EV) :
  Mid K h w0 (((w.setCell ⟨g,j * 3,none⟩ (.slice x.A x.e.key.length x.c)).setCell ⟨g,j * 3+1,none⟩ (.int .i64 x.e.pg)).setCell ⟨g,j * 3+2,none⟩ (.int .i64 x.e.sl)) b F (.slice (some ⟨g,0,none⟩) n c) u (ys.set j x) ps ks:=by
 subst hn
 have ho:Z0 (·=g) w (((w.setCell ⟨g,j * 3,none⟩ (.slice x.A x.e.key.length x.c)).setCell ⟨g,j * 3+1,none⟩ (.int .i64 x.e.pg)).setCell ⟨g,j * 3+2,none⟩ (.int .i64 x.e.sl)):=(((Z0.refl (·=g) w).setCell (p:=⟨g,j * 3,none⟩) (fun _=>rfl) _).setCell (p:=⟨g,j * 3+1,none⟩) (fun _=>rfl) _).setCell (p:=⟨g,j * 3+2,none⟩) (fun _=>rfl) _
 have hz:=ho.size
 obtain ⟨hb1,hb2,hb3⟩:=hm.bn
 have hg:F g ∨ w0.heap.size <= g:=hm.foot.2.2.1 g rfl
 refine ⟨hm.only.trans' ho (fun k hk e=>?_),ho.get hm.box (fun e=>hb1 g rfl e.symm),?_,Z5 hm.kids ho (fun k e e'=>hb3 g rfl (by rw [<- e'];exact e)),hm.some_,fun y hy=>⟨(hm.kid y hy).1,Zi.kept ho (fun k hk e=>hm.nokey hk (by rw [e];exact hg)) (hm.kid y hy).2 (fun k hk e=>(hm.sub y hy k hk).2.2.2.1 (by rw [e];rfl))⟩,fun y hy k hk=>⟨(hm.sub y hy k hk).1,by have:=(hm.sub y hy k hk).2.1;omega,(hm.sub y hy k hk).2.2⟩,hm.apart,hm.foot,hm.keys⟩
 ·subst e
  rcases hg with x | x
  ·exact x
  ·omega
 ·have h1:=(hm.row.stored (j * 3) (.slice x.A x.e.key.length x.c)).1
  have h2:=(World.ownsRow.stored h1 (j * 3+1) (.int .i64 x.e.pg)).1
  have h3:=(World.ownsRow.stored h2 (j * 3+2) (.int .i64 x.e.sl)).1
  rw [ZiA] at h3
  unfold RowAt
  rw [List.length_set]
  exact h3
theorem Mid.grow {W w5:World} {v5:Value} {ys':List EV} (hm:Mid K h w0 w b F v u ys ps ks) (hq:Quiet w W) (hg:ZT W w5 103 3 v v5 ys'.length (Z01 ys')):Mid K h w0 (w5.setCell ⟨b,0,none⟩ v5) b F v5 u ys' ps ks:=by
 have hset:Z0 (·=b) w5 (w5.setCell ⟨b,0,none⟩ v5):=(Z0.refl (·=b) w5).setCell (p:=⟨b,0,none⟩) (fun _=>rfl) _
 have hmq:=hm.quietly hq
 obtain ⟨hb1,hb2,hb3⟩:=hmq.bn
 have hbw:=Z2 hmq.box
 have hz:=hg.only.size
 have hz5:=hset.size
 have hz0:=hmq.only.size
 have hv5:∀ k,v5.ownBlock=some k->v.ownBlock=some k ∨ k=W.heap.size:=fun k e=>by
  rcases hg.loc with x | x
  ·rw [x] at e;exact Or.inl e
  ·rw [x] at e;injection e with e;exact Or.inr e.symm
 have hv5b:∀ k,v5.ownBlock=some k->k ≠ b:=fun k e=>by
  rcases hv5 k e with x | x
  ·exact hb1 k x
  ·omega
 refine ⟨(hmq.only.trans' hg.only (fun k hk e=>?_)).trans' hset (fun k hk e=>by rw [e];exact hm.foot.1),by rw [Zg (hg.only.get hmq.box (fun e=>hb1 b e rfl))];rfl,Z5 hg.own hset (fun k e x=>hv5b k e x),Z5 (Z5 hmq.kids hg.only (fun k e e'=>hb3 k e' e)) hset (fun k e=>hb2 k e),hm.some_,fun y hy=>⟨(hm.kid y hy).1,Zi.kept hset (fun k hk e=>hm.nokey hk (by rw [e];exact Or.inl hm.foot.1)) (Zi.kept hg.only (fun k hk e=>hm.nokey hk (hm.foot.2.2.1 k e)) (hmq.kid y hy).2 (fun k hk e=>(hmq.sub y hy k hk).2.2.2.1 e)) (fun k hk e=>(hmq.sub y hy k hk).2.2.1 e)⟩,fun y hy k hk=>?_,hm.apart,⟨hm.foot.1,hm.foot.2.1,fun k e=>?_,hm.foot.2.2.2⟩,hm.keys⟩
 ·rcases hm.foot.2.2.1 k e with x | x
  ·exact x
  ·omega
 ·have:=hmq.sub y hy k hk
  refine ⟨this.1,by omega,this.2.2.1,fun e=>?_,this.2.2.2.2⟩
  rcases hv5 k e with x | x
  ·exact this.2.2.2.1 x
  ·omega
 ·rcases hv5 k e with x | x
  ·exact hm.foot.2.2.1 k x
  ·exact Or.inr (by omega)
theorem Mid.growKids {W w5:World} {u5:Value} {ps':List Nat} (hm:Mid K h w0 w b F v u ys ps ks) (hq:Quiet w W) (hg:ZT W w5 157 1 u u5 ps'.length (ps'.map ptrV)):Mid K h w0 (w5.setCell ⟨b,1,none⟩ u5) b F v u5 ys ps' ks:=by
 have hset:Z0 (·=b) w5 (w5.setCell ⟨b,1,none⟩ u5):=(Z0.refl (·=b) w5).setCell (p:=⟨b,1,none⟩) (fun _=>rfl) _
 have hmq:=hm.quietly hq
 obtain ⟨hb1,hb2,hb3⟩:=hmq.bn
 have hbw:=Z2 hmq.box
 have hz:=hg.only.size
 have hz5:=hset.size
 have hz0:=hmq.only.size
 have hu5:∀ k,u5.ownBlock=some k->u.ownBlock=some k ∨ k=W.heap.size:=fun k e=>by
  rcases hg.loc with x | x
  ·rw [x] at e;exact Or.inl e
  ·rw [x] at e;injection e with e;exact Or.inr e.symm
 have hu5b:∀ k,u5.ownBlock=some k->k ≠ b:=fun k e=>by
  rcases hu5 k e with x | x
  ·exact hb2 k x
  ·omega
 refine ⟨(hmq.only.trans' hg.only (fun k hk e=>?_)).trans' hset (fun k hk e=>by rw [e];exact hm.foot.1),by rw [Zg (hg.only.get hmq.box (fun e=>hb2 b e rfl))];rfl,Z5 (Z5 hmq.row hg.only (fun k e e'=>hb3 k e e')) hset (fun k e=>hb1 k e),Z5 hg.own hset (fun k e x=>hu5b k e x),?_,fun y hy=>⟨(hm.kid y hy).1,Zi.kept hset (fun k hk e=>hm.nokey hk (by rw [e];exact Or.inl hm.foot.1)) (Zi.kept hg.only (fun k hk e=>hm.nokey hk (hm.foot.2.2.2 k e)) (hmq.kid y hy).2 (fun k hk e=>(hmq.sub y hy k hk).2.2.2.2 e)) (fun k hk e=>(hmq.sub y hy k hk).2.2.1 e)⟩,fun y hy k hk=>?_,hm.apart,⟨hm.foot.1,hm.foot.2.1,hm.foot.2.2.1,fun k e=>?_⟩,hm.keys⟩
 ·rcases hm.foot.2.2.2 k e with x | x
  ·exact x
  ·omega
 ·rcases hg.loc with x | x
  ·obtain ⟨g,hg'⟩:=hm.some_;exact ⟨g,by rw [x];exact hg'⟩
  ·exact ⟨_,x⟩
 ·have:=hmq.sub y hy k hk
  refine ⟨this.1,by omega,this.2.2.1,this.2.2.2.1,fun e=>?_⟩
  rcases hu5 k e with x | x
  ·exact this.2.2.2.2 x
  ·omega
 ·rcases hu5 k e with x | x
  ·exact hm.foot.2.2.2 k x
  ·exact Or.inr (by omega)
end
structure Zjp (t:Ent) (A:List Kid) (x:Kid) (B:List Kid):Prop where
 left:∀ a ∈ flat A,cmpE a.e t < 0
 right:∀ b ∈ flat B,cmpE t b.e < 0
 mem:t ∈ ents (flat (A ++ x :: B)) ↔ t ∈ ents x.xs
 rise:ZS (ents x.xs)
theorem ZjT {t:Ent} {A B:List Kid} {x:Kid} (hne:∀ y ∈ A ++ x :: B,y.xs ≠ []) (hs:ZS (ents (flat (A ++ x :: B)))) (hb:ZhS t (ents (heads (A ++ x :: B))) A.length):Zjp t A x B:=by
 have hs':=hs
 rw [Z3p] at hs
 unfold ents ZS at hs
 rw [List.map_append,List.map_append,List.pairwise_append,List.pairwise_append] at hs
 obtain ⟨⟨_,hx,hAx⟩,hB,_⟩:=hs
 have hL:∀ a ∈ flat A,cmpE a.e t < 0:=by
  intro a ha
  rcases hb.left with h0 | h0
  ·have:A=[]:=List.eq_nil_of_length_eq_zero h0
   subst this
   simp [flat] at ha
  ·have h1:=h0 (hd x.xs).e (by unfold ents heads;simp)
   have h2:=hAx _ (List.mem_map.2 ⟨a,ha,rfl⟩) _ (List.mem_map.2 ⟨_,Z9n (hne x (by simp)),rfl⟩)
   by_cases h3:cmpE t (hd x.xs).e=0
   ·rw [(Z5w _ _).1 h3];exact h2
   ·exact Z23 h2 (by rw [ZaM t];omega)
 have hR:∀ b ∈ flat B,cmpE t b.e < 0:=by
  intro c hc
  obtain ⟨y,hy,hcy⟩:=List.mem_flatMap.1 hc
  obtain ⟨j,hj⟩:=List.mem_iff_getElem?.1 hy
  have h1:(ents (heads (A ++ x :: B)))[A.length+1+j]?=some (hd y.xs).e:=by
   unfold ents heads
   rw [List.getElem?_map,List.getElem?_map,List.getElem?_append_right (by omega),show A.length+1+j - A.length=j+1 by omega,List.getElem?_cons_succ,hj]
   rfl
  have h2:=hb.right _ _ (by omega) h1
  have hyr:ZS (ents y.xs):=by
   have hmem:∀ l:List Kid,y ∈ l->ZS (ents (flat l))->ZS (ents y.xs):=by
    intro l hl hr
    induction l with
    | nil=>simp at hl
    | cons z l ih =>
     rw [Z5y] at hr
     unfold ents ZS at hr
     rw [List.map_append,List.pairwise_append] at hr
     rcases List.mem_cons.1 hl with rfl | hl
     ·exact hr.1
     ·exact ih hl hr.2.1
   exact hmem _ (by simp [hy]) hs'
  rcases ZiI hyr hcy with e | e
  ·rw [<- e];exact h2
  ·exact Z23 h2 e
 refine ⟨hL,hR,?_,hx⟩
 rw [Z3p]
 unfold ents
 rw [List.map_append,List.map_append,List.mem_append,List.mem_append]
 constructor
 ·rintro ((h | h) | h)
  ·obtain ⟨a,ha,e⟩:=List.mem_map.1 h
   have:=hL a ha
   rw [e,Z3y] at this
   omega
  ·exact h
  ·obtain ⟨a,ha,e⟩:=List.mem_map.1 h
   have:=hR a ha
   rw [e,Z3y] at this
   omega
 ·exact fun h=>Or.inl (Or.inr h)
theorem Zjp.ins {e:EV} {A B:List Kid} {x:Kid} (h:Zjp e.e A x B):Z14 e (flat (A ++ x :: B))=flat A ++ Z14 e x.xs ++ flat B:=by
 rw [Z3p]
 refine ZiF h.left (fun b hb x=>?_)
 have:=Z23 (h.right b hb) x
 rw [Z3y] at this
 omega
theorem Zkz {α:Type} {ks:List α} {i:Nat} (h:i < ks.length):∃ A x B,ks=A ++ x :: B/\A.length=i/\ks[i]?=some x:=by
 refine ⟨ks.take i,ks[i],ks.drop (i+1),?_,by rw [List.length_take];omega,zg h⟩
 rw [List.getElem_cons_drop,List.take_append_drop]
theorem ZjU {α:Type} (A:List α) (x y:α) (B:List α):(A ++ x :: B).set A.length y=A ++ y :: B:=by simp
theorem ZjV (P Q:List EV) (y z:EV):(Z01 (P ++ y :: Q)).take ((P.length+1) * 3) ++ z.cells ++ (Z01 (P ++ y :: Q)).drop ((P.length+1) * 3)=Z01 (P ++ y :: z :: Q):=by
 rw [<- Z4p,<- Z4q,show P ++ y :: Q=(P ++ [y]) ++ Q by simp,List.take_left' (by simp),List.drop_left' (by simp),show P ++ y :: z :: Q=(P ++ [y]) ++ ([z] ++ Q) by simp,Z2a (P ++ [y]) ([z] ++ Q),Z2a [z] Q,Z59,List.append_assoc]
theorem ZjW (P Q:List Nat) (y z:Nat):((P ++ y :: Q).map ptrV).take (P.length+1) ++ [ptrV z] ++ ((P ++ y :: Q).map ptrV).drop (P.length+1)=(P ++ y :: z :: Q).map ptrV:=by
 rw [<- List.map_take,<- List.map_drop,show P ++ y :: Q=(P ++ [y]) ++ Q by simp,List.take_left' (by simp),List.drop_left' (by simp)]
 simp
theorem Zh8 {z:Int} (v:Value) (n i vb:Nat) (xs news:List Value) (w:World) (hz:z=(i:Int)) (hown:w.ownsRow 0 103 3 v n xs) (hnl:news.length=3) (hnew:w.heap[vb]?=some (.cells news.toArray 103 (0,0))) (h1:∀ u ∈ news,u.oneCell'=true) (hx1:∀ u ∈ xs,u.oneCell'=true) (hn:n <= 100000) (hi:i <= n) (hvb:v.ownBlock ≠ some vb) :
  Calls Tryz.prog 108 #[v,.int .i64 z,.slice (some ⟨vb,0,none⟩) 1 1] w fun e w'=>∃ v',e=.returned v'/\ZT w w' 103 3 v v' (n+1) (xs.take (i * 3) ++ news ++ xs.drop (i * 3)):=by
 subst hz
 exact Z7Y v n i vb xs news w hown hnl hnew h1 hx1 hn hi hvb
theorem Zh9 {z:Int} (v:Value) (n i vb:Nat) (xs news:List Value) (w:World) (hz:z=(i:Int)) (hown:w.ownsRow 0 157 1 v n xs) (hnl:news.length=1) (hnew:w.heap[vb]?=some (.cells news.toArray 157 (0,0))) (h1:∀ u ∈ news,u.oneCell'=true) (hx1:∀ u ∈ xs,u.oneCell'=true) (hn:n <= 100000) (hi:i <= n) (hvb:v.ownBlock ≠ some vb) :
  Calls Tryz.prog 110 #[v,.int .i64 z,.slice (some ⟨vb,0,none⟩) 1 1] w fun e w'=>∃ v',e=.returned v'/\ZT w w' 157 1 v v' (n+1) (xs.take i ++ news ++ xs.drop i):=by
 subst hz
 exact Zdu v n i vb xs news w hown hnl hnew h1 hx1 hn hi hvb
theorem Mid.insE {K F:Nat->Prop} {h:Nat} {w0 w:World} {b g n c i:Nat} {u:Value} {P Q:List EV} {y x:EV} {ps:List Nat} {ks:List Kid} {z:Int} (hm:Mid K h w0 w b F (.slice (some ⟨g,0,none⟩) n c) u (P ++ y :: Q) ps ks) (hz:z=(i:Int)+1) (hP:P.length=i) (hn:n <= 50000) :
  Calls Tryz.prog 108 #[.slice (some ⟨g,0,none⟩) n c,.int .i64 z,.slice (some ⟨w.heap.size,0,none⟩) 1 1] (w.alloc (.cells #[.slice x.A x.e.key.length x.c,.int .i64 x.e.pg,.int .i64 x.e.sl] 103)) fun e w8 =>
   ∃ A8 c8,e=.returned (.slice A8 (n+1) c8)/\w8.cell? ⟨b,0,none⟩=some (.slice (some ⟨g,0,none⟩) n c)/\(∀ o,w8.frozen? ⟨b,o,none⟩=false)/\Mid K h w0 (w8.setCell ⟨b,0,none⟩ (.slice A8 (n+1) c8)) b F (.slice A8 (n+1) c8) u (P ++ y :: x :: Q) ps ks:=by
 obtain ⟨A',c',he,_,_,_⟩:=Za hm.row
 have hlen:(P ++ y :: Q).length=n:=by injection he with _ he _;exact he.symm
 have hil:i+1 <= n:=by rw [<- hlen,<- hP];simp
 have hgl:g < w.heap.size:=(hm.row.lt g rfl).2
 have hrow:=Z5 hm.row ((Z0.refl (fun _=>False) w).alloc (.cells #[.slice x.A x.e.key.length x.c,.int .i64 x.e.pg,.int .i64 x.e.sl] 103)) (fun _ _ x=>x)
 rw [hlen] at hrow
 refine (Zh8 (z:=z) _ n (i+1) w.heap.size (Z01 (P ++ y :: Q)) x.cells _ (by omega) hrow rfl (Z4 w _) (fun u hu=>Z20 [x] u (by rw [Z59];exact hu)) (Z20 _) (by omega) hil (fun e=>by have e2:g=w.heap.size:=Option.some.inj e;omega)).mono ?_
 rintro e w8 ⟨v8,rfl,hg⟩
 obtain ⟨A8,c8,hv8,_,_,_⟩:=Za hg.own
 subst hv8
 have hb8:=hg.only.get (Zd hm.box _) (fun e=>hm.bn.1 b e rfl)
 rw [<- hP,ZjV] at hg
 have hl2:(P ++ y :: x :: Q).length=n+1:=by rw [<- hlen];simp;omega
 refine ⟨A8,c8,rfl,by rw [Z1 hb8];rfl,fun o=>Z7 hb8 o,hm.grow ((Z0.refl _ _).alloc _) (by rw [hl2];exact hg)⟩
theorem Mid.insN {K F:Nat->Prop} {h:Nat} {w0 w:World} {b g n c i r:Nat} {v:Value} {ys:List EV} {P Q:List Nat} {y:Nat} {ks:List Kid} {z:Int} (hm:Mid K h w0 w b F v (.slice (some ⟨g,0,none⟩) n c) ys (P ++ y :: Q) ks) (hz:z=(i:Int)+1) (hP:P.length=i) (hn:n <= 50000) :
  Calls Tryz.prog 110 #[.slice (some ⟨g,0,none⟩) n c,.int .i64 z,.slice (some ⟨w.heap.size,0,none⟩) 1 1] (w.alloc (.cells #[ptrV r] 157)) fun e w8 =>
   ∃ A8 c8,e=.returned (.slice A8 (n+1) c8)/\w8.cell? ⟨b,1,none⟩=some (.slice (some ⟨g,0,none⟩) n c)/\(∀ o,w8.frozen? ⟨b,o,none⟩=false)/\Mid K h w0 (w8.setCell ⟨b,1,none⟩ (.slice A8 (n+1) c8)) b F v (.slice A8 (n+1) c8) ys (P ++ y :: r :: Q) ks:=by
 obtain ⟨A',c',he,_,_,_⟩:=Za hm.kids
 have hlen:(P ++ y :: Q).length=n:=by injection he with _ he _;exact he.symm
 have hil:i+1 <= n:=by rw [<- hlen,<- hP];simp
 have hgl:g < w.heap.size:=(hm.kids.lt g rfl).2
 have hrow:=Z5 hm.kids ((Z0.refl (fun _=>False) w).alloc (.cells #[ptrV r] 157)) (fun _ _ x=>x)
 rw [hlen] at hrow
 refine (Zh9 (z:=z) _ n (i+1) w.heap.size ((P ++ y :: Q).map ptrV) [ptrV r] _ (by omega) hrow rfl (Z4 w _) (Z3v [r]) (Z3v _) (by omega) hil (fun e=>by have e2:g=w.heap.size:=Option.some.inj e;omega)).mono ?_
 rintro e w8 ⟨v8,rfl,hg⟩
 obtain ⟨A8,c8,hv8,_,_,_⟩:=Za hg.own
 subst hv8
 have hb8:=hg.only.get (Zd hm.box _) (fun e=>hm.bn.2.1 b e rfl)
 rw [<- hP,ZjW] at hg
 have hl2:(P ++ y :: r :: Q).length=n+1:=by rw [<- hlen];simp;omega
 refine ⟨A8,c8,rfl,by rw [Z1 hb8];rfl,fun o=>Z7 hb8 o,hm.growKids ((Z0.refl _ _).alloc _) (by rw [hl2];exact hg)⟩
def Zjs (K:Nat->Prop) (h:Nat):Prop:=∀ (w:World) (b:Nat) (F:Nat->Prop) (xs:List EV) (e:EV),Zi K h w b F xs->(∀ k,K k->¬ F k/\k < w.heap.size)->Z1e w K e->ZS (ents xs)->xs.length <= 50000 →
 Calls Tryz.prog 71 #[ptrV b,entV e.e e.A e.c] w (Z42 K h w b F xs e)
theorem Zcu {K F:Nat->Prop} {h:Nat} {w:World} {b:Nat} {v u:Value} {ks:List Kid} {e:EV} (hih:Zjs K h) (hi:Z5E (Zi K h) w b F v u ks) (hlim:∀ k,F k->k < w.heap.size) (hK:∀ k,K k->¬ F k/\k < w.heap.size) (he:Z1e w K e) (hs:ZS (ents (flat ks))) (hn:(flat ks).length <= 50000) (hkl:ks.length <= (flat ks).length) :
  Calls Tryz.prog 71 #[ptrV b,entV e.e e.A e.c] w (Z42 K (h+1) w b F (flat ks) e):=by
 have hhl:(heads ks).length=ks.length:=by simp
 have hne:∀ x ∈ ks,x.xs ≠ []:=fun x hx=>(hi.kid x hx).1
 have hrh:=Zct hne hs
 have h2:=hi.two
 have hb1:=Zff (t:=e.e) hrh (by intro x;have:=congrArg List.length x;simp at this;rw [this] at h2;simp at h2)
 obtain ⟨i,hie⟩:∃ i,Z5V e.e (ents (heads ks))=i:=⟨_,rfl⟩
 rw [hie] at hb1
 have hil:i < ks.length:=by have:=hb1.lt;simpa using this
 obtain ⟨A,x,B,hks,hAi,_⟩:=Zkz hil
 subst hks
 rw [<- hAi] at hb1
 have HGO:=zh (ZjT hne hs hb1)
 obtain ⟨gu,cu,hu,hcu,hcum⟩:=hi.form
 obtain ⟨g,c,hv,hc,hcm⟩:∃ g c,v=.slice (some ⟨g,0,none⟩) (A ++ x :: B).length c/\(A ++ x :: B).length <= c/\c <= maxLen:=by
  rcases ZB hi.row with ⟨_,e⟩ | ⟨g,c,e,h1,h2'⟩
  ·omega
  ·rw [hhl] at e h1
   exact ⟨g,c,e,h1,h2'⟩
 have hm0:=Mid.start hi hlim hK
 obtain ⟨n,hnn⟩:∃ n,(A ++ x :: B).length=n:=⟨_,rfl⟩
 rw [hnn] at hv hu hc hcu hil h2
 rw [hv,hu] at hm0
 have hq0:Quiet w (w.alloc (.cells #[.slice e.A e.e.key.length e.c,.int .i64 e.e.pg,.int .i64 e.e.sl] 103)):=(Z0.refl _ _).alloc _
 have hm1:=hm0.quietly hq0
 have HM1:=zh hm1
 have HE1:=zh (he.quietly hq0)
 have HBX1:=zh (Z4 w (.cells #[.slice e.A e.e.key.length e.c,.int .i64 e.e.pg,.int .i64 e.e.sl] 103))
 have HLF:=zh (Z41 b _ _ _ _ _ hm1.box)
 have hkey1:∀ y ∈ heads (A ++ x :: B),Z1e (w.alloc (.cells #[.slice e.A e.e.key.length e.c,.int .i64 e.e.pg,.int .i64 e.e.sl] 103)) K y:=fun y hy=>by
  obtain ⟨z,hz,rfl⟩:=List.mem_map.1 hy
  exact (hm1.kid z hz).2.key _ (Z9n (hne z hz))
 have HBE:=zh (Zh2 b _ _ (heads (A ++ x :: B)) e K K _ hm1.box hm1.row hkey1 HE1.out hrh (by rw [hhl];omega))
 rw [hie] at HBE
 obtain ⟨t0,t1,t2⟩:=Z1N HBX1.out
 have HIH:=zh hih
 have HNN:=zh hnn
 have HAI:=zh hAi
 have hxl:Hid (x.xs.length <= 50000):=by show _ <= _;rw [Z3p] at hn;simp at hn;omega
 have hn5:n <= 50000:=by omega
 obtain ⟨Z8,Z6⟩:∃ Z8,Z42 K (h+1) w b F (flat (A ++ x :: B)) e=Z8:=⟨_,rfl⟩
 rw [Z6]
 have Ze:=zh Z6
 have hcm':c <= 9223372036854775807:=by unfold maxLen at hcm;omega
 have hcum':cu <= 9223372036854775807:=by unfold maxLen at hcum;omega
 clear hih hi hlim hK he hs hn hkl hhl hne hrh hb1 hie hu hv hm0 hq0 hm1 hkey1 hnn hAi hcm hcum Z6
 go_enter Tryz.func71,Tryz.ntmps71
 go_wp2_with fail
 refine HLF.out.mono ?_
 rintro r w1 ⟨rfl,rfl⟩
 go_wp2_with fail
 refine HBE.out.mono ?_
 rintro r w2 ⟨rfl,hq2⟩
 have hm2:=HM1.out.quietly hq2
 have HM2:=zh hm2
 have HE2:=zh (HE1.out.quietly hq2)
 have HBX2:=zh (hq2.get HBX1.out (fun x=>x))
 have b1:w2.cell? ⟨b,1,none⟩=some (.slice (some ⟨gu,0,none⟩) n cu):=by rw [Z1 hm2.box];rfl
 have p1:w2.cell? ⟨gu,i,none⟩=some (ptrV x.b):=by
  have:=hm2.kids.cells rfl i (ptrV x.b) (by rw [List.getElem?_map,List.getElem?_map,<- HAI.out];simp)
  rw [Zl,Nat.zero_add] at this
  exact this
 obtain ⟨t0,t1,t2⟩:=Z1N HBX2.out
 have d0:(0:Int) <= (i:Int):=by omega
 have d1:(i:Int) < (n:Int):=by omega
 have HIN:=zh (HIH.out w2 x.b x.F x.xs e (hm2.kid x (by simp)).2 (fun k hk=>⟨fun y=>hm2.nokey hk (hm2.sub x (by simp) k y).1,by have:=(hm2.keys k hk).2;have:=hm2.only.size;omega⟩) HE2.out HGO.out.rise hxl.out)
 clear hq2 hm2 HM1 HE1 HBX1 HLF HBE HIH
 go_wp2_with fail
 refine HIN.out.mono ?_
 rintro r w3 (⟨hmem,rfl,ho3,hn3⟩ | ⟨hmem,rfl,ho3,hn3⟩)
 ·have hm3:=HM2.out.put ho3 hn3 (HM2.out.kid x (by simp)).1
  rw [Z4t,Z76] at hm3
  have HR:Hid (Z8 (.returned (.bool false)) w3):=by
   rw [<- Ze.out]
   refine Or.inl ⟨HGO.out.mem.2 hmem,rfl,hm3.only,?_⟩
   have:=Mid.done (ks:=A ++ ⟨x.b,fun k=>(x.F k ∨ w2.heap.size <= k)/\k < w3.heap.size,x.xs⟩ :: B) (by rw [Z4t,Z76];exact hm3) (by have:=HNN.out;simp at this ⊢;omega)
   rw [Z3p] at this ⊢
   exact this
  clear hm3 hmem ho3 hn3 HIN HM2 HE2 HBX2 b1 p1 t0 t1 t2
  go_wp2
  exact HR.out
 ·have hm3:=HM2.out.put ho3 hn3 (Zec e x.xs)
  rw [Z4t,Z76] at hm3
  have HM3:=zh hm3
  have HMEM:=zh hmem
  have hq3d:Quiet w3 w3.drew:=(Z0.refl _ _).drew
  have HLE:=zh (Z73 ((hm3.quietly hq3d).kid _ (List.mem_append_right A List.mem_cons_self)).2 (Zec e x.xs))
  have b3:w3.cell? ⟨b,0,none⟩=some (.slice (some ⟨g,0,none⟩) n c):=by rw [Z1 hm3.box];rfl
  have hgb:g ≠ b:=hm3.bn.1 g rfl
  have hgl:g < w3.heap.size:=(hm3.row.lt g rfl).2
  have hys:Hid ((heads A ++ hd x.xs :: heads B)[i]?=some (hd x.xs)):=by show _=_;rw [<- HAI.out];simp [heads]
  clear hm3 hmem ho3 hn3 HIN HM2 HE2 HBX2 b1 p1 t0 t1 t2 hq3d
  go_wp2_with fail
  go_region_held3 (fun w'=>w'.cell? ⟨b,0,none⟩=some (.slice (some ⟨g,0,none⟩) n c))
   (first | go_keep | fail)
   (first
     | (go_at_call 74;go_must (refine HLE.out.mono ?_;rintro r w4 ⟨rfl,hq4⟩;have k0:=hq4.cell b3 (fun x=>x);have hm4:=(HM3.out.quietly ((Z0.refl (fun _=>False) w3).drew)).quietly hq4;obtain ⟨s0,s1,s2⟩:=Zh1 hm4.row hys.out (Z0.refl _ _);obtain ⟨rc,hrc⟩:=Zh hm4.row (k:=g) rfl;have sf:=fun o=>Z7 hrc o))
     | fail)
  have hlen:(heads A ++ hd x.xs :: heads B).length=n:=by have:=HNN.out;simp [heads] at this ⊢;omega
  have hm5:=hm4.lay (j:=i) hlen (hd (Z14 e x.xs))
  rw [show (heads A ++ hd x.xs :: heads B).set i (hd (Z14 e x.xs))=heads A ++ hd (Z14 e x.xs) :: heads B by rw [show i=(heads A).length by rw [<- HAI.out];simp [heads]];exact ZjU _ _ _ _] at hm5
  have HM5:=zh hm5
  clear hm5 hm4 hq4 k0 s0 s1 s2 rc hrc sf HLE b3 HM3 hgb hgl hys hlen
  generalize (((w4.setCell ⟨g,i * 3,none⟩ (.slice (hd (Z14 e x.xs)).A (hd (Z14 e x.xs)).e.key.length (hd (Z14 e x.xs)).c)).setCell ⟨g,i * 3+1,none⟩ (.int .i64 (hd (Z14 e x.xs)).e.pg)).setCell ⟨g,i * 3+2,none⟩ (.int .i64 (hd (Z14 e x.xs)).e.sl))=w5 at HM5 ⊢
  obtain ⟨x5,HX5⟩:∃ x5:Kid,Hid (x5.b=x.b/\x5.xs=Z14 e x.xs/\Mid K h w w5 b F (.slice (some ⟨g,0,none⟩) n c) (.slice (some ⟨gu,0,none⟩) n cu) (heads A ++ hd (Z14 e x.xs) :: heads B) (A.map (·.b) ++ x.b :: B.map (·.b)) (A ++ x5 :: B)):=⟨⟨x.b,fun k=>(x.F k ∨ w2.heap.size <= k)/\k < w3.heap.size,Z14 e x.xs⟩,rfl,rfl,HM5.out⟩
  have hsp:=ZaS (HX5.out.2.2.kid x5 (by simp)).2 (fun j hj hx=>HX5.out.2.2.nokey hj (HX5.out.2.2.sub x5 (by simp) j hx).1) (by rw [HX5.out.2.1,Z4a];have:=hxl.out;omega)
  rw [HX5.out.1] at hsp
  have HSP:=zh hsp
  have HLEN:Hid ((A ++ x5 :: B).length=n):=by have:=HNN.out;show _=_;simp at this ⊢;omega
  clear hsp HM5
  go_wp2_with fail
  refine HSP.out.mono ?_
  rintro r w6 (⟨rfl,rfl⟩ | ⟨r,F1,F2,x1,x2,rfl,hc6⟩)
  ·have HR:Hid (Z8 (.returned (.bool true)) w5):=by
    rw [<- Ze.out]
    refine Or.inr ⟨fun z=>HMEM.out (HGO.out.mem.1 z),rfl,HX5.out.2.2.only,?_⟩
    have:=Mid.done (ks:=A ++ x5 :: B) (by rw [Z4t,Z76,HX5.out.1,HX5.out.2.1];exact HX5.out.2.2) (by rw [HLEN.out];exact h2)
    rw [Z3p,HX5.out.2.1] at this
    rw [HGO.out.ins]
    exact this
   clear HSP HX5
   go_wp2
   exact HR.out
  ·rw [<- HX5.out.1] at hc6
   obtain ⟨G1,G2,hm6⟩:=HX5.out.2.2.cleave hc6
   have hall:=hc6.all
   rw [HX5.out.2.1] at hall
   have hh1:hd (Z14 e x.xs)=hd x1:=by rw [hall];exact ZaQ hc6.ne1 _
   rw [hh1,HX5.out.1] at hm6
   have HALL:=zh hall
   have HM6:=zh hm6
   have HLR:=zh (Z73 (xs:=x2) ((hm6.quietly ((Z0.refl (fun _=>False) w6).drew)).kid ⟨r,G2,x2⟩ (by simp)).2 hc6.ne2)
   have k6:w6.cell? ⟨b,0,none⟩=some (.slice (some ⟨g,0,none⟩) n c):=by rw [Z1 hm6.box];rfl
   have hlen:Hid ((heads A ++ hd x1 :: heads B).length=n):=by have:=HNN.out;show _=_;simp [heads] at this ⊢;omega
   have hhA:Hid ((heads A).length=i):=by show _=_;rw [<- HAI.out];simp [heads]
   have dw:IntKind.i64.wrap ((i:Int)+1)=(i:Int)+1:=Z3a (by omega)
   have hgl:g < w6.heap.size:=(hm6.row.lt g rfl).2
   have hgb:Hid (g ≠ b):=hm6.bn.1 g rfl
   clear hm6 hall hh1 hc6 HSP HX5
   go_upto_region 14 with fail
   go_cut [] (fun wx=>∃ v7,Mid K h w wx b F v7 (.slice (some ⟨gu,0,none⟩) n cu) (heads A ++ hd x1 :: hd x2 :: heads B) (A.map (·.b) ++ x.b :: B.map (·.b)) (A ++ ⟨x.b,G1,x1⟩ :: ⟨r,G2,x2⟩ :: B))
   case first =>
    go_region_law (first
      | (go_simp;go_at_call 74;refine HLR.out.mono ?_;rintro r' w7 ⟨rfl,hq7⟩;have k7:=hq7.cell k6 (fun x=>x);have k7a:(w7.alloc (.cells #[.slice (hd x2).A (hd x2).e.key.length (hd x2).c,.int .i64 (hd x2).e.pg,.int .i64 (hd x2).e.sl] 103)).cell? ⟨b,0,none⟩=some (.slice (some ⟨g,0,none⟩) n c):=((Z0.refl (fun _=>False) w7).alloc _).cell k7 (fun x=>x);have hm7:=(HM6.out.quietly ((Z0.refl (fun _=>False) w6).drew)).quietly hq7;have hz7:=hq7.size)
      | (go_simp;go_at_call 108;refine (hm7.insE (x:=hd x2) rfl hhA.out hn5).mono ?_;rintro r' w8 ⟨A8,c8,rfl,s1,s2,hm8⟩)
      | fail)
    all_goals
     go_wp2_with fail
     go_meet
     exact ⟨_,hm8⟩
   case rest =>
    obtain ⟨v7,hm7⟩:=hcut
    have HM7:=zh hm7
    have b7:wc.cell? ⟨b,1,none⟩=some (.slice (some ⟨gu,0,none⟩) n cu):=by rw [Z1 hm7.box];rfl
    have HIN7:=zh (hm7.insN (r:=r) (z:=(i:Int)+1) rfl (show (A.map (·.b)).length=i by rw [<- HAI.out];simp) hn5)
    clear hm7 HLR k6 HM6 dw
    go_wp2_with fail
    refine HIN7.out.mono ?_
    rintro r' w9 ⟨A9,c9,rfl,s1,s2,hm9⟩
    have HR:Hid (Z8 (.returned (.bool true)) (w9.setCell ⟨b,1,none⟩ (.slice A9 (n+1) c9))):=by
     rw [<- Ze.out]
     refine Or.inr ⟨fun z=>HMEM.out (HGO.out.mem.1 z),rfl,hm9.only,?_⟩
     have:=Mid.done (ks:=A ++ ⟨x.b,G1,x1⟩ :: ⟨r,G2,x2⟩ :: B) (by
       rw [Z4t,Z76]
       exact hm9) (by simp;omega)
     rw [Z3p,Z5y] at this
     rw [HGO.out.ins,HALL.out]
     simp only [List.append_assoc] at this ⊢
     exact this
    clear hm9 HIN7 HM7 b7
    go_wp2
    exact HR.out
theorem Z9Z {ks:List Kid} (hk:∀ x ∈ ks,x.xs ≠ []):ks.length <= (flat ks).length:=by
 induction ks with
 | nil=>simp
 | cons x ks ih =>
  have h1:=List.length_pos_iff.2 (hk x (by simp))
  have h2:=ih (fun y hy=>hk y (by simp [hy]))
  rw [Z5y,List.length_append,List.length_cons]
  omega
theorem Zha (K:Nat->Prop) (h:Nat):Zjs K h:=by
 induction h with
 | zero =>
  intro w b F xs e ⟨v,hl⟩ hK he hs hn
  exact Zdy hl hK he hs hn
 | succ h ih =>
  intro w b F xs e hn hK he hs hl
  obtain ⟨v,u,ks,hi,rfl⟩:=hn.lim
  refine (Zcu ih hi (fun k hk=>hk.2) (fun k hk=>⟨fun x=>(hK k hk).1 x.1,(hK k hk).2⟩) he hs hl (Z9Z (fun x hx=>(hi.kid x hx).1))).mono ?_
  rintro r w' (⟨h1,h2,h3,h4⟩ | ⟨h1,h2,h3,h4⟩)
  ·exact Or.inl ⟨h1,h2,h3.mono (fun _ _ x=>x.1),h4.mono (fun k x=>x.imp (fun y=>y.1) id)⟩
  ·exact Or.inr ⟨h1,h2,h3.mono (fun _ _ x=>x.1),h4.mono (fun k x=>x.imp (fun y=>y.1) id)⟩
structure Z05 (w0 w:World) (D:Nat->Prop) (tb rb h:Nat) (F K:Nat->Prop) (xs:List EV) (cnt:Int):Prop where
 only:Z0 D w0 w
 box:w.heap[tb]?=some (.cells #[ptrV rb,.int .i64 cnt] 163 (0,0))
 node:Zi K h w rb F xs
 subF:∀ k,F k->(D k ∨ w0.heap.size <= k)/\k ≠ tb/\k < w.heap.size
 subK:∀ k,K k->(D k ∨ w0.heap.size <= k)/\¬ F k/\k ≠ tb/\k < w.heap.size
 own:D tb/\tb < w0.heap.size
def Z0x (w:World) (D:Nat->Prop) (tb:Nat) (es:List Ent):Prop:=∃ rb h F K xs,Z05 w w D tb rb h F K xs (xs.length:Int)/\ents xs=es/\ZS es
section
variable {w0 w w':World} {D:Nat->Prop} {tb rb h:Nat} {F K:Nat->Prop} {xs:List EV} {cnt:Int}
theorem Z05.quietly (hm:Z05 w0 w D tb rb h F K xs cnt) (hq:Quiet w w'):Z05 w0 w' D tb rb h F K xs cnt:=by
 have hz:=hq.size
 exact ⟨hm.only.trans' hq (fun _ _ x=>x.elim),hq.get hm.box (fun x=>x),Zi.kept hq (fun _ _ x=>x) hm.node (fun _ _ x=>x),fun k hk=>by have:=hm.subF k hk;exact ⟨this.1,this.2.1,by omega⟩,fun k hk=>by have:=hm.subK k hk;exact ⟨this.1,this.2.1,this.2.2.1,by omega⟩,hm.own⟩
theorem Z05.keys {K':Nat->Prop} (hm:Z05 w0 w D tb rb h F K xs cnt) (hk:∀ k,K k->K' k) (hn:∀ k,K' k->K k ∨ (w0.heap.size <= k/\k < w.heap.size/\¬ F k)):Z05 w0 w D tb rb h F K' xs cnt:=by
 refine ⟨hm.only,hm.box,Zi.keys hk hm.node,hm.subF,fun k x=>?_,hm.own⟩
 rcases hn k x with y | ⟨y,z,u⟩
 ·exact hm.subK k y
 ·exact ⟨Or.inr y,u,by have:=hm.own.2;omega,z⟩
theorem Z05.turn {rb' h':Nat} {F':Nat->Prop} {xs':List EV} (hm:Z05 w0 w D tb rb h F K xs cnt) (ho:Z0 F w w') (hn:Zi K h' w' rb' F' xs') (hF:∀ k,F' k->F k ∨ w.heap.size <= k) (hrb:rb'=rb):Z05 w0 w' D tb rb' h' (fun k=>F' k/\k < w'.heap.size) K xs' cnt:=by
 subst hrb
 have hz:=ho.size
 have hz0:=hm.only.size
 have htb:=Z2 hm.box
 refine ⟨hm.only.trans' ho (fun k hk x=>?_),ho.get hm.box (fun x=>(hm.subF tb x).2.1 rfl),hn.lim,fun k x=>?_,fun k x=>?_,hm.own⟩
 ·rcases (hm.subF k x).1 with y | y
  ·exact y
  ·omega
 ·rcases hF k x.1 with y | y
  ·exact ⟨(hm.subF k y).1,(hm.subF k y).2.1,x.2⟩
  ·exact ⟨Or.inr (by omega),by omega,x.2⟩
 ·have:=hm.subK k x
  refine ⟨this.1,fun y=>?_,this.2.2.1,by omega⟩
  rcases hF k y.1 with z | z
  ·exact this.2.1 z
  ·omega
theorem Z05.count (hm:Z05 w0 w D tb rb h F K xs cnt) (c:Int):Z05 w0 (w.setCell ⟨tb,1,none⟩ (.int .i64 c)) D tb rb h F K xs c:=by
 have ho:Z0 (·=tb) w (w.setCell ⟨tb,1,none⟩ (.int .i64 c)):=(Z0.refl (·=tb) w).setCell (p:=⟨tb,1,none⟩) (fun _=>rfl) _
 have hz:=ho.size
 exact ⟨hm.only.trans' ho (fun k _ e=>by rw [e];exact hm.own.1),by rw [Zg hm.box];rfl,Zi.kept ho (fun k hk e=>(hm.subK k hk).2.2.1 e) hm.node (fun k hk e=>(hm.subF k hk).2.1 e),fun k hk=>by have:=hm.subF k hk;exact ⟨this.1,this.2.1,by omega⟩,fun k hk=>by have:=hm.subK k hk;exact ⟨this.1,this.2.1,this.2.2.1,by omega⟩,hm.own⟩
theorem Z05.cells (hm:Z05 w0 w D tb rb h F K xs cnt):w.cell? ⟨tb,0,none⟩=some (ptrV rb)/\w.cell? ⟨tb,1,none⟩=some (.int .i64 cnt)/\∀ o,w.frozen? ⟨tb,o,none⟩=false :=
 ⟨by rw [Z1 hm.box];rfl,by rw [Z1 hm.box];rfl,fun o=>Z7 hm.box o⟩
theorem Z05.root {X:World} {r gl gk nb:Nat} {F1 F2:Nat->Prop} {x1 x2:List EV} (hm:Z05 w0 w D tb rb h F K xs cnt) (hc:Z9K K h w w' rb F xs r F1 F2 x1 x2) (hq:Quiet w' X)
  (hl:X.heap[gl]?=some (.cells #[.slice (hd x1).A (hd x1).e.key.length (hd x1).c,.int .i64 (hd x1).e.pg,.int .i64 (hd x1).e.sl,.slice (hd x2).A (hd x2).e.key.length (hd x2).c,.int .i64 (hd x2).e.pg,.int .i64 (hd x2).e.sl] 103 (0,0)))
  (hk:X.heap[gk]?=some (.cells #[ptrV rb,ptrV r] 157 (0,0)))
  (hn:X.heap[nb]?=some (.cells #[.slice (some ⟨gl,0,none⟩) 2 2,.slice (some ⟨gk,0,none⟩) 2 2] 161 (0,0))) (hgl:w'.heap.size <= gl) (hgk:w'.heap.size <= gk) (hnb:w'.heap.size <= nb) :
  ∃ F',Z05 w0 (X.setCell ⟨tb,0,none⟩ (ptrV nb)) D tb nb (h+1) F' K xs cnt:=by
 have hz:=hc.only.size
 have hzq:=hq.size
 have hz0:=hm.only.size
 have htb:=Z2 hm.box
 have ltl:=Z2 hl
 have ltk:=Z2 hk
 have ltn:=Z2 hn
 have h0:Z05 w0 w' D tb rb h (fun k=>F1 k/\k < w'.heap.size) K x1 cnt:=hm.turn hc.only hc.n1 hc.sub1 rfl
 have hs:Z0 (·=tb) X (X.setCell ⟨tb,0,none⟩ (ptrV nb)):=(Z0.refl (·=tb) X).setCell (p:=⟨tb,0,none⟩) (fun _=>rfl) _
 have hzs:=hs.size
 have htF:∀ k,(F1 k/\k < w'.heap.size) ∨ (F2 k/\k < w'.heap.size)->(D k ∨ w0.heap.size <= k)/\k ≠ tb/\k < w'.heap.size/\¬ K k:=by
  intro k x
  have key:(F k ∨ w.heap.size <= k)->(D k ∨ w0.heap.size <= k)/\k ≠ tb/\¬ K k:=fun y=>by
   rcases y with y | y
   ·exact ⟨(hm.subF k y).1,(hm.subF k y).2.1,fun z=>(hm.subK k z).2.1 y⟩
   ·exact ⟨Or.inr (by omega),by omega,fun z=>by have:=(hm.subK k z).2.2.2;omega⟩
  rcases x with x | x
  ·have:=key (hc.sub1 k x.1);exact ⟨this.1,this.2.1,x.2,this.2.2⟩
  ·have:=key (hc.sub2 k x.1);exact ⟨this.1,this.2.1,x.2,this.2.2⟩
 have hold:∀ k,K k->k < w'.heap.size/\k ≠ tb:=fun k x=>⟨by have:=(hm.subK k x).2.2.2;omega,(hm.subK k x).2.2.1⟩
 have keepN:∀ {b:Nat} {G:Nat->Prop} {ys:List EV},Zi K h w' b G ys->(∀ k,G k->k ≠ tb)->Zi K h (X.setCell ⟨tb,0,none⟩ (ptrV nb)) b G ys:=fun hnn hg =>
  Zi.kept hs (fun k x e=>(hold k x).2 e) (Zi.kept hq (fun _ _ x=>x) hnn (fun _ _ x=>x)) (fun k x e=>hg k x e)
 refine ⟨fun k=>k=nb ∨ k=gl ∨ k=gk ∨ (F1 k/\k < w'.heap.size) ∨ (F2 k/\k < w'.heap.size),⟨?_,?_,⟨.slice (some ⟨gl,0,none⟩) 2 2,.slice (some ⟨gk,0,none⟩) 2 2,[⟨rb,fun k=>F1 k/\k < w'.heap.size,x1⟩,⟨r,fun k=>F2 k/\k < w'.heap.size,x2⟩],⟨hs.get hn (by show ¬ nb=tb;omega),?_,?_,⟨gk,rfl⟩,by simp,?_,?_,?_,Or.inl rfl,fun k e=>?_,fun k e=>?_⟩,?_⟩,fun k x=>?_,fun k x=>?_,hm.own⟩⟩
 ·exact ((h0.only.trans' hq (fun _ _ x=>x.elim)).trans' hs (fun k _ e=>by rw [e];exact hm.own.1))
 ·rw [Zg (hq.get h0.box (fun x=>x))];rfl
 ·refine ⟨rfl,Or.inr ⟨gl,2,_,rfl,Nat.zero_le _,hs.get hl (by show ¬ gl=tb;omega),by simp,by simp [maxLen],rfl,rfl⟩⟩
 ·refine ⟨rfl,Or.inr ⟨gk,2,_,rfl,Nat.zero_le _,hs.get hk (by show ¬ gk=tb;omega),by simp,by simp [maxLen],rfl,rfl⟩⟩
 ·intro x hx
  simp at hx
  rcases hx with rfl | rfl
  ·exact ⟨hc.ne1,keepN hc.n1.lim (fun k y=>(htF k (Or.inl y)).2.1)⟩
  ·exact ⟨hc.ne2,keepN hc.n2.lim (fun k y=>(htF k (Or.inr y)).2.1)⟩
 ·intro x hx k y
  simp at hx
  have ne:k < w'.heap.size->k ≠ nb/\Value.ownBlock (.slice (some ⟨gl,0,none⟩) 2 2) ≠ some k/\Value.ownBlock (.slice (some ⟨gk,0,none⟩) 2 2) ≠ some k:=fun z =>
   ⟨by omega,fun e=>by have e2:gl=k:=Option.some.inj e;omega,fun e=>by have e2:gk=k:=Option.some.inj e;omega⟩
  rcases hx with rfl | rfl
  ·exact ⟨Or.inr (Or.inr (Or.inr (Or.inl y))),ne y.2⟩
  ·exact ⟨Or.inr (Or.inr (Or.inr (Or.inr y))),ne y.2⟩
 ·rw [List.pairwise_cons]
  refine ⟨fun y hy k hk hyk=>?_,by simp⟩
  simp at hy
  subst hy
  exact hc.apart k hk.1 hyk.1
 ·have e2:gl=k:=Option.some.inj e
  exact Or.inr (Or.inl e2.symm)
 ·have e2:gk=k:=Option.some.inj e
  exact Or.inr (Or.inr (Or.inl e2.symm))
 ·rw [hc.all];simp [flat]
 ·rcases x with x | x | x | x | x
  ·exact ⟨Or.inr (by omega),by omega,by omega⟩
  ·exact ⟨Or.inr (by omega),by omega,by omega⟩
  ·exact ⟨Or.inr (by omega),by omega,by omega⟩
  ·have:=htF k (Or.inl x);exact ⟨this.1,this.2.1,by omega⟩
  ·have:=htF k (Or.inr x);exact ⟨this.1,this.2.1,by omega⟩
 ·have h1:=hold k x
  refine ⟨(hm.subK k x).1,fun y=>?_,h1.2,by omega⟩
  rcases y with y | y | y | y | y
  ·omega
  ·omega
  ·omega
  ·exact (htF k (Or.inl y)).2.2.2 x
  ·exact (htF k (Or.inr y)).2.2.2 x
end
def Zcv (w:World) (D:Nat->Prop) (tb:Nat) (es:List Ent) (e:Ent) (r:Ending) (w':World):Prop :=
 (e ∈ es/\r=.returned (.int .i64 7)/\Z0 D w w'/\Z0x w' (fun k=>D k ∨ w.heap.size <= k) tb es) ∨
 (e ∉ es/\r=.returned (.int .i64 0)/\Z0 D w w'/\Z0x w' (fun k=>D k ∨ w.heap.size <= k) tb (insE e es))
theorem Z05.is {w0 w:World} {D:Nat->Prop} {tb rb h:Nat} {F K:Nat->Prop} {xs:List EV} {cnt:Int} (hm:Z05 w0 w D tb rb h F K xs cnt) (hc:cnt=(xs.length:Int)) (hr:ZS (ents xs)):Z0x w (fun k=>D k ∨ w0.heap.size <= k) tb (ents xs):=by
 subst hc
 have hz:=hm.only.size
 have:=hm.own
 exact ⟨rb,h,F,K,xs,⟨Z0.refl _ _,hm.box,hm.node,fun k x=>⟨Or.inl (hm.subF k x).1,(hm.subF k x).2⟩,fun k x=>⟨Or.inl (hm.subK k x).1,(hm.subK k x).2⟩,Or.inl this.1,by omega⟩,rfl,hr⟩
theorem Z4A (w:World) (a b c d e:Obj):((((((w.alloc a).alloc b).alloc c).alloc d).alloc e).heap[w.heap.size]?=some a)/\((((((w.alloc a).alloc b).alloc c).alloc d).alloc e).heap[w.heap.size+1]?=some b)/\((((((w.alloc a).alloc b).alloc c).alloc d).alloc e).heap[w.heap.size+1+1]?=some c)/\((((((w.alloc a).alloc b).alloc c).alloc d).alloc e).heap[w.heap.size+1+1+1]?=some d)/\((((((w.alloc a).alloc b).alloc c).alloc d).alloc e).heap[w.heap.size+1+1+1+1]?=some e):=by
 have h1:=Z4 w a
 have h2:=Z0y w a b
 have h3:=Z5x w a b c
 have h4:=Z5x (w.alloc a) b c d
 rw [World.size_alloc] at h4
 have h5:=Z5x ((w.alloc a).alloc b) c d e
 rw [World.size_alloc,World.size_alloc] at h5
 exact ⟨Zd (Zd (Zd (Zd h1 _) _) _) _,Zd (Zd (Zd h2 _) _) _,Zd (Zd h3 _) _,Zd h4 _,h5⟩
theorem Zdz (w:World) (D:Nat->Prop) (tb:Nat) (es:List Ent) (e:Ent) (A:Option Addr) (c:Nat) (S:Nat->Prop) (ht:Z0x w D tb es) (hr:Rd w S 1 A e.key.length (Z9 e.key)) (hby:∀ x ∈ e.key,x < 256) (hl:e.key.length <= 600) (hn:es.length <= 10000) :
  Calls Tryz.prog 34 #[ptrV tb,entV e A c] w (Zcv w D tb es e):=by
 obtain ⟨rb,h,F,K,xs,hm,hes,hris⟩:=ht
 subst hes
 have hxl:xs.length <= 10000:=by simpa using hn
 have hq0:Quiet w (w.alloc (.cells #[.slice A e.key.length c,.int .i64 e.pg,.int .i64 e.sl] 103)):=(Z0.refl _ _).alloc _
 have hm1:=hm.quietly hq0
 obtain ⟨c0,_,_⟩:=hm1.cells
 obtain ⟨t0,t1,t2⟩:=Z1N (Z4 w (.cells #[.slice A e.key.length c,.int .i64 e.pg,.int .i64 e.sl] 103))
 have HCO:=zh (Zfh e A c S _ (hr.kept hq0.drew (fun _ _ x=>x)) (by omega))
 have HBX:=zh (Z4 w (.cells #[.slice A e.key.length c,.int .i64 e.pg,.int .i64 e.sl] 103))
 have hzl:∀ k,F k->k < w.heap.size:=fun k x=>(hm.subF k x).2.2
 have HINS:Hid (∀ (w2:World) (A2:Option Addr) (c2:Nat),Quiet w w2->Rd w2 (fun k=>w.heap.size <= k/\k < w2.heap.size) 1 A2 e.key.length (Z9 e.key) →
     ∃ K',Z05 w w2 D tb rb h F K' xs (xs.length:Int)/\Calls Tryz.prog 71 #[ptrV rb,entV e A2 c2] w2 (Z42 K' h w2 rb F xs ⟨e,A2,c2⟩)):=by
  intro w2 A2 c2 hq hrd
  have hz:=hq.size
  have hm2:=(hm.quietly hq).keys (K':=fun k=>K k ∨ (w.heap.size <= k/\k < w2.heap.size)) (fun k x=>Or.inl x) (fun k x=>by
    rcases x with x | x
    · exact Or.inl x
    · exact Or.inr ⟨x.1,x.2,fun y=>by have:=hzl k y;omega⟩)
  refine ⟨_,hm2,Zha _ h w2 rb F xs ⟨e,A2,c2⟩ hm2.node (fun k x=>⟨(hm2.subK k x).2.1,(hm2.subK k x).2.2.2⟩) ⟨hrd.mono (fun k x=>Or.inr x),hby,by show e.key.length <= 1000;omega⟩ hris (by omega)⟩
 have HRI:=zh hris
 have HQ0:=zh hq0
 obtain ⟨Z8,Z6⟩:∃ Z8,Zcv w D tb (ents xs) e=Z8:=⟨_,rfl⟩
 rw [Z6]
 have Ze:=zh Z6
 have hzt:Hid (∀ k,F k->k < w.heap.size/\k ≠ tb):=fun k x=>⟨(hm.subF k x).2.2,(hm.subF k x).2.1⟩
 have d6:decide ((600:Int) < (e.key.length:Int))=false:=decide_eq_false (by omega)
 have htl:tb < w.heap.size:=hm.own.2
 clear hm hm1 hr hby hris hq0 Z6 hzl hn hl
 go_enter Tryz.func34,Tryz.ntmps34
 go_wp2_with fail
 go_region_held3 (fun w'=>w'.cell? ⟨tb,0,none⟩=some (ptrV rb)/\w'.cell? ⟨w.heap.size,0,none⟩=some (.slice A e.key.length c)/\w'.cell? ⟨w.heap.size,1,none⟩=some (.int .i64 e.pg)/\w'.cell? ⟨w.heap.size,2,none⟩=some (.int .i64 e.sl))
  (first | go_keep | fail)
  (first
    | (go_at_call 72;go_must (refine HCO.out.mono ?_;rintro r w2 ⟨A2,c2,rfl,hq2,hrd2⟩;have k0:=hq2.cell c0 (fun x=>x);have k1:=hq2.cell t0 (fun x=>x);have k2:=hq2.cell t1 (fun x=>x);have k3:=hq2.cell t2 (fun x=>x);obtain ⟨K',hm2,hin2⟩:=HINS.out w2 A2 c2 (HQ0.out.drew.trans hq2) (hrd2.mono (fun k x=>⟨by have:=HQ0.out.drew.size;omega,x.2⟩))))
    | (go_at_call 71;go_must (refine hin2.mono ?_;intro r w3 hp3;obtain ⟨ok,rfl,hp3⟩:∃ ok,r=.returned (.bool ok)/\Z42 K' h w2 rb F xs ⟨e,A2,c2⟩ (.returned (.bool ok)) w3:=(by rcases hp3 with ⟨a,rfl,b⟩ | ⟨a,rfl,b⟩;exact ⟨_,rfl,Or.inl ⟨a,rfl,b⟩⟩;exact ⟨_,rfl,Or.inr ⟨a,rfl,b⟩⟩);have ho3:Z0 F w2 w3:=(by rcases hp3 with ⟨_,_,b,_⟩ | ⟨_,_,b,_⟩ <;> exact b);have j0:=ho3.cell k0 (fun x=>(hzt.out _ x).2 rfl);have j1:=ho3.cell k1 (fun x=>absurd (hzt.out _ x).1 (Nat.lt_irrefl _));have j2:=ho3.cell k2 (fun x=>absurd (hzt.out _ x).1 (Nat.lt_irrefl _));have j3:=ho3.cell k3 (fun x=>absurd (hzt.out _ x).1 (Nat.lt_irrefl _))))
    | fail)
 have HP3:=zh hp3
 have HM2:=zh hm2
 have HO3:=zh ho3
 clear hp3 hm2 hin2 ho3 hq2 hrd2 k0 k1 k2 k3 c0 t0 t1 t2 j1 j2 j3 HCO HBX HINS HQ0 hzt
 rcases HP3.out with ⟨hmem,hr3,_,hn3⟩ | ⟨hmem,hr3,_,hn3⟩
 ·obtain rfl:ok=false:=by injection hr3 with hr3;injection hr3
  have hm3:=HM2.out.turn HO3.out hn3 (fun k x=>x) rfl
  have HR:Hid (Z8 (.returned (.int .i64 7)) w3):=by
   rw [<- Ze.out]
   exact Or.inl ⟨hmem,rfl,hm3.only,hm3.is rfl HRI.out⟩
  clear hm3 hn3 HP3 j0 HM2 HO3 hr3
  go_wp2
  exact HR.out
 ·obtain rfl:ok=true:=by injection hr3 with hr3;injection hr3
  have hm3:=HM2.out.turn HO3.out hn3 (fun k x=>x) rfl
  obtain ⟨F3,HM3⟩:∃ F3,Hid (Z05 w w3 D tb rb h F3 K' (Z14 ⟨e,A2,c2⟩ xs) (xs.length:Int)):=⟨_,hm3⟩
  have HMEM:=zh hmem
  obtain ⟨xs3,hxs3⟩:∃ xs3,Z14 ⟨e,A2,c2⟩ xs=xs3:=⟨_,rfl⟩
  rw [hxs3] at HM3
  have HX3:=zh hxs3
  have hx3l:xs3.length=xs.length+1:=by rw [<- hxs3,Z4a]
  obtain ⟨c0,c1,cf⟩:=HM3.out.cells
  have hm4:=HM3.out.count ((xs.length:Int)+1)
  have HM4:=zh hm4
  obtain ⟨d0,d1,df⟩:=hm4.cells
  have HSP:=zh (ZaS hm4.node (fun j hj hx=>(hm4.subK j hj).2.1 hx) (by omega))
  have HIS:Hid (ZS (ents xs3)/\ents xs3=insE e (ents xs)):=by
   have e1:ents xs3=insE e (ents xs):=by rw [<- hxs3];exact Zh0 _ _
   exact ⟨by rw [e1];exact HRI.out.ins hmem,e1⟩
  clear hm3 hn3 HP3 j0 HM2 HO3 hr3 hmem hxs3 hm4 HM3
  go_wp2_with fail
  refine HSP.out.mono ?_
  rintro r w6 (⟨rfl,rfl⟩ | ⟨r,F1,F2,x1,x2,rfl,hc6⟩)
  ·have HR:Hid (Z8 (.returned (.int .i64 0)) (w3.setCell ⟨tb,1,none⟩ (.int .i64 ((xs.length:Int)+1)))):=by
    rw [<- Ze.out]
    refine Or.inr ⟨HMEM.out,rfl,HM4.out.only,?_⟩
    rw [<- HIS.out.2]
    exact HM4.out.is (by omega) HIS.out.1
   clear HSP c0 c1 cf d0 d1 df HM4
   go_wp2
   exact HR.out
  ·have HC6:=zh hc6
   have k6:w6.cell? ⟨tb,0,none⟩=some (ptrV rb):=hc6.only.cell d0 (fun x=>(HM4.out.subF tb x).2.1 rfl)
   have hb6:=hc6.only.get HM4.out.box (fun x=>(HM4.out.subF tb x).2.1 rfl)
   have kf:∀ o,w6.frozen? ⟨tb,o,none⟩=false:=fun o=>Z7 hb6 o
   have ht6:tb < w6.heap.size:=Zf k6
   have n0:tb < w6.heap.size:=ht6
   have ka1:∀ o1,(w6.alloc o1).cell? ⟨tb,0,none⟩=some (ptrV rb):=fun o1=>((Z0.refl (fun _=>False) w6).alloc o1).cell k6 (fun x=>x)
   have ka2:∀ o1 o2,((w6.alloc o1).alloc o2).cell? ⟨tb,0,none⟩=some (ptrV rb):=fun o1 o2=>((Z0.refl (fun _=>False) _).alloc o2).cell (ka1 o1) (fun x=>x)
   have ka3:∀ o1 o2 o3,(((w6.alloc o1).alloc o2).alloc o3).cell? ⟨tb,0,none⟩=some (ptrV rb):=fun o1 o2 o3=>((Z0.refl (fun _=>False) _).alloc o3).cell (ka2 o1 o2) (fun x=>x)
   have ka4:∀ o1 o2 o3 o4,((((w6.alloc o1).alloc o2).alloc o3).alloc o4).cell? ⟨tb,0,none⟩=some (ptrV rb):=fun o1 o2 o3 o4=>((Z0.refl (fun _=>False) _).alloc o4).cell (ka3 o1 o2 o3) (fun x=>x)
   have ka5:∀ o1 o2 o3 o4 o5,(((((w6.alloc o1).alloc o2).alloc o3).alloc o4).alloc o5).cell? ⟨tb,0,none⟩=some (ptrV rb):=fun o1 o2 o3 o4 o5=>((Z0.refl (fun _=>False) _).alloc o5).cell (ka4 o1 o2 o3 o4) (fun x=>x)
   have fa5:∀ o1 o2 o3 o4 o5 o,(((((w6.alloc o1).alloc o2).alloc o3).alloc o4).alloc o5).frozen? ⟨tb,o,none⟩=false:=fun o1 o2 o3 o4 o5 o=>Z7 (Zd (Zd (Zd (Zd (Zd hb6 _) _) _) _) _) o
   have HL1:Hid (∀ W:World,Quiet w6 W->Calls Tryz.prog 74 #[ptrV rb] W fun e w'=>e=.returned (entV (hd x1).e (hd x1).A (hd x1).c)/\w'=W.alloc (.cells #[.slice (hd x1).A (hd x1).e.key.length (hd x1).c,.int .i64 (hd x1).e.pg,.int .i64 (hd x1).e.sl] 103)) :=
    fun W hq=>Z5J (Zi.kept hq (fun _ _ x=>x) hc6.n1 (fun _ _ x=>x)) hc6.ne1
   have HL2:Hid (∀ W:World,Quiet w6 W->Calls Tryz.prog 74 #[ptrV r] W fun e w'=>e=.returned (entV (hd x2).e (hd x2).A (hd x2).c)/\w'=W.alloc (.cells #[.slice (hd x2).A (hd x2).e.key.length (hd x2).c,.int .i64 (hd x2).e.pg,.int .i64 (hd x2).e.sl] 103)) :=
    fun W hq=>Z5J (Zi.kept hq (fun _ _ x=>x) hc6.n2 (fun _ _ x=>x)) hc6.ne2
   have Q0:Hid (Quiet w6 w6):=Z0.refl _ _
   clear hc6 hb6 HSP c0 c1 cf d0 d1 df
   go_upto_region 10 with fail
   go_cut [] (fun wx=>∃ nb F',Z05 w wx D tb nb (h+1) F' K' xs3 ((xs.length:Int)+1))
   case first =>
    go_region_law (first
      | (go_simp;go_at_call_of 74 (ptrV rb);refine (HL1.out _ (by first | exact Q0.out.drew | exact (Q0.out.alloc _).drew | exact ((Q0.out.alloc _).alloc _).drew | exact (((Q0.out.alloc _).alloc _).alloc _).drew)).mono ?_;rintro r' w7 ⟨rfl,rfl⟩)
      | (go_simp;go_at_call_of 74 (ptrV r);refine (HL2.out _ (by first | exact Q0.out.drew | exact (Q0.out.alloc _).drew | exact ((Q0.out.alloc _).alloc _).drew | exact (((Q0.out.alloc _).alloc _).alloc _).drew)).mono ?_;rintro r' w7 ⟨rfl,rfl⟩)
      | fail)
    all_goals
     go_wp2_with fail
     go_meet
     first
      | exact ⟨_,HM4.out.root HC6.out (((((Q0.out.alloc _).alloc _).alloc _).alloc _).alloc _).drew (Z4A w6 _ _ _ _ _).2.2.1 (Z4A w6 _ _ _ _ _).2.2.2.1 (Z4A w6 _ _ _ _ _).2.2.2.2 (by omega) (by omega) (by omega)⟩
      | exact ⟨_,HM4.out.root HC6.out (((((Q0.out.alloc _).alloc _).alloc _).alloc _).alloc _).drew (Z4A w6 _ _ _ _ _).2.2.2.1 (Z4A w6 _ _ _ _ _).1 (Z4A w6 _ _ _ _ _).2.2.2.2 (by omega) (by omega) (by omega)⟩
      | exact ⟨_,HM4.out.root HC6.out (((((Q0.out.alloc _).alloc _).alloc _).alloc _).alloc _).drew (Z4A w6 _ _ _ _ _).2.2.2.1 (Z4A w6 _ _ _ _ _).2.1 (Z4A w6 _ _ _ _ _).2.2.2.2 (by omega) (by omega) (by omega)⟩
      | exact ⟨_,HM4.out.root HC6.out (((((Q0.out.alloc _).alloc _).alloc _).alloc _).alloc _).drew (Z4A w6 _ _ _ _ _).2.2.2.1 (Z4A w6 _ _ _ _ _).2.2.1 (Z4A w6 _ _ _ _ _).2.2.2.2 (by omega) (by omega) (by omega)⟩
      | fail
   case rest =>
    obtain ⟨nb,F',hm7⟩:=hcut
    have HR:Hid (Z8 (.returned (.int .i64 0)) wc):=by
     rw [<- Ze.out]
     refine Or.inr ⟨HMEM.out,rfl,hm7.only,?_⟩
     rw [<- HIS.out.2]
     exact hm7.is (by omega) HIS.out.1
    clear hm7 HM4 HC6 HL1 HL2 k6 kf ka1 ka2 ka3 ka4 ka5 fa5
    go_wp2
    exact HR.out
section
variable {w0 w w':World} {v0 v:Value} {ys zs:List EV}
end
theorem Z0x.kept {w w':World} {D S:Nat->Prop} {tb:Nat} {es:List Ent} (h:Z0x w D tb es) (ho:Z0 S w w') (hn:∀ k,D k->¬ S k):Z0x w' D tb es:=by
 obtain ⟨rb,hh,F,K,xs,hm,e,hr⟩:=h
 have hz:=ho.size
 have hlt:=hm.own.2
 have hF:∀ k,F k->¬ S k:=fun k x y=>by
  rcases (hm.subF k x).1 with z | z
  ·exact hn k z y
  ·have:=(hm.subF k x).2.2;omega
 have hK:∀ k,K k->¬ S k:=fun k x y=>by
  rcases (hm.subK k x).1 with z | z
  ·exact hn k z y
  ·have:=(hm.subK k x).2.2.2;omega
 refine ⟨rb,hh,F,K,xs,⟨Z0.refl _ _,ho.get hm.box (hn tb hm.own.1),Zi.kept ho hK hm.node hF,fun k x=>?_,fun k x=>?_,hm.own.1,by omega⟩,e,hr⟩
 ·have:=hm.subF k x
  refine ⟨?_,this.2.1,by omega⟩
  rcases this.1 with z | z
  ·exact Or.inl z
  ·have:=this.2.2;omega
 ·have:=hm.subK k x
  refine ⟨?_,this.2.1,this.2.2.1,by omega⟩
  rcases this.1 with z | z
  ·exact Or.inl z
  ·have:=this.2.2.2;omega
theorem Z0x.mono {w:World} {D D':Nat->Prop} {tb:Nat} {es:List Ent} (h:Z0x w D tb es) (hd:∀ k,D k->k < w.heap.size->D' k):Z0x w D' tb es:=by
 obtain ⟨rb,hh,F,K,xs,hm,e,hr⟩:=h
 have hlt:=hm.own.2
 refine ⟨rb,hh,F,K,xs,⟨Z0.refl _ _,hm.box,hm.node,fun k x=>?_,fun k x=>?_,hd tb hm.own.1 hlt,hlt⟩,e,hr⟩
 ·have:=hm.subF k x
  refine ⟨?_,this.2⟩
  rcases this.1 with z | z
  ·exact Or.inl (hd k z this.2.2)
  ·have:=this.2.2;omega
 ·have:=hm.subK k x
  refine ⟨?_,this.2⟩
  rcases this.1 with z | z
  ·exact Or.inl (hd k z this.2.2.2)
  ·have:=this.2.2.2;omega
theorem ZiJ {w:World} {D:Nat->Prop} {tb:Nat} {es:List Ent} (ht:Z0x w D tb es) :
  Calls Tryz.prog 48 #[ptrV tb] w fun e w'=>e=.returned (.int .i64 (es.length:Int))/\w=w':=by
 obtain ⟨rb,h,F,K,xs,hm,e,hr⟩:=ht
 obtain ⟨_,c1,_⟩:=hm.cells
 have hl:es.length=xs.length:=by rw [<- e];simp
 rw [hl]
 clear hm hr e hl
 go_enter Tryz.func48,Tryz.ntmps48
 go_wp2
 go_ret
 exact ⟨rfl,rfl⟩
theorem Zcw {w w':World} (hq:Quiet w w') (h0:w'.heap[w.heap.size]?=some (.cells #[.slice none 0 0,.slice none 0 0] 161 (0,0))) (h1:w'.heap[w.heap.size+1]?=some (.cells #[ptrV w.heap.size,.int .i64 0] 163 (0,0))):Z0x w' (fun k=>w.heap.size <= k) (w.heap.size+1) []:=by
 have l1:=Z2 h1
 refine ⟨w.heap.size,0,fun k=>k=w.heap.size,fun _=>False,[],⟨Z0.refl _ _,h1,⟨_,h0,World.ownsRow_nil _ _ _ _,fun x hx=>by simp at hx,rfl,fun k e=>by cases e⟩,fun k e=>⟨Or.inl (by omega),by omega,by omega⟩,fun k e=>e.elim,by omega,l1⟩,rfl,ZS.nil⟩
section
variable {w W W':World} {J J':Nat->Prop} {tb:Nat} {es:List Ent}
end
theorem Z7K {w:World} {S:Nat->Prop} {size n:Nat} {A:Option Addr} {xs:List Value} (h:Rd w S size A n xs):Rd w (fun k=>S k/\k < w.heap.size) size A n xs :=
 ⟨h.len,fun h0=>by
   obtain ⟨b,off,e,hb,hc⟩:=h.cells h0
   exact ⟨b,off,e,⟨hb,by have:=Zf (hc 0 _ (zg h0));exact this⟩,hc⟩⟩
section
variable {w w':World} {F G:Nat->Prop}
theorem ZJ.lim {lb:Nat} {L:List Nat} (h:ZJ w F lb L):ZJ w (fun k=>F k/\k < w.heap.size) lb L:=by
 obtain ⟨v,h⟩:=h
 exact ⟨v,h.box,h.row,⟨⟨h.foot.1,Z2 h.box⟩,fun k e=>⟨h.foot.2 k e,(h.row.lt k e).2⟩⟩,h.st,h.most⟩
theorem Z1k.lim {tb:Nat} {e:TE} (h:Z1k w F tb e):Z1k w (fun k=>F k/\k < w.heap.size) tb e:=by
 obtain ⟨A,c,h1,h2,h3⟩:=h.ex
 obtain ⟨A',c',t1,t2⟩:=h.typ
 exact ⟨⟨A,c,h1,Z7K h2,h3⟩,⟨h.own,Z2 h1⟩,h.pos,h.num,A',c',t1,fun g e=>⟨⟨(t2 g e).1,by obtain ⟨cur,hh⟩:=(t2 g e).2;exact Z2 hh⟩,(t2 g e).2⟩⟩
theorem Z2f.lim {xb:Nat} {e:IE} (h:Z2f w F xb e):Z2f w (fun k=>F k/\k < w.heap.size) xb e:=⟨h.box,⟨h.own,Z2 h.box⟩,h.num⟩
theorem ZV.lim {bb last:Nat} {T:List TE} {I:List IE} (h:ZV w F bb T I last):ZV w (fun k=>F k/\k < w.heap.size) bb T I last:=by
 obtain ⟨vT,tps,vI,ips,h1,h2,h3⟩:=h
 exact ⟨vT,tps,vI,ips,⟨h1.box,h1.rowT,h1.rowI,fun i e hi=>by obtain ⟨p,a,b⟩:=h1.tbl i e hi;exact ⟨p,a,b.lim⟩,⟨⟨h1.foot.1,Z2 h1.box⟩,fun k e=>⟨h1.foot.2.1 k e,(h1.rowT.lt k e).2⟩,fun k e=>⟨h1.foot.2.2 k e,(h1.rowI.lt k e).2⟩⟩,h1.num⟩,h2,fun i e hi=>by obtain ⟨p,a,b⟩:=h3 i e hi;exact ⟨p,a,b.lim⟩⟩
theorem Z0I.lim {A:Option Addr} {c:Nat} {s:ZA} (h:Z0I w F A c s):Z0I w (fun k=>F k/\k < w.heap.size) A c s:=⟨Z7K h.row,h.cap,h.num⟩
end
structure St where
 L:List Nat
 T:List TE
 I:List IE
 blast:Nat
 left:Nat
 hs:Nat->Option (List (List (Option Tup)))
 ts:Nat->Option (List Ent)
 sn:Nat->Option ZA
 last:Nat
def Za0 (w:World) (pb:Nat) (o:Nat->Nat) (hs:Nat->Option (List (List (Option Tup)))) (fh:Nat->Option Value):Prop :=
 (∀ id,hs id=none->fh id=none)/\∀ id H,hs id=some H->∃ hb,fh id=some (ptrV hb)/\Zo w hb pb (fun k=>o k=10+2 * id) H
def Za1 (w:World) (o:Nat->Nat) (ts:Nat->Option (List Ent)) (ft:Nat->Option Value):Prop :=
 (∀ id,ts id=none->ft id=none)/\∀ id es,ts id=some es->∃ tb,ft id=some (ptrV tb)/\Z0x w (fun k=>o k=11+2 * id) tb es
def Z4S (w:World) (o:Nat->Nat) (sn:Nat->Option ZA) (fs:Nat->Option Value):Prop :=
 (∀ id,sn id=none->fs id=none)/\∀ id x,sn id=some x->∃ A c,fs id=some (Zm x A c)/\Z0I w (fun k=>o k=5) A c x
structure Zj (w:World) (sb:Nat) (o:Nat->Nat) (s:St) (lb bb pb mh mt ms:Nat) (fh ft fs:Nat->Option Value):Prop where
 box:w.heap[sb]?=some (.cells #[ptrV lb,ptrV bb,ptrV pb,.map (some mh),.map (some mt),.map (some ms),.int .u64 (s.last:Int)] 70 (0,0))
 log:ZJ w (fun k=>o k=2) lb s.L
 book:ZV w (fun k=>o k=3) bb s.T s.I s.blast
 pool:ZR w pb s.left
 mH:Z0f w mh fh
 mT:Z0f w mt ft
 mS:Z0f w ms fs
 tags:o sb=1/\o pb=4/\o mh=6/\o mt=7/\o ms=8
 big:∀ k,w.heap.size <= k->o k=0
 heaps:Za0 w pb o s.hs fh
 trees:Za1 w o s.ts ft
 snaps:Z4S w o s.sn fs
 num:U64 s.last
def Zn (w:World) (sb:Nat) (o:Nat->Nat) (s:St):Prop:=∃ lb bb pb mh mt ms fh ft fs,Zj w sb o s lb bb pb mh mt ms fh ft fs
def grow (o:Nat->Nat) (n m t:Nat) (k:Nat):Nat:=if n <= k/\k < m then t else o k
theorem Z0K {o:Nat->Nat} {n m t k:Nat} (h:k < n):grow o n m t k=o k:=if_neg (by omega)
theorem Z2w {o:Nat->Nat} {n m t k:Nat} (h:n <= k) (h2:k < m):grow o n m t k=t:=if_pos ⟨h,h2⟩
theorem Z3q {o:Nat->Nat} {n m t k:Nat} (hb:∀ k,n <= k->o k=0) (hm:n <= m) (h:m <= k):grow o n m t k=0:=by
 unfold grow
 rw [if_neg (by omega)]
 exact hb k (by omega)
def Z0J (o o':Nat->Nat):Prop:=∀ k,o k ≠ 0->o' k=o k
section
variable {w w':World} {S:Nat->Prop} {o o':Nat->Nat}
theorem Z0J.grow {n m t:Nat} (hb:∀ k,n <= k->o k=0):Z0J o (grow o n m t):=fun k hk=>Z0K (by
  rcases Nat.lt_or_ge k n with x | x
  · exact x
  · exact absurd (hb k x) hk)
theorem Z0J.refl:Z0J o o:=fun _ _=>rfl
theorem Z4B {lb t:Nat} {L:List Nat} (h:ZJ w (fun k=>o k=t) lb L) (ho:Z0 S w w') (hg:Z0J o o') (ht:t ≠ 0) (hn:∀ k,S k->o k ≠ t):ZJ w' (fun k=>o' k=t) lb L :=
 (h.kept ho (fun k hk x=>hn k x hk)).mono (fun k hk _=>by rw [hg k (by rw [hk];exact ht)];exact hk)
theorem Z3f {bb t last:Nat} {T:List TE} {I:List IE} (h:ZV w (fun k=>o k=t) bb T I last) (ho:Z0 S w w') (hg:Z0J o o') (ht:t ≠ 0) (hn:∀ k,S k->o k ≠ t):ZV w' (fun k=>o' k=t) bb T I last :=
 (h.kept ho (fun k hk x=>hn k x hk)).mono (fun k hk=>by rw [hg k (by rw [hk];exact ht)];exact hk)
theorem ZbH {hb pb t:Nat} {H:List (List (Option Tup))} (h:Zo w hb pb (fun k=>o k=t) H) (ho:Z0 S w w') (hg:Z0J o o') (ht:t ≠ 0) (hn:∀ k,S k->o k ≠ t):Zo w' hb pb (fun k=>o' k=t) H :=
 (h.kept ho (fun k hk x=>hn k x hk)).mono (fun k hk=>by rw [hg k (by rw [hk];exact ht)];exact hk)
theorem Zfi {A:Option Addr} {c t:Nat} {s:ZA} (h:Z0I w (fun k=>o k=t) A c s) (ho:Z0 S w w') (hg:Z0J o o') (ht:t ≠ 0) (hn:∀ k,S k->o k ≠ t):Z0I w' (fun k=>o' k=t) A c s :=
 (h.kept ho (fun k hk x=>hn k x hk)).mono (fun k hk=>by rw [hg k (by rw [hk];exact ht)];exact hk)
theorem ZbI {tb t:Nat} {es:List Ent} (h:Z0x w (fun k=>o k=t) tb es) (ho:Z0 S w w') (hg:Z0J o o') (ht:t ≠ 0) (hn:∀ k,S k->o k ≠ t):Z0x w' (fun k=>o' k=t) tb es :=
 (h.kept ho (fun k hk x=>hn k x hk)).mono (fun k hk _=>by rw [hg k (by rw [hk];exact ht)];exact hk)
theorem Z3I {pb:Nat} {hs:Nat->Option (List (List (Option Tup)))} {fh:Nat->Option Value} (h:Za0 w pb o hs fh) (ho:Z0 S w w') (hg:Z0J o o') (hn:∀ k,S k->∀ id H,hs id=some H->o k ≠ 10+2 * id):Za0 w' pb o' hs fh :=
 ⟨h.1,fun id H hi=>by obtain ⟨hb,e,h1⟩:=h.2 id H hi;exact ⟨hb,e,ZbH h1 ho hg (by omega) (fun k hk=>hn k hk id H hi)⟩⟩
theorem Z3J {ts:Nat->Option (List Ent)} {ft:Nat->Option Value} (h:Za1 w o ts ft) (ho:Z0 S w w') (hg:Z0J o o') (hn:∀ k,S k->∀ id es,ts id=some es->o k ≠ 11+2 * id):Za1 w' o' ts ft :=
 ⟨h.1,fun id es hi=>by obtain ⟨tb,e,h1⟩:=h.2 id es hi;exact ⟨tb,e,ZbI h1 ho hg (by omega) (fun k hk=>hn k hk id es hi)⟩⟩
theorem Z35 {sn:Nat->Option ZA} {fs:Nat->Option Value} (h:Z4S w o sn fs) (ho:Z0 S w w') (hg:Z0J o o') (hn:∀ k,S k->o k ≠ 5):Z4S w' o' sn fs :=
 ⟨h.1,fun id x hi=>by obtain ⟨A,c,e,h1⟩:=h.2 id x hi;exact ⟨A,c,e,Zfi h1 ho hg (by omega) hn⟩⟩
end
section
variable {w w':World} {sb:Nat} {o:Nat->Nat} {s:St} {lb bb pb mh mt ms:Nat} {fh ft fs:Nat->Option Value}
theorem Zj.cells (h:Zj w sb o s lb bb pb mh mt ms fh ft fs):w.cell? ⟨sb,0,none⟩=some (ptrV lb)/\w.cell? ⟨sb,1,none⟩=some (ptrV bb)/\w.cell? ⟨sb,2,none⟩=some (ptrV pb)/\w.cell? ⟨sb,3,none⟩=some (.map (some mh))/\w.cell? ⟨sb,4,none⟩=some (.map (some mt))/\w.cell? ⟨sb,5,none⟩=some (.map (some ms))/\w.cell? ⟨sb,6,none⟩=some (.int .u64 (s.last:Int)) :=
 ⟨by rw [Z1 h.box];rfl,by rw [Z1 h.box];rfl,by rw [Z1 h.box];rfl,by rw [Z1 h.box];rfl,by rw [Z1 h.box];rfl,by rw [Z1 h.box];rfl,by rw [Z1 h.box];rfl⟩
theorem Zj.kept {S:Nat->Prop} (h:Zj w sb o s lb bb pb mh mt ms fh ft fs) (ho:Z0 S w w') (hn:∀ k,S k->o k=0):Zj w' sb o s lb bb pb mh mt ms fh ft fs:=by
 obtain ⟨t1,t2,t3,t4,t5⟩:=h.tags
 exact ⟨ho.get h.box (fun x=>by have:=hn _ x;omega),Z4B h.log ho .refl (by omega) (fun k x=>by have:=hn _ x;omega),Z3f h.book ho .refl (by omega) (fun k x=>by have:=hn _ x;omega),h.pool.kept ho (fun x=>by have:=hn _ x;omega),
   h.mH.kept ho (fun x=>by have:=hn _ x;omega),h.mT.kept ho (fun x=>by have:=hn _ x;omega),h.mS.kept ho (fun x=>by have:=hn _ x;omega),h.tags,fun k hk=>h.big k (Nat.le_trans ho.size hk),
   Z3I h.heaps ho .refl (fun k x id H _=>by have:=hn _ x;omega),Z3J h.trees ho .refl (fun k x id es _=>by have:=hn _ x;omega),Z35 h.snaps ho .refl (fun k x=>by have:=hn _ x;omega),h.num⟩
theorem Zj.quietly (h:Zj w sb o s lb bb pb mh mt ms fh ft fs) (hq:Quiet w w'):Zj w' sb o s lb bb pb mh mt ms fh ft fs:=h.kept hq (fun _ x=>x.elim)
theorem Zn.quietly (h:Zn w sb o s) (hq:Quiet w w'):Zn w' sb o s:=by
 obtain ⟨lb,bb,pb,mh,mt,ms,fh,ft,fs,h⟩:=h
 exact ⟨lb,bb,pb,mh,mt,ms,fh,ft,fs,h.quietly hq⟩
theorem Zn.kept {S:Nat->Prop} (h:Zn w sb o s) (ho:Z0 S w w') (hn:∀ k,S k->o k=0):Zn w' sb o s:=by
 obtain ⟨lb,bb,pb,mh,mt,ms,fh,ft,fs,h⟩:=h
 exact ⟨lb,bb,pb,mh,mt,ms,fh,ft,fs,h.kept ho hn⟩
theorem Zj.setLog {L':List Nat} (h:Zj w sb o s lb bb pb mh mt ms fh ft fs) (ho:Z0 (fun k=>o k=2) w w') (hl:ZJ w' (fun k=>o k=2 ∨ w.heap.size <= k) lb L'):Zj w' sb (grow o w.heap.size w'.heap.size 2) { s with L:=L' } lb bb pb mh mt ms fh ft fs:=by
 obtain ⟨t1,t2,t3,t4,t5⟩:=h.tags
 have hg:Z0J o (grow o w.heap.size w'.heap.size 2):=Z0J.grow h.big
 exact ⟨ho.get h.box (fun x=>by omega),hl.mono (fun k hk hl=>by rcases hk with x | x;rw [hg k (by omega)];exact x;exact Z2w x hl),Z3f h.book ho hg (by omega) (fun k x=>by omega),h.pool.kept ho (fun x=>by omega),
   h.mH.kept ho (fun x=>by omega),h.mT.kept ho (fun x=>by omega),h.mS.kept ho (fun x=>by omega),⟨by rw [hg _ (by omega)];exact t1,by rw [hg _ (by omega)];exact t2,by rw [hg _ (by omega)];exact t3,by rw [hg _ (by omega)];exact t4,by rw [hg _ (by omega)];exact t5⟩,fun k hk=>Z3q h.big ho.size hk,
   Z3I h.heaps ho hg (fun k x id H _=>by omega),Z3J h.trees ho hg (fun k x id es _=>by omega),Z35 h.snaps ho hg (fun k x=>by omega),h.num⟩
theorem Zj.setBook {T':List TE} {I':List IE} {last':Nat} (h:Zj w sb o s lb bb pb mh mt ms fh ft fs) (ho:Z0 (fun k=>o k=3) w w') (hl:ZV w' (fun k=>o k=3 ∨ w.heap.size <= k) bb T' I' last'):Zj w' sb (grow o w.heap.size w'.heap.size 3) { s with T:=T',I:=I',blast:=last' } lb bb pb mh mt ms fh ft fs:=by
 obtain ⟨t1,t2,t3,t4,t5⟩:=h.tags
 have hg:Z0J o (grow o w.heap.size w'.heap.size 3):=Z0J.grow h.big
 exact ⟨ho.get h.box (fun x=>by omega),Z4B h.log ho hg (by omega) (fun k x=>by omega),hl.lim.mono (fun k hk=>by rcases hk.1 with x | x;rw [hg k (by omega)];exact x;exact Z2w x hk.2),h.pool.kept ho (fun x=>by omega),
   h.mH.kept ho (fun x=>by omega),h.mT.kept ho (fun x=>by omega),h.mS.kept ho (fun x=>by omega),⟨by rw [hg _ (by omega)];exact t1,by rw [hg _ (by omega)];exact t2,by rw [hg _ (by omega)];exact t3,by rw [hg _ (by omega)];exact t4,by rw [hg _ (by omega)];exact t5⟩,fun k hk=>Z3q h.big ho.size hk,
   Z3I h.heaps ho hg (fun k x id H _=>by omega),Z3J h.trees ho hg (fun k x id es _=>by omega),Z35 h.snaps ho hg (fun k x=>by omega),h.num⟩
theorem Zj.setHeap {id hb left':Nat} {H':List (List (Option Tup))} (h:Zj w sb o s lb bb pb mh mt ms fh ft fs) (hid:fh id=some (ptrV hb)) (ho:Z0 (fun k=>o k=10+2 * id ∨ k=pb) w w') (hp:ZR w' pb left') (hl:Zo w' hb pb (fun k=>o k=10+2 * id ∨ w.heap.size <= k) H') :
  Zj w' sb (grow o w.heap.size w'.heap.size (10+2 * id)) { s with left:=left',hs:=upd s.hs id (some H') } lb bb pb mh mt ms fh ft fs:=by
 obtain ⟨t1,t2,t3,t4,t5⟩:=h.tags
 have hg:Z0J o (grow o w.heap.size w'.heap.size (10+2 * id)):=Z0J.grow h.big
 have hn:∀ k,(o k=10+2 * id ∨ k=pb)->o k=10+2 * id ∨ o k=4:=fun k x=>by rcases x with x | x;exact Or.inl x;rw [x];exact Or.inr t2
 refine ⟨ho.get h.box (fun x=>by have:=hn _ x;omega),Z4B h.log ho hg (by omega) (fun k x=>by have:=hn _ x;omega),Z3f h.book ho hg (by omega) (fun k x=>by have:=hn _ x;omega),hp,
   h.mH.kept ho (fun x=>by have:=hn _ x;omega),h.mT.kept ho (fun x=>by have:=hn _ x;omega),h.mS.kept ho (fun x=>by have:=hn _ x;omega),⟨by rw [hg _ (by omega)];exact t1,by rw [hg _ (by omega)];exact t2,by rw [hg _ (by omega)];exact t3,by rw [hg _ (by omega)];exact t4,by rw [hg _ (by omega)];exact t5⟩,fun k hk=>Z3q h.big ho.size hk,
   ⟨fun i hi=>?_,fun i H hi=>?_⟩,Z3J h.trees ho hg (fun k x i es _=>by have:=hn _ x;omega),Z35 h.snaps ho hg (fun k x=>by have:=hn _ x;omega),h.num⟩
 ·by_cases e:i=id
  ·subst e;simp [upd] at hi
  ·exact h.heaps.1 i (by simpa [upd,e] using hi)
 ·by_cases e:i=id
  ·subst e
   have:H'=H:=by simpa [upd] using hi
   subst this
   exact ⟨hb,hid,hl.lim.mono (fun k hk=>by rcases hk.1 with x | x;rw [hg k (by omega)];exact x;exact Z2w x hk.2)⟩
  ·obtain ⟨hb2,e2,h2⟩:=h.heaps.2 i H (by simpa [upd,e] using hi)
   exact ⟨hb2,e2,ZbH h2 ho hg (by omega) (fun k x=>by have:=hn _ x;omega)⟩
theorem Zj.newHeap {id hb B:Nat} {H':List (List (Option Tup))} (h:Zj w sb o s lb bb pb mh mt ms fh ft fs) (hB:∀ k,B <= k->o k=0) (hBw:B <= w.heap.size) (hid:s.hs id=none) (ho:Z0 (fun k=>k=mh) w w') (hm:Z0f w' mh (upd fh id (some (ptrV hb)))) (hl:Zo w' hb pb (fun k=>B <= k) H') :
  Zj w' sb (grow o B w'.heap.size (10+2 * id)) { s with hs:=upd s.hs id (some H') } lb bb pb mh mt ms (upd fh id (some (ptrV hb))) ft fs:=by
 obtain ⟨t1,t2,t3,t4,t5⟩:=h.tags
 have hg:Z0J o (grow o B w'.heap.size (10+2 * id)):=Z0J.grow hB
 have hn:∀ k,k=mh->o k=6:=fun k x=>by rw [x];exact t3
 refine ⟨ho.get h.box (fun x=>by have:=hn _ x;omega),Z4B h.log ho hg (by omega) (fun k x=>by have:=hn _ x;omega),Z3f h.book ho hg (by omega) (fun k x=>by have:=hn _ x;omega),h.pool.kept ho (fun x=>by have:=hn _ x;omega),
   hm,h.mT.kept ho (fun x=>by have:=hn _ x;omega),h.mS.kept ho (fun x=>by have:=hn _ x;omega),⟨by rw [hg _ (by omega)];exact t1,by rw [hg _ (by omega)];exact t2,by rw [hg _ (by omega)];exact t3,by rw [hg _ (by omega)];exact t4,by rw [hg _ (by omega)];exact t5⟩,fun k hk=>Z3q hB (Nat.le_trans hBw ho.size) hk,
   ⟨fun i hi=>?_,fun i H hi=>?_⟩,Z3J h.trees ho hg (fun k x i es _=>by have:=hn _ x;omega),Z35 h.snaps ho hg (fun k x=>by have:=hn _ x;omega),h.num⟩
 ·by_cases e:i=id
  ·subst e;simp [upd] at hi
  ·have:=h.heaps.1 i (by simpa [upd,e] using hi)
   simpa [upd,e] using this
 ·by_cases e:i=id
  ·subst e
   have:H'=H:=by simpa [upd] using hi
   subst this
   exact ⟨hb,by simp [upd],hl.lim.mono (fun k hk=>Z2w hk.1 hk.2)⟩
  ·obtain ⟨hb2,e2,h2⟩:=h.heaps.2 i H (by simpa [upd,e] using hi)
   exact ⟨hb2,by simpa [upd,e] using e2,ZbH h2 ho hg (by omega) (fun k x=>by have:=hn _ x;omega)⟩
theorem Zj.putSnap {id B c:Nat} {A:Option Addr} {x:ZA} (h:Zj w sb o s lb bb pb mh mt ms fh ft fs) (hB:∀ k,B <= k->o k=0) (hBw:B <= w.heap.size) (ho:Z0 (fun k=>k=ms) w w') (hm:Z0f w' ms (upd fs id (some (Zm x A c)))) (hl:Z0I w' (fun k=>B <= k) A c x) :
  Zj w' sb (grow o B w'.heap.size 5) { s with sn:=upd s.sn id (some x) } lb bb pb mh mt ms fh ft (upd fs id (some (Zm x A c))):=by
 obtain ⟨t1,t2,t3,t4,t5⟩:=h.tags
 have hg:Z0J o (grow o B w'.heap.size 5):=Z0J.grow hB
 have hn:∀ k,k=ms->o k=8:=fun k x=>by rw [x];exact t5
 refine ⟨ho.get h.box (fun x=>by have:=hn _ x;omega),Z4B h.log ho hg (by omega) (fun k x=>by have:=hn _ x;omega),Z3f h.book ho hg (by omega) (fun k x=>by have:=hn _ x;omega),h.pool.kept ho (fun x=>by have:=hn _ x;omega),
   h.mH.kept ho (fun x=>by have:=hn _ x;omega),h.mT.kept ho (fun x=>by have:=hn _ x;omega),hm,⟨by rw [hg _ (by omega)];exact t1,by rw [hg _ (by omega)];exact t2,by rw [hg _ (by omega)];exact t3,by rw [hg _ (by omega)];exact t4,by rw [hg _ (by omega)];exact t5⟩,fun k hk=>Z3q hB (Nat.le_trans hBw ho.size) hk,
   Z3I h.heaps ho hg (fun k x i H _=>by have:=hn _ x;omega),Z3J h.trees ho hg (fun k x i es _=>by have:=hn _ x;omega),⟨fun i hi=>?_,fun i y hi=>?_⟩,h.num⟩
 ·by_cases e:i=id
  ·subst e;simp [upd] at hi
  ·have:=h.snaps.1 i (by simpa [upd,e] using hi)
   simpa [upd,e] using this
 ·by_cases e:i=id
  ·subst e
   have:x=y:=by simpa [upd] using hi
   subst this
   exact ⟨A,c,by simp [upd],hl.lim.mono (fun k hk=>Z2w hk.1 hk.2)⟩
  ·obtain ⟨A2,c2,e2,h2⟩:=h.snaps.2 i y (by simpa [upd,e] using hi)
   exact ⟨A2,c2,by simpa [upd,e] using e2,Zfi h2 ho hg (by omega) (fun k x=>by have:=hn _ x;omega)⟩
theorem Zj.delSnap {id:Nat} (h:Zj w sb o s lb bb pb mh mt ms fh ft fs) (ho:Z0 (fun k=>k=ms) w w') (hm:Z0f w' ms (upd fs id none)) :
  Zj w' sb o { s with sn:=upd s.sn id none } lb bb pb mh mt ms fh ft (upd fs id none):=by
 obtain ⟨t1,t2,t3,t4,t5⟩:=h.tags
 have hn:∀ k,k=ms->o k=8:=fun k x=>by rw [x];exact t5
 refine ⟨ho.get h.box (fun x=>by have:=hn _ x;omega),Z4B h.log ho .refl (by omega) (fun k x=>by have:=hn _ x;omega),Z3f h.book ho .refl (by omega) (fun k x=>by have:=hn _ x;omega),h.pool.kept ho (fun x=>by have:=hn _ x;omega),
   h.mH.kept ho (fun x=>by have:=hn _ x;omega),h.mT.kept ho (fun x=>by have:=hn _ x;omega),hm,h.tags,fun k hk=>h.big k (Nat.le_trans ho.size hk),
   Z3I h.heaps ho .refl (fun k x i H _=>by have:=hn _ x;omega),Z3J h.trees ho .refl (fun k x i es _=>by have:=hn _ x;omega),⟨fun i hi=>?_,fun i y hi=>?_⟩,h.num⟩
 ·by_cases e:i=id
  ·subst e;simp [upd]
  ·have:=h.snaps.1 i (by simpa [upd,e] using hi)
   simpa [upd,e] using this
 ·by_cases e:i=id
  ·subst e;simp [upd] at hi
  ·obtain ⟨A2,c2,e2,h2⟩:=h.snaps.2 i y (by simpa [upd,e] using hi)
   exact ⟨A2,c2,by simpa [upd,e] using e2,Zfi h2 ho .refl (by omega) (fun k x=>by have:=hn _ x;omega)⟩
theorem Zj.setLast {z:Int} {n:Nat} (h:Zj w sb o s lb bb pb mh mt ms fh ft fs) (hz:z=n) (hn:U64 n):Zj (w.setCell ⟨sb,6,none⟩ (.int .u64 z)) sb o { s with last:=n } lb bb pb mh mt ms fh ft fs:=by
 subst hz
 obtain ⟨t1,t2,t3,t4,t5⟩:=h.tags
 have ho:Z0 (fun k=>k=sb) w (w.setCell ⟨sb,6,none⟩ (.int .u64 (n:Int))):=(Z0.refl (fun k=>k=sb) w).setCell (p:=⟨sb,6,none⟩) (fun _=>rfl) _
 have hn':∀ k,k=sb->o k=1:=fun k x=>by rw [x];exact t1
 exact ⟨Zg h.box 6 _,Z4B h.log ho .refl (by omega) (fun k x=>by have:=hn' _ x;omega),Z3f h.book ho .refl (by omega) (fun k x=>by have:=hn' _ x;omega),h.pool.kept ho (fun x=>by have:=hn' _ x;omega),
   h.mH.kept ho (fun x=>by have:=hn' _ x;omega),h.mT.kept ho (fun x=>by have:=hn' _ x;omega),h.mS.kept ho (fun x=>by have:=hn' _ x;omega),h.tags,fun k hk=>h.big k (Nat.le_trans ho.size hk),
   Z3I h.heaps ho .refl (fun k x i H _=>by have:=hn' _ x;omega),Z3J h.trees ho .refl (fun k x i es _=>by have:=hn' _ x;omega),Z35 h.snaps ho .refl (fun k x=>by have:=hn' _ x;omega),hn⟩
end
end Go.Proofs.YtobhgnjblniphaaGreatDoor
namespace Go.Proofs.YtobhgnjblniphaaGreatDoor
open Go.RowKit Go.Lap Go.Maps
structure Z1u (s:St) (hz:Nat):Prop where
 none_:(∀ x,s.sn x=none)->hz=s.L.length+1
 some_:(∃ x y,s.sn x=some y)->∃ x y,s.sn x=some y/\hz=y.xmin
 least:∀ x y,s.sn x=some y->hz <= y.xmin
 num:U64 hz
def Z5a (w:World) (s:St) (e:Ending) (w':World):Prop:=∃ hz:Nat,e=.returned (.int .u64 (hz:Int))/\Z1u s hz/\Quiet w w'
theorem Z8s {p:SnapP} {y:ZA} {A:Option Addr} {c:Nat} (h:encP p=Zm y A c):p.1.xmin=y.xmin:=by
 have h':(#[Value.int .u64 (p.1.own:Int),.int .u64 (p.1.xmin:Int),.int .u64 (p.1.xmax:Int),.slice p.2.1 p.1.run.length p.2.2]:Array Value)=#[.int .u64 (y.own:Int),.int .u64 (y.xmin:Int),.int .u64 (y.xmax:Int),.slice A y.run.length c]:=by injection h
 have h2:=congrArg (fun a:Array Value=>a[1]?) h'
 simp at h2
 omega
theorem ZiK {w:World} {o:Nat->Nat} {s:St} {fs:Nat->Option Value} {ps:List SnapP} {hz:Nat} (h:Z4S w o s.sn fs) (hv:Z7r fs (ps.map encP)) (hh:Z2e (s.L.length+1) ps hz) (hu:U64 hz):Z1u s hz:=by
 have back:∀ p ∈ ps,∃ x y,s.sn x=some y/\p.1.xmin=y.xmin:=fun p hp=>by
  obtain ⟨x,hx⟩:=hv.each (encP p) (List.mem_map_of_mem hp)
  cases hs:s.sn x with
  | none=>rw [h.1 x hs] at hx;cases hx
  | some y =>
   obtain ⟨A,c,e,_⟩:=h.2 x y hs
   rw [e] at hx
   injection hx with hx
   exact ⟨x,y,hs,Z8s hx.symm⟩
 have forth:∀ x y,s.sn x=some y->∃ p ∈ ps,p.1.xmin=y.xmin:=fun x y hs=>by
  obtain ⟨A,c,e,_⟩:=h.2 x y hs
  obtain ⟨p,hp,hpe⟩:=List.mem_map.1 (hv.all x _ e)
  exact ⟨p,hp,Z8s hpe⟩
 refine ⟨fun hn=>hh.none_ ?_,fun ⟨x,y,hs⟩=>?_,fun x y hs=>?_,hu⟩
 ·rcases ps with _ | ⟨p,ps⟩
  ·rfl
  ·obtain ⟨x,y,hs,_⟩:=back p (List.mem_cons_self ..)
   rw [hn x] at hs
   cases hs
 ·obtain ⟨p,hp,_⟩:=forth x y hs
  obtain ⟨q,hq,e⟩:=hh.some_ (fun e=>by rw [e] at hp;cases hp)
  obtain ⟨x',y',h1,h2⟩:=back q hq
  exact ⟨x',y',h1,e.trans h2⟩
 ·obtain ⟨p,hp,e⟩:=forth x y hs
  rw [<- e]
  exact hh.least p hp
theorem Zhb (ms:Nat) (w:World):Calls Tryz.prog 65 #[.map (some ms)] w fun e w'=>e=.returned (.func (.func 101) #[] #[.pointer (some ⟨w.heap.size,0,none⟩)])/\Quiet w w'/\w'.heap[w.heap.size]?=some (.cells #[.map (some ms)] 68 (0,0)):=by
 go_enter Tryz.func65,Tryz.ntmps65
 go_wp2
 go_ret
 exact ⟨rfl,(Z0.refl _ _).alloc _,Z4 _ _⟩
theorem Zfj {w:World} {o:Nat->Nat} {sn:Nat->Option ZA} {ms Bm N:Nat} {fs:Nat->Option Value} (hm:Z0f w ms fs) (hs:Z4S w o sn fs) (hN:∀ x y,sn x=some y->x <= N) (hN2:N <= 2000000) (hB:w.heap[Bm]?=some (.cells #[.map (some ms)] 68 (0,0))) :
  ∃ M,M <= N+1/\SeqGives Fence.wide 4 Tryz.prog 101 #[.pointer (some ⟨Bm,0,none⟩)] encP (fun ps=>Z7r fs (ps.map encP)/\ps.length <= M) M w:=by
 have hx:∀ x v,fs x=some v->∃ y A c,sn x=some y/\v=Zm y A c:=fun x v h=>by
  cases e:sn x with
  | none=>rw [hs.1 x e] at h;cases h
  | some y =>
   obtain ⟨A,c,e2,_⟩:=hs.2 x y e
   rw [e2] at h
   injection h with h
   exact ⟨y,A,c,rfl,h.symm⟩
 obtain ⟨D,h1,h2,h3,h4⟩:=hm.owns Tryz.underlying34 (N:=N) (fun x v h=>by obtain ⟨y,A,c,e,_⟩:=hx x v h;exact hN x y e) (by unfold maxLen;omega)
 refine ⟨Maps.size D,h2,fun l J W hW hJ hY h0=>?_⟩
 have hown':W.ownsMap Tryz.prog 34 Z3d ms (N+1) D:=by
  have hbl:=h1.lt
  obtain ⟨es,clock,hb,Ft,hs',hD⟩:=h1
  exact ⟨es,clock,(hW.block ms hbl).trans hb,Ft,hs',hD⟩
 have hb2:W.heap[Bm]?=some (.cells #[.map (some ms)] 68 (0,0)):=(hW.block Bm (Z2 hB)).trans hB
 exact ZjP Fence.wide 4 trivial rfl (by omega) l Bm ms (N+1) D fs h3 h4 (fun x v h=>by obtain ⟨y,A,c,_,e⟩:=hx x v h;exact ⟨(y,A,c),e⟩) J hY W hJ (by rw [Z1 hb2];rfl) hown' h0
def ZiL (w:World) (fs:Nat->Option Value) (N:Nat) (e:Ending) (w':World):Prop :=
 ∃ A c,∃ ps:List SnapP,e=.returned (.slice A ps.length c)/\Z7r fs (ps.map encP)/\ps.length <= N/\Quiet w w'/\Rd w' (fun _=>True) 4 A ps.length (ps.flatMap cellsP)
theorem Zcx {w:World} {o:Nat->Nat} {sn:Nat->Option ZA} {ms Bm N:Nat} {fs:Nat->Option Value} (hm:Z0f w ms fs) (hs:Z4S w o sn fs) (hN:∀ x y,sn x=some y->x <= N) (hN2:N <= 2000000) (hB:w.heap[Bm]?=some (.cells #[.map (some ms)] 68 (0,0))) :
  Calls Tryz.prog 64 #[.func (.func 101) #[] #[.pointer (some ⟨Bm,0,none⟩)]] w (ZiL w fs (N+1)):=by
 obtain ⟨M,hM,hg⟩:=Zfj hm hs hN hN2 hB
 have eg:∀ args w,(callFunc 101 args).run Tryz.prog w=.ok (.enter 101 args) w:=enters_of Tryz.func101 (by kernel_rfl) rfl
 refine (callsIn_wide.1 (Zf6 Fence.wide 6 trivial trivial rfl (by omega) 101 #[.pointer (some ⟨Bm,0,none⟩)] trivial eg _ M (by unfold maxLen;omega) (by omega) w hg)).mono ?_
 rintro e w' ⟨v,ps,rfl,⟨hv,hl⟩,hrow,_,hb⟩
 obtain ⟨A,c,rfl,_,_,hrd⟩:=Za (ownsRow_base_a hrow (Nat.zero_le _))
 exact ⟨A,c,ps,rfl,hv,by omega,⟨hb.os,hb.tape,hb.output,hb.size,fun k hk _=>hb.block k hk⟩,hrd.mono (fun _ _=>trivial)⟩
theorem Z3g {w:World} {sb N:Nat} {o:Nat->Nat} {s:St} (h:Zn w sb o s) (hL:s.L.length < 1000000000) (hN:∀ x y,s.sn x=some y->x <= N) (hN2:N <= 2000000) :
  Calls Tryz.prog 30 #[ptrV sb] w (Z5a w s):=by
 obtain ⟨lb,bb,pb,mh,mt,ms,fh,ft,fs,h⟩:=h
 have HH:=zh h
 have HN:=zh (And.intro hN (And.intro hN2 hL))
 have HS3:Hid (∀ W,Quiet w W->(fun w'=>w'.cell? ⟨sb,0,none⟩=some (ptrV lb)/\w'.cell? ⟨sb,5,none⟩=some (.map (some ms))) W):=fun W hq=>by
  have c:=(HH.out.quietly hq).cells
  exact ⟨c.1,c.2.2.2.2.2.1⟩
 obtain ⟨Z8,Z6⟩:∃ Z8,Z5a w s=Z8:=⟨_,rfl⟩
 rw [Z6]
 have Ze:=zh Z6
 clear h hL hN hN2 Z6
 go_enter Tryz.func30,Tryz.ntmps30
 go_wp2_with fail
 refine zH HS3 ((Z0.refl _ _).drew) (fun Z3=>?_)
 have q0:Quiet w w.drew:=(Z0.refl _ _).drew
 generalize w.drew=d0 at q0 Z3 ⊢
 refine zT 0 ?_
 refine zT 1 ?_
 refine zT 2 ?_
 refine zT 3 ?_
 refine zT 4 ?_
 refine zT 5 ?_
 refine zT 6 ?_
 refine zT 7 ?_
 refine zR 8 ?_
 intro K hK
 go_simp
 go_at_call 65
 refine (Zhb ms _).mono ?_
 rintro e d1 ⟨rfl,hq1,hb1⟩
 have q1:=q0.trans hq1
 dsimp only
 refine hK.out _ _ ?_ (fun Z3=>?_)
 ·exact HS3.out _ q1
 clear hK K
 (try simp only [Act.put,zPA,zPZ,zPS])
 obtain ⟨Bm,hBm⟩:∃ Bm,d0.heap.size=Bm:=⟨_,rfl⟩
 rw [hBm] at hb1
 (try rw [hBm])
 refine zR 9 ?_
 intro K hK
 go_simp
 go_at_call 64
 refine (Zcx (Bm:=Bm) (HH.out.quietly q1).mS (HH.out.quietly q1).snaps HN.out.1 HN.out.2.1 hb1).mono ?_
 rintro e d2 ⟨A2,c2,ps,rfl,hv2,hl2,hq2,hr2⟩
 have q2:=q1.trans hq2
 dsimp only
 refine hK.out _ _ ?_ (fun Z3=>?_)
 ·exact HS3.out _ q2
 clear hK K
 (try simp only [Act.put,zPA,zPZ,zPS])
 refine zR 10 ?_
 intro K hK
 go_simp
 go_at_call 63
 refine (Zcf (HH.out.quietly q2).log HN.out.2.2 hr2 (by have:=HN.out.2.1;omega) (fun p hp=>by
     obtain ⟨x,hx⟩:=hv2.each (encP p) (List.mem_map_of_mem hp)
     cases hs:s.sn x with
     | none=>rw [HH.out.snaps.1 x hs] at hx;cases hx
     | some y =>
       obtain ⟨A,c,e,hsv⟩:=HH.out.snaps.2 x y hs
       rw [e] at hx
       injection hx with hx
       rw [Z8s hx.symm]
       exact hsv.num.2.1)).mono ?_
 rintro e d3 ⟨hz,rfl,hh3,hu3,hq3⟩
 have q3:=q2.trans hq3
 dsimp only
 refine hK.out _ _ ?_ (fun Z3=>?_)
 ·exact HS3.out _ q3
 clear hK K
 (try simp only [Act.put,zPA,zPZ,zPS])
 refine zT 11 ?_
 refine zD ?_
 have Zc:Hid (Z8 (.returned (.int .u64 (hz:Int))) d3):=by
  rw [<- Ze.out]
  exact ⟨hz,rfl,ZiK HH.out.snaps hv2 hh3 hu3,q3⟩
 clear Z3 q0 q1 q2 q3 hq1 hq2 hq3 hb1 hv2 hl2 hr2 hh3 hu3 HS3
 go_wp2
 exact Zc.out
end Go.Proofs.YtobhgnjblniphaaGreatDoor
namespace Go.Proofs
open Go.Shelf
def Tryz.sortRows_ren:Go.Shelf.Ren:=⟨fun | 6=>83 | 15=>124 | 14=>123 | 28=>165 | 29=>166 | 20=>157 | 21=>158 | 22=>159 | 23=>160 | 24=>161 | 25=>162 | 26=>163 | 27=>164 | 46=>180 | 47=>181 | 48=>182 | 49=>183 | 50=>184 | 57=>194 | n=>n,fun | 22=>44 | 24=>50 | 25=>192 | 3=>3 | 39=>238 | 0=>0 | 53=>276 | 55=>34 | 4=>4 | 46=>270 | 45=>269 | 50=>217 | 5=>5 | 9=>9 | 66=>290 | 70=>293 | 76=>305 | 77=>250 | n=>n,fun | n=>n⟩
theorem Tryz.sortRows:Go.Proofs.SlLaysF0.n6 Tryz.prog Tryz.sortRows_ren:={
  mixed:=by kernel_rfl
  f6:=⟨Tryz.f83.name,by decide,Tryz.func83.trans (congrArg some (by kernel_rfl))⟩
  f14:=⟨Tryz.f123.name,by decide,Tryz.func123.trans (congrArg some (by kernel_rfl))⟩
  f15:=Tryz.func124.trans (congrArg some (by kernel_rfl))
  f20:=⟨Tryz.f157.name,by decide,Tryz.func157.trans (congrArg some (by kernel_rfl))⟩
  f21:=⟨Tryz.f158.name,by decide,Tryz.func158.trans (congrArg some (by kernel_rfl))⟩
  f22:=⟨Tryz.f159.name,by decide,Tryz.func159.trans (congrArg some (by kernel_rfl))⟩
  f23:=⟨Tryz.f160.name,by decide,Tryz.func160.trans (congrArg some (by kernel_rfl))⟩
  f24:=⟨Tryz.f161.name,by decide,Tryz.func161.trans (congrArg some (by kernel_rfl))⟩
  f25:=⟨Tryz.f162.name,by decide,Tryz.func162.trans (congrArg some (by kernel_rfl))⟩
  f26:=⟨Tryz.f163.name,by decide,Tryz.func163.trans (congrArg some (by kernel_rfl))⟩
  f27:=⟨Tryz.f164.name,by decide,Tryz.func164.trans (congrArg some (by kernel_rfl))⟩
  f28:=Tryz.func165.trans (congrArg some (by kernel_rfl))
  f29:=Tryz.func166.trans (congrArg some (by kernel_rfl))
  f46:=⟨Tryz.f180.name,by decide,Tryz.func180.trans (congrArg some (by kernel_rfl))⟩
  f47:=Tryz.func181.trans (congrArg some (by kernel_rfl))
  f48:=Tryz.func182.trans (congrArg some (by kernel_rfl))
  f49:=⟨Tryz.f183.name,by decide,Tryz.func183.trans (congrArg some (by kernel_rfl))⟩
  f50:=⟨Tryz.f184.name,by decide,Tryz.func184.trans (congrArg some (by kernel_rfl))⟩
  f57:=⟨Tryz.f194.name,by decide,Tryz.func194.trans (congrArg some (by kernel_rfl))⟩
  t0:=Tryz.underlying0
  a0:=Tryz.isAgg0
  z0:=Tryz.sizeOf0
  v0:=Tryz.zeroValue0
  t3:=Tryz.underlying3
  a3:=Tryz.isAgg3
  z3:=Tryz.sizeOf3
  v3:=Tryz.zeroValue3
  t4:=Tryz.underlying4
  a4:=Tryz.isAgg4
  z4:=Tryz.sizeOf4
  v4:=Tryz.zeroValue4
  t5:=Tryz.underlying5
  a5:=Tryz.isAgg5
  z5:=Tryz.sizeOf5
  v5:=Tryz.zeroValue5
  t9:=Tryz.underlying9
  a9:=Tryz.isAgg9
  z9:=Tryz.sizeOf9
  v9:=Tryz.zeroValue9
  t22:=Tryz.underlying44
  a22:=Tryz.isAgg44
  z22:=Tryz.sizeOf44
  v22:=Tryz.zeroValue44
  t25:=Tryz.underlying192
  a25:=Tryz.isAgg192
  z25:=Tryz.sizeOf192
  v25:=Tryz.zeroValue192
  t39:=Tryz.underlying238
  a39:=Tryz.isAgg238
  z39:=Tryz.sizeOf238
  v39:=Tryz.zeroValue238
  t45:=Tryz.underlying269
  a45:=Tryz.isAgg269
  z45:=Tryz.sizeOf269
  v45:=Tryz.zeroValue269
  t46:=Tryz.underlying270
  a46:=Tryz.isAgg270
  z46:=Tryz.sizeOf270
  v46:=Tryz.zeroValue270
  t50:=Tryz.underlying217
  a50:=Tryz.isAgg217
  z50:=Tryz.sizeOf217
  v50:=Tryz.zeroValue217
  t53:=Tryz.underlying276
  a53:=Tryz.isAgg276
  z53:=Tryz.sizeOf276
  v53:=Tryz.zeroValue276
  t55:=Tryz.underlying34
  a55:=Tryz.isAgg34
  z55:=Tryz.sizeOf34
  v55:=Tryz.zeroValue34
  t66:=Tryz.underlying290
  a66:=Tryz.isAgg290
  z66:=Tryz.sizeOf290
  v66:=Tryz.zeroValue290
  t70:=Tryz.underlying293
  a70:=Tryz.isAgg293
  z70:=Tryz.sizeOf293
  v70:=Tryz.zeroValue293
  t76:=Tryz.underlying305
  a76:=Tryz.isAgg305
  z76:=Tryz.sizeOf305
  v76:=Tryz.zeroValue305
  t77:=Tryz.underlying250
  a77:=Tryz.isAgg250
  z77:=Tryz.sizeOf250
  v77:=Tryz.zeroValue250 }
end Go.Proofs
namespace Go.Proofs.YtobhgnjblniphaaGreatDoor
open Go.RowKit Go.Lap
def st0 (n:Nat):St:=⟨[],[],[],0,n,fun _=>none,fun _=>none,fun _=>none,0⟩
def Z3K (pb n1 n2 n3:Nat) (k:Nat):Nat :=
 if k=pb then 4 else if n1 <= k/\k < n2 then 2 else if n2 <= k/\k < n3 then 3 else if k=n3 then 6 else if k=n3+1 then 7 else if k=n3+2 then 8 else if k=n3+3 then 1 else 0
def Z78 (w:World) (n:Nat) (e:Ending) (w':World):Prop:=∃ sb o,e=.returned (.tuple #[ptrV sb,.int .i64 0])/\Quiet w w'/\(∀ k,k < w.heap.size->o k=0)/\Zn w' sb o (st0 n)
theorem Zbn {w w1 w2 w3:World} {n:Nat} (hq1:Quiet w w1) (hp:ZR w1 w.heap.size n) (hq2:Quiet w1 w2) (hl:ZJ w2 (fun k=>w1.heap.size <= k) w1.heap.size []) (hq3:Quiet w2 w3) (hb:ZV w3 (fun k=>w2.heap.size <= k) w2.heap.size [] [] 0)
  (W:World) (hW:W=(((w3.alloc (.map #[] 0)).alloc (.map #[] 0)).alloc (.map #[] 0)).alloc (.cells #[ptrV w1.heap.size,ptrV w2.heap.size,ptrV w.heap.size,.map (some w3.heap.size),.map (some (w3.heap.size+1)),.map (some (w3.heap.size+2)),.int .u64 0] 70)) :
  Z78 w n (.returned (.tuple #[ptrV (w3.heap.size+3),.int .i64 0])) W:=by
 subst hW
 have s1:w.heap.size < w1.heap.size:=hp.lt
 have s2:w1.heap.size < w2.heap.size:=hl.lt.1
 have s3:w2.heap.size < w3.heap.size:=hb.lt.2
 have q:Quiet w3 ((((w3.alloc (.map #[] 0)).alloc (.map #[] 0)).alloc (.map #[] 0)).alloc (.cells #[ptrV w1.heap.size,ptrV w2.heap.size,ptrV w.heap.size,.map (some w3.heap.size),.map (some (w3.heap.size+1)),.map (some (w3.heap.size+2)),.int .u64 0] 70)):=((((Z0.refl _ _).alloc _).alloc _).alloc _).alloc _
 have m1:=Z6J w3
 have m2:=Z6J (w3.alloc (.map #[] 0))
 have m3:=Z6J ((w3.alloc (.map #[] 0)).alloc (.map #[] 0))
 have b4:=Z4 (((w3.alloc (.map #[] 0)).alloc (.map #[] 0)).alloc (.map #[] 0)) (.cells #[ptrV w1.heap.size,ptrV w2.heap.size,ptrV w.heap.size,.map (some w3.heap.size),.map (some (w3.heap.size+1)),.map (some (w3.heap.size+2)),.int .u64 0] 70)
 simp only [World.size_alloc] at m2 m3 b4
 refine ⟨w3.heap.size+3,Z3K w.heap.size w1.heap.size w2.heap.size w3.heap.size,rfl,hq1.trans (hq2.trans (hq3.trans q)),fun k hk=>?_,w1.heap.size,w2.heap.size,w.heap.size,w3.heap.size,w3.heap.size+1,w3.heap.size+2,fun _=>none,fun _=>none,fun _=>none,?_⟩
 ·unfold Z3K
  repeat rw [if_neg (by omega)]
 ·have big:∀ k,w3.heap.size+4 <= k->Z3K w.heap.size w1.heap.size w2.heap.size w3.heap.size k=0:=fun k hk=>by
   unfold Z3K
   repeat rw [if_neg (by omega)]
  refine ⟨b4,?_,?_,hp.kept (hq2.trans (hq3.trans q)) (fun x=>x),m1.kept ((((Z0.refl (fun _=>False) _).alloc _).alloc _).alloc _) (fun x=>x),m2.kept (((Z0.refl (fun _=>False) _).alloc _).alloc _) (fun x=>x),m3.kept ((Z0.refl (fun _=>False) _).alloc _) (fun x=>x),?_,fun k hk=>big k (by simpa using hk),⟨fun _ _=>rfl,fun _ _ x=>by cases x⟩,⟨fun _ _=>rfl,fun _ _ x=>by cases x⟩,⟨fun _ _=>rfl,fun _ _ x=>by cases x⟩,by show 0 < _;decide⟩
  ·exact (hl.lim.kept (hq3.trans q) (fun _ _ x=>x)).mono (fun k hk _=>by show Z3K _ _ _ _ k=2;unfold Z3K;rw [if_neg (by omega),if_pos (by omega)])
  ·exact (hb.lim.kept q (fun _ _ x=>x)).mono (fun k hk=>by show Z3K _ _ _ _ k=3;unfold Z3K;rw [if_neg (by omega),if_neg (by omega),if_pos (by omega)])
  ·unfold Z3K
   refine ⟨?_,if_pos rfl,?_,?_,?_⟩
   ·rw [if_neg (by omega),if_neg (by omega),if_neg (by omega),if_neg (by omega),if_neg (by omega),if_neg (by omega),if_pos rfl]
   ·rw [if_neg (by omega),if_neg (by omega),if_neg (by omega),if_pos rfl]
   ·rw [if_neg (by omega),if_neg (by omega),if_neg (by omega),if_neg (by omega),if_pos rfl]
   ·rw [if_neg (by omega),if_neg (by omega),if_neg (by omega),if_neg (by omega),if_neg (by omega),if_pos rfl]
theorem Zhc (n:Nat) (hn:n <= 256) (w:World) :
  Calls Tryz.prog 5 #[.int .i64 (n:Int)] w (Z78 w n):=by
 have hmm:=@run_makeMap Tryz.prog
 go_enter Tryz.func5,Tryz.ntmps5
 go_wp2_with fail
 refine (Zil n hn w).mono ?_
 rintro e w1 ⟨rfl,hq1,hp⟩
 go_wp2_with fail
 refine (Zjy w1).mono ?_
 rintro e w2 ⟨rfl,hq2,hl⟩
 go_wp2_with fail
 refine (Ziv w2).mono ?_
 rintro e w3 ⟨rfl,hq3,hb⟩
 have HD:=zh (@Zbn w w1 w2 w3 n hq1 hp hq2 hl hq3 hb)
 clear hq1 hp hq2 hl hq3 hb
 go_wp2
 go_ret2
 exact HD.out _ rfl
def Z0Z (w:World) (sb:Nat) (o:Nat->Nat) (s':St) (w':World):Prop:=∃ o',(∀ k,k < w.heap.size->o' k=o k)/\Z0 (fun k=>o k ≠ 0) w w'/\Zn w' sb o' s'
def ZbJ (s:St) (x v:Nat):St:={ s with L:=(Z2Q s.L x v).2,sn:=upd s.sn x none }
def Zcy (w:World) (sb:Nat) (o:Nat->Nat) (s:St) (x v:Nat) (e:Ending) (w':World):Prop :=
 e=.returned (.int .i64 ((Z2Q s.L x v).1:Int))/\Z0Z w sb o (ZbJ s x v) w'
theorem Zbo {w w1 w2:World} {sb lb bb pb mh mt ms x v:Nat} {o:Nat->Nat} {s:St} {fh ft fs:Nat->Option Value} (h:Zj w sb o s lb bb pb mh mt ms fh ft fs) (ho:Z0 (fun k=>k=ms) w w1) (hm:Z0f w1 ms (upd fs x none))
  (ho2:Z0 (fun k=>o k=2) w1 w2) (hl:ZJ w2 (fun k=>o k=2) lb (Z2Q s.L x v).2):Z0Z w sb o (ZbJ s x v) w2:=by
 have h1:=h.delSnap ho hm
 have h2:=h1.setLog (L':=(Z2Q s.L x v).2) ho2 (hl.mono (fun k hk _=>Or.inl hk))
 have s1:=ho.size
 obtain ⟨t1,t2,t3,t4,t5⟩:=h.tags
 refine ⟨_,fun k hk=>Z0K (by omega),(ho.mono (T:=fun k=>o k ≠ 0) (fun k _ e=>by rw [e,t5];omega)).trans' ho2 (fun k _ e=>by omega),_,_,_,_,_,_,_,_,_,h2⟩
theorem Zcz {w:World} {sb x:Nat} {o:Nat->Nat} {s:St} (h:Zn w sb o s) (hx:U64 x) :
  Calls Tryz.prog 11 #[ptrV sb,.int .u64 (x:Int)] w (Zcy w sb o s x 2):=by
 obtain ⟨lb,bb,pb,mh,mt,ms,fh,ft,fs,h⟩:=h
 obtain ⟨c0,c1,c2,c3,c4,c5,c6⟩:=h.cells
 obtain ⟨t1,t2,t3,t4,t5⟩:=h.tags
 have HH:=zh h
 have HM:=zh h.mS
 have HLOG:Hid (∀ W,Z0 (fun k=>k=ms) w W->Calls Tryz.prog 41 #[ptrV lb,.int .u64 (x:Int)] W (Z4Q W (fun k=>o k=2) lb (Z2Q s.L x 2))):=fun W hq=>Zey (h.log.kept hq (fun k hk e=>by rw [e,t5] at hk;omega)) hx
 have hsm:sb ≠ ms:=fun e=>by rw [e,t5] at t1;omega
 obtain ⟨w1,hrun,hm1,ho1⟩:=HM.out.delete Tryz.underlying68 Tryz.underlying34 0 hx
 have HM1:=zh hm1
 have HO1:Hid (Z0 (fun k=>k=ms) w w1):=ho1
 have d0:w1.cell? ⟨sb,0,none⟩=some (ptrV lb):=HO1.out.cell c0 hsm
 have lsb:=Zf d0
 dsimp only at lsb
 clear h t1 t2 t3 t4 t5 hx HM hm1 ho1 c1 c2 c3 c4 c6
 go_enter Tryz.func11,Tryz.ntmps11
 go_wp2_with fail
 refine (HLOG.out _ HO1.out).mono ?_
 rintro e w2 ⟨rfl,ho2,hl2⟩
 have HD:=zh (Zbo HH.out HO1.out HM1.out ho2 hl2)
 clear ho2 hl2 HLOG HO1 HM1 d0 lsb HH hrun c0 c5
 go_wp2
 go_ret
 exact ⟨rfl,HD.out⟩
theorem Zhd (w:World):(zeroValue 76).run Tryz.prog w=.ok (.agg #[.int .u64 0,.int .u64 0,.int .u64 0,.slice none 0 0]) w:=by kernel_rfl
abbrev noSnap:ZA:=⟨0,0,0,[]⟩
def Z43 (w:World) (s:St) (o:Nat->Nat) (x:Nat) (e:Ending) (w':World):Prop :=
 Quiet w w'/\match s.sn x with
 | none=>e=.returned (.tuple #[Zm noSnap none 0,.bool false])
 | some y=>∃ A c,e=.returned (.tuple #[Zm y A c,.bool true])/\Z0I w' (fun k=>o k=5) A c y
theorem Z6l {w:World} {sb x:Nat} {o:Nat->Nat} {s:St} (h:Zn w sb o s) (hx:U64 x) :
  Calls Tryz.prog 24 #[ptrV sb,.int .u64 (x:Int)] w (Z43 w s o x):=by
 obtain ⟨lb,bb,pb,mh,mt,ms,fh,ft,fs,h⟩:=h
 obtain ⟨_,_,_,_,_,c5,_⟩:=h.cells
 have lsb:=Zf c5
 dsimp only at lsb
 have hq0:Quiet w (w.alloc (.cells #[.int .u64 0,.int .u64 0,.int .u64 0,.slice none 0 0] 76)):=(Z0.refl _ _).alloc _
 have hlk:=(h.mS.kept hq0 (fun x=>x)).lookup Tryz.underlying68 Tryz.underlying34 true (Zhd _) hx
 rcases hy:s.sn x with _ | y
 ·rw [h.snaps.1 x hy] at hlk
  simp only [if_true,Option.getD_none,Option.isSome_none] at hlk
  have HQ:Hid (Quiet w ((w.alloc (.cells #[.int .u64 0,.int .u64 0,.int .u64 0,.slice none 0 0] 76)).alloc (.cells #[.int .u64 0,.int .u64 0,.int .u64 0,.slice none 0 0] 76))):=hq0.alloc _
  have HX:=zh (Zd (Z4 w (.cells #[.int .u64 0,.int .u64 0,.int .u64 0,.slice none 0 0] 76)) (.cells #[.int .u64 0,.int .u64 0,.int .u64 0,.slice none 0 0] 76))
  have HP:Hid (∀ W,Quiet w W->Z43 w s o x (.returned (.tuple #[Zm noSnap none 0,.bool false])) W):=fun W hq=>⟨hq,by rw [hy]⟩
  clear h hx hq0 hy
  go_enter Tryz.func24,Tryz.ntmps24
  go_wp2_with fail
  exact bodyPost_ret (ZG Tryz.results24 _ _ w.heap.size _ _ (0,0) _ (by rfl) HX.out Tryz.underlying76 rfl Z4m) (by rfl) (HP.out _ HQ.out)
 ·obtain ⟨A,c,hfs,hs⟩:=h.snaps.2 x y hy
  rw [hfs] at hlk
  simp only [if_true,Option.getD_some,Option.isSome_some] at hlk
  have HQ:Hid (Quiet w ((w.alloc (.cells (snapCells y A c) 76)).alloc (.cells (snapCells y A c) 76))):=((Z0.refl _ _).alloc _).alloc _
  have HX:=zh (Zd (Z4 w (.cells (snapCells y A c) 76)) (.cells (snapCells y A c) 76))
  have HP:Hid (∀ W,Quiet w W->Z43 w s o x (.returned (.tuple #[Zm y A c,.bool true])) W):=fun W hq=>⟨hq,by rw [hy];exact ⟨A,c,rfl,hs.kept hq (fun _ _ x=>x)⟩⟩
  unfold Zm at HP hlk
  clear h hx hq0 hy hs hfs
  go_enter Tryz.func24,Tryz.ntmps24
  go_wp2_with fail
  exact bodyPost_ret (ZG Tryz.results24 _ _ w.heap.size _ _ (0,0) _ (by rfl) HX.out Tryz.underlying76 rfl Z4m) (by rfl) (HP.out _ HQ.out)
def Z4b (s:St):St:={ s with L:=s.L ++ [1],sn:=upd s.sn (s.L.length+1) (some (Z2I (s.L ++ [1]) (s.L.length+1))) }
def Z79 (w:World) (sb:Nat) (o:Nat->Nat) (s:St) (e:Ending) (w':World):Prop :=
 e=.returned (.tuple #[.int .u64 ((s.L.length:Int)+1),.int .i64 0])/\Z0Z w sb o (Z4b s) w'
theorem Zbp {w w1 w3 w4:World} {sb lb bb pb mh mt ms c:Nat} {o:Nat->Nat} {s:St} {fh ft fs:Nat->Option Value} {A:Option Addr} {L':List Nat} {x:Nat} {y:ZA} (h:Zj w sb o s lb bb pb mh mt ms fh ft fs) (ho:Z0 (fun k=>o k=2) w w1) (hl:ZJ w1 (fun k=>o k=2 ∨ w.heap.size <= k) lb L')
  (hq:Quiet w1 w3) (hs:Z0I w3 (fun k=>w1.heap.size <= k/\k < w3.heap.size) A c y) (ho4:Z0 (fun k=>k=ms) w3 w4) (hm:Z0f w4 ms (upd fs x (some (Zm y A c)))):Z0Z w sb o { s with L:=L',sn:=upd s.sn x (some y) } w4:=by
 have h1:=h.setLog ho hl
 have hbig:=h1.big
 have h3:=h1.quietly hq
 have hms:=h3.mS.lt
 have tm:grow o w.heap.size w1.heap.size 2 ms=8:=h1.tags.2.2.2.2
 have hnm:¬ w1.heap.size <= ms:=fun x=>by have:=hbig ms x;omega
 have h4:=h3.putSnap (B:=w1.heap.size) (id:=x) (x:=y) (A:=A) (c:=c) hbig hq.size ho4 hm ((hs.kept ho4 (fun k hk e=>by omega)).mono (fun k hk=>hk.1))
 have s1:=ho.size
 have s2:=hq.size
 have e8:o ms=8:=h.tags.2.2.2.2
 refine ⟨_,fun k hk=>?_,((ho.mono (T:=fun k=>o k ≠ 0) (fun k _ e=>by omega)).trans' hq (fun k _ e=>e.elim)).trans' ho4 (fun k _ e=>by rw [e,e8];omega),_,_,_,_,_,_,_,_,_,h4⟩
 rw [Z0K (by omega),Z0K (by omega)]
theorem ZdC {w:World} {sb:Nat} {o:Nat->Nat} {s:St} (h:Zn w sb o s) (hl:s.L.length < 1000000) :
  Calls Tryz.prog 7 #[ptrV sb] w (Z79 w sb o s):=by
 obtain ⟨lb,bb,pb,mh,mt,ms,fh,ft,fs,h⟩:=h
 obtain ⟨c0,_,_,_,_,c5,_⟩:=h.cells
 have lsb:=Zf c0
 dsimp only at lsb
 obtain ⟨t1,t2,t3,t4,t5⟩:=h.tags
 have HB:=zh (Zgb h.log (by omega))
 have HH:=zh h
 obtain ⟨n,hn⟩:∃ n,s.L.length=n:=⟨_,rfl⟩
 have HP:Hid (Z79 w sb o s=fun e w'=>e=.returned (.tuple #[.int .u64 ((n:Int)+1),.int .i64 0])/\Z0Z w sb o (Z4b s) w'):=by rw [<- hn];rfl
 have HN:=zh hn
 have hsl:o sb ≠ 2:=by omega
 have hml:o ms ≠ 2:=by omega
 clear h t1 t2 t3 t4 t5 hn
 go_enter Tryz.func7,Tryz.ntmps7
 go_wp2_with fail
 refine HB.out.mono ?_
 rintro e w1 ⟨rfl,ho1,hl1⟩
 rw [HN.out]
 have HO1:=zh ho1
 have HL1:=zh hl1
 have d0:=ho1.cell c0 hsl
 have d5:=ho1.cell c5 hsl
 have lsb1:=Zf d0
 dsimp only at lsb1
 have HM:=zh (HH.out.mS.kept ho1 hml)
 have HX:Hid (U64 (n+1)):=by have:=HN.out;unfold Hid U64;omega
 have HTK:Hid (∀ W,Quiet w1 W->Calls Tryz.prog 23 #[ptrV lb,.int .u64 ((n+1:Nat):Int)] W (Zca W (Z2I (s.L ++ [1]) (n+1)))):=fun W hq=>ZgR (hl1.kept hq (fun _ _ x=>x)) (by rw [List.length_append];simp;omega) HX.out
 clear ho1 hl1 c0 c5 lsb HB
 have en:((n:Int)+1)=((n+1:Nat):Int):=by omega
 rw [en] at *
 have c0:=d0
 have c5:=d5
 clear d0 d5
 go_wp2_with fail
 refine Z0M (S:=fun w'=>w'.cell? ⟨sb,5,none⟩=some (.map (some ms))/\w'.cell? ⟨sb,0,none⟩=some (ptrV lb)/\Quiet w1 w') (by kernel_rfl) (by kernel_rfl) (by simp) (⟨c5,c0,(Z0.refl _ _).drew⟩) (fun Z3=>?_)
 simp only [List.pop_toArray,List.dropLast,List.size_toArray,List.length_cons,List.length_nil,Nat.reduceAdd,Nat.reduceSub]
 refine zT 0 ?_
 refine zT 1 ?_
 refine zT 2 ?_
 refine zT 3 ?_
 refine zT 4 ?_
 refine zT 5 ?_
 refine zT 6 ?_
 refine zT 7 ?_
 refine zT 8 ?_
 refine zT 9 ?_
 refine wpAnyH_ready (rs:=[10]) (by kernel_rfl) (by simp) ?_
 refine zA ?_ ?_
 ·intro K hK
  go_simp
  go_at_call 23
  refine (HTK.out _ Z3.2.2).mono ?_
  rintro e w3 ⟨A,c,rfl,hq3,hs3⟩
  dsimp only
  refine hK.out _ _ ?_ (fun Z3=>?_)
  ·exact ⟨hq3.cell Z3.1 (fun x=>x),hq3.cell Z3.2.1 (fun x=>x),Z3.2.2.trans hq3⟩
  clear hK K
  (try simp only [Act.put,zPA,zPZ,zPS])
  refine zD ?_
  refine Z21 (o:=?_) ?_ ?_
  rotate_left 1
  (focus (simp only [zGA,zGZ,zGS] <;> rfl))
  intro K hK
  refine ZbT (.tmp 22) (.tmp 23) (.tmp 29) rfl (HM.out.kept Z3.2.2 (fun x=>x)) Tryz.underlying68 Tryz.underlying34 rfl rfl rfl HX.out ?_
  intro w4 hm4 ho4
  refine hK.out _ _ ?_
  clear hK K
  have hm5:Z0f w4 ms (upd fs (n+1) (some (Zm (Z2I (s.L ++ [1]) (n+1)) A c))):=hm4
  have HD:Hid (Z0Z w sb o (Z4b s) w4):=by
   have:=Zbp HH.out HO1.out HL1.out Z3.2.2 hs3 ho4 hm5
   unfold Z4b
   rw [HN.out]
   exact this
  clear hm4 hm5 ho4 Z3 hs3 hq3 HH HO1 HL1 HM HTK
  dsimp only [Act.put]
  go_wp2
  go_ret2
  rw [HP.out]
  exact ⟨rfl,HD.out⟩
 exact AllReadyH.nil
def ZcA (w:World) (o:Nat->Nat) (y:ZA) (t:TE) (e:Ending) (w':World):Prop :=
 ∃ A c A2 c2,e=.returned (.tuple #[Zm y A c,Z0g t A2 c2,.int .i64 0])/\Quiet w w'/\Z0I w' (fun k=>o k=5) A c y/\Z38 w w' (.slice A2 t.cols.length c2) t.cols/\t.cols.length <= c2/\c2 <= maxLen
abbrev openEnd (W:World) (r6 r7:Nat) (v0 v1 v2 v3 u0 u1 u2 u3 u4:Value):World:=fiveSet (fourSet W r6 v0 v1 v2 v3) r7 u0 u1 u2 u3 u4
theorem Z6B {W:World} {r6 r7:Nat} {a0 a1 a2 a3 d0 d1 d2 d3 d4:Value} {t6 t7:TypeId} (b6:W.heap[r6]?=some (.cells #[a0,a1,a2,a3] t6 (0,0))) (b7:W.heap[r7]?=some (.cells #[d0,d1,d2,d3,d4] t7 (0,0))) (hne:r6 ≠ r7) (v0 v1 v2 v3 u0 u1 u2 u3 u4:Value) :
  (openEnd W r6 r7 v0 v1 v2 v3 u0 u1 u2 u3 u4).heap[r6]?=some (.cells #[v0,v1,v2,v3] t6 (0,0))/\(openEnd W r6 r7 v0 v1 v2 v3 u0 u1 u2 u3 u4).heap[r7]?=some (.cells #[u0,u1,u2,u3,u4] t7 (0,0))/\Z0 (fun k=>k=r6 ∨ k=r7) W (openEnd W r6 r7 v0 v1 v2 v3 u0 u1 u2 u3 u4):=by
 unfold openEnd
 have h1:=Z00 b6 v0 v1 v2 v3
 have o1:=Zy W r6 v0 v1 v2 v3
 have h2:=o1.get b7 (fun e=>hne e.symm)
 generalize fourSet W r6 v0 v1 v2 v3=W1 at *
 have h3:=Z2i h2 u0 u1 u2 u3 u4
 have o2:=Z1w W1 r7 u0 u1 u2 u3 u4
 have h4:=o2.get h1 hne
 exact ⟨h4,h3,(o1.mono (fun k _ e=>Or.inl e)).trans' o2 (fun k _ e=>Or.inr e)⟩
theorem ZaU {w W F:World} {r6 r7 c A5c:Nat} {o:Nat->Nat} {y:ZA} {t:TE} {A A5:Option Addr} (hr6:w.heap.size=r6) (hr7:r6+1=r7) (hq:Quiet w W) (ho:Z0 (fun k=>k=r6 ∨ k=r7) W F) (hs:Z0I W (fun k=>o k=5) A c y) (hbig:∀ k,w.heap.size <= k->o k=0)
  (hfr:W.ownsRow 0 39 2 (.slice A5 t.cols.length A5c) t.cols.length (ZZ t.cols)) (hfn:∀ k,(Value.slice A5 t.cols.length A5c).ownBlock=some k->r7 < k) (hc5:t.cols.length <= A5c) (hm5:A5c <= maxLen) :
  ZcA w o y t (.returned (.tuple #[Zm y A c,Z0g t A5 A5c,.int .i64 0])) F.drew:=by
 have hqF:Quiet w F.drew:=(hq.trans' ho (fun k hk e=>by rcases e with e | e <;> omega)).drew
 refine ⟨A,c,A5,A5c,rfl,hqF,(hs.kept ho (fun k hk e=>?_)).kept ((Z0.refl (fun _=>False) F).drew) (fun _ _ x=>x),⟨hqF,fun k e=>by have:=hfn k e;omega,Z5 (Z5 hfr ho (fun k e1 e2=>?_)) ((Z0.refl (fun _=>False) F).drew) (fun _ _ x=>x)⟩,hc5,hm5⟩
 ·have:=hbig k (by rcases e with e | e <;> omega)
  omega
 ·have:=hfn k e1
  rcases e2 with e | e <;> omega
theorem Z5z {P:Program} {fn:Func} {p q r:Tmp} {ty ty2:TypeId} (h:fn.results=#[.cell p ty,.cell q ty2,.tmp r]) (tmps:Array Value) (w:World) (g g2:Nat) (t t2:TypeId) (cs cs2:Array Value) (fr fr2:Nat × Nat) (d d2:TypeDesc)
  (hp:tmps.getD p undef=.pointer (some ⟨g,0,none⟩)) (hg:w.heap[g]?=some (.cells cs t fr)) (hp2:tmps.getD q undef=.pointer (some ⟨g2,0,none⟩)) (hg2:w.heap[g2]?=some (.cells cs2 t2 fr2))
  (hu:P.underlying ty=some d) (hd:(match d with | .struct _ | .array _ _=>true | _=>false)=true) (hi:(P.info? ty).map (·.size)=some cs.size)
  (hu2:P.underlying ty2=some d2) (hd2:(match d2 with | .struct _ | .array _ _=>true | _=>false)=true) (hi2:(P.info? ty2).map (·.size)=some cs2.size) :
  (results fn tmps).run P w=.ok (.tuple #[.agg cs,.agg cs2,tmps.getD r undef]) w:=by
 have hp':tmps[p]?.getD undef=.pointer (some ⟨g,0,none⟩):=by simpa using hp
 have hp2':tmps[q]?.getD undef=.pointer (some ⟨g2,0,none⟩):=by simpa using hp2
 simp [results,h,hp',hp2',asAddr,run_loadVar_row w g t ty cs fr d hg hu hd hi,run_loadVar_row w g2 t2 ty2 cs2 fr2 d2 hg2 hu2 hd2 hi2]
theorem Z5A {w:World} {b:Nat} {x:Option Obj} (h:w.heap[b]?=x):w.drew.heap[b]?=x:=h
theorem Z6m {w:World} {sb x i:Nat} {o:Nat->Nat} {s:St} {y:ZA} {t:TE} {name:ByteArray} (h:Zn w sb o s) (hx:U64 x) (hy:s.sn x=some y) (hf:Z1r s.L y name s.T=some i) (ht:s.T[i]?=some t) :
  Calls Tryz.prog 36 #[ptrV sb,.int .u64 (x:Int),.string name] w (ZcA w o y t):=by
 have hq0:Quiet w ((w.alloc (.cells #[.int .u64 0,.int .u64 0,.int .u64 0,.slice none 0 0] 76)).alloc (.cells #[.int .u64 0,.string ⟨#[]⟩,.slice none 0 0,.int .u64 0,.int .u64 0] 90)):=((Z0.refl _ _).alloc _).alloc _
 have HRU:=zh (Z6l (h.quietly hq0) hx)
 have HQ0:=zh hq0
 have HR:=zh (Z0y w (.cells #[.int .u64 0,.int .u64 0,.int .u64 0,.slice none 0 0] 76) (.cells #[.int .u64 0,.string ⟨#[]⟩,.slice none 0 0,.int .u64 0,.int .u64 0] 90))
 have HN:=zh (Zd (Z4 w (.cells #[.int .u64 0,.int .u64 0,.int .u64 0,.slice none 0 0] 76)) (.cells #[.int .u64 0,.string ⟨#[]⟩,.slice none 0 0,.int .u64 0,.int .u64 0] 90))
 obtain ⟨lb,bb,pb,mh,mt,ms,fh,ft,fs,h⟩:=h
 have HH:=zh h
 unfold Z43 at HRU
 rw [hy] at HRU
 obtain ⟨r6,hr6⟩:∃ r6,w.heap.size=r6:=⟨_,rfl⟩
 obtain ⟨r7,hr7⟩:∃ r7,r6+1=r7:=⟨_,rfl⟩
 rw [hr6] at HN HR
 rw [hr7] at HR
 clear hq0 h
 go_enter Tryz.func36,Tryz.ntmps36
 go_wp2_with fail
 refine HRU.out.mono ?_
 rintro e w1 ⟨hq1,A,c,rfl,hs1⟩
 clear HRU
 have hq01:Quiet w w1:=HQ0.out.trans hq1
 have b6:=hq1.get HN.out (fun x=>x)
 have b7:=hq1.get HR.out (fun x=>x)
 have hq2:Quiet w1 (w1.alloc (.cells (snapCells y A c) 76)):=(Z0.refl _ _).alloc _
 have hpb:=Z4 w1 (.cells (snapCells y A c) 76)
 have l7:=Z2 b7
 obtain ⟨pv,hpv⟩:∃ pv,w1.heap.size=pv:=⟨_,rfl⟩
 have hz1:=hq01.size
 unfold Zm
 go_wp2_with fail
 rw [hpv] at hpb l7
 have hs2:=hs1.kept hq2 (fun _ _ x=>x)
 have b6':=hq2.get b6 (fun x=>x)
 have b7':=hq2.get b7 (fun x=>x)
 have hq02:=hq01.trans hq2
 generalize w1.alloc (.cells (snapCells y A c) 76)=w2 at *
 obtain ⟨c0,c1,_⟩:=(HH.out.quietly hq02).cells
 obtain ⟨p0,p1,p2,p3⟩:w2.cell? ⟨pv,0,none⟩=some (.int .u64 (y.own:Int))/\w2.cell? ⟨pv,1,none⟩=some (.int .u64 (y.xmin:Int))/\w2.cell? ⟨pv,2,none⟩=some (.int .u64 (y.xmax:Int))/\w2.cell? ⟨pv,3,none⟩=some (.slice A y.run.length c) :=
  ⟨by rw [Z1 hpb];rfl,by rw [Z1 hpb];rfl,by rw [Z1 hpb];rfl,by rw [Z1 hpb];rfl⟩
 have HTB:Hid (∀ W,Quiet w2 W->Calls Tryz.prog 77 #[ptrV bb,ptrV lb,Zm y A c,.string name] W (ZaJ W t)):=fun W hq=>by
  have h2:=(HH.out.quietly hq02).quietly hq
  obtain ⟨vT,tps,vI,ips,hb1,_,_⟩:=h2.book
  exact Zf9 name hb1 h2.log (hs2.kept hq (fun _ _ x=>x)) hf ht
 have HSQ:Hid (∀ W,Quiet w2 W->(fun w'=>w'.cell? ⟨sb,1,none⟩=some (ptrV bb)/\w'.cell? ⟨sb,0,none⟩=some (ptrV lb)/\w'.cell? ⟨pv,0,none⟩=some (.int .u64 (y.own:Int))/\w'.cell? ⟨pv,1,none⟩=some (.int .u64 (y.xmin:Int))/\w'.cell? ⟨pv,2,none⟩=some (.int .u64 (y.xmax:Int))/\w'.cell? ⟨pv,3,none⟩=some (.slice A y.run.length c)) W):=fun W hq=>⟨hq.cell c1 (fun x=>x),hq.cell c0 (fun x=>x),hq.cell p0 (fun x=>x),hq.cell p1 (fun x=>x),hq.cell p2 (fun x=>x),hq.cell p3 (fun x=>x)⟩
 have lsb:=Zf c0
 have lpv:=Zf p0
 dsimp only at lsb lpv
 have HB6:=zh b6'
 have HB7:=zh b7'
 have HPV:=zh hpb
 have HQ2:=zh hq02
 have HS2:=zh hs2
 unfold Zm at HTB
 clear hq1 hs1 b6 b7 hq2 hpb hq01 hs2 b6' b7' hq02 HN HR c0 c1 p0 p1 p2 p3
 refine zH HSQ ((Z0.refl _ _).drew) (fun Z3=>?_)
 refine zT 0 ?_
 refine zT 1 ?_
 refine zT 2 ?_
 refine zT 3 ?_
 refine zT 4 ?_
 refine zT 5 ?_
 refine zT 6 ?_
 refine zT 7 ?_
 refine zT 8 ?_
 refine zT 9 ?_
 refine wpAnyH_ready (rs:=[10,14]) (by kernel_rfl) (by simp) ?_
 refine zA ?_ ?_
 ·intro K hK
  go_simp
  go_at_call 77
  refine (HTB.out _ ((Z0.refl (fun _=>False) w2).drew)).mono ?_
  rintro e w4 ⟨A5,c5,rfl,hf5,hc5,hm5⟩
  have hq4:Quiet w2 w4:=((Z0.refl (fun _=>False) w2).drew).trans hf5.quiet
  unfold Z0g
  dsimp only
  refine hK.out _ _ ?_ (fun Z3=>?_)
  ·exact HSQ.out _ hq4
  clear hK K
  (try simp only [Act.put,zPA,zPZ,zPS])
  refine zT 11 ?_
  refine zT 12 ?_
  refine zT 13 ?_
  refine zR 14 ?_
  intro K hK
  go_simp
  refine hK.out _ _ ?_ (fun Z3=>?_)
  ·exact HSQ.out _ (hq4.alloc _)
  clear hK K
  (try simp only [Act.put,zPA,zPZ,zPS])
  refine zR 15 ?_
  intro K hK
  go_simp
  refine hK.out _ _ ?_ (fun Z3=>?_)
  ·exact HSQ.out _ ((hq4.alloc _))
  clear hK K
  (try simp only [Act.put,zPA,zPZ,zPS])
  refine zT 16 ?_
  refine zD ?_
  have hW:Quiet w2 (w4.alloc (.cells #[.int .u64 (t.id:Int),.string t.name,.slice A5 t.cols.length c5,.int .u64 (t.xmin:Int),.int .u64 (t.xmax:Int)] 90)):=hq4.alloc _
  have hbt:=Z4 w4 (.cells #[.int .u64 (t.id:Int),.string t.name,.slice A5 t.cols.length c5,.int .u64 (t.xmin:Int),.int .u64 (t.xmax:Int)] 90)
  have hfn:∀ k,(Value.slice A5 t.cols.length c5).ownBlock=some k->w2.heap.size <= k:=hf5.new
  have hown:=Z5 hf5.own ((Z0.refl (fun _=>False) w4).alloc (.cells #[.int .u64 (t.id:Int),.string t.name,.slice A5 t.cols.length c5,.int .u64 (t.xmin:Int),.int .u64 (t.xmax:Int)] 90)) (fun _ _ x=>x)
  have hpt:w2.heap.size <= w4.heap.size:=hq4.size
  obtain ⟨pt,hpt2⟩:∃ pt,w4.heap.size=pt:=⟨_,rfl⟩
  rw [hpt2] at hbt hpt ⊢
  clear hf5
  generalize w4.alloc (.cells #[.int .u64 (t.id:Int),.string t.name,.slice A5 t.cols.length c5,.int .u64 (t.xmin:Int),.int .u64 (t.xmax:Int)] 90)=W at *
  have b6:=hW.get HB6.out (fun x=>x)
  have b7:=hW.get HB7.out (fun x=>x)
  have bp:=hW.get HPV.out (fun x=>x)
  obtain ⟨x0,x1,x2,x3⟩:=zC4 b6
  obtain ⟨y0,y1,y2,y3,y4⟩:=zC5 b7
  obtain ⟨u0,u1,u2,u3⟩:=zC4 bp
  obtain ⟨z0,z1,z2,z3,z4⟩:=zC5 hbt
  have fx:=fun o=>Z7 b6 o
  have fy:=fun o=>Z7 b7 o
  have hne:r6 ≠ r7:=by omega
  have hn6:r6 ≠ pt:=by omega
  have hn7:r7 ≠ pt:=by omega
  have hn8:r6 ≠ pv:=by omega
  have hn9:r7 ≠ pv:=by omega
  obtain ⟨X6,X7,hO⟩:=Z6B b6 b7 hne (.int .u64 (y.own:Int)) (.int .u64 (y.xmin:Int)) (.int .u64 (y.xmax:Int)) (.slice A y.run.length c) (.int .u64 (t.id:Int)) (.string t.name) (.slice A5 t.cols.length c5) (.int .u64 (t.xmin:Int)) (.int .u64 (t.xmax:Int))
  have HOUT:=zh (ZaU hr6 hr7 (HQ2.out.trans hW) hO (HS2.out.kept hW (fun _ _ x=>x)) HH.out.big hown (fun k e=>by have:=hfn k e;omega) hc5 hm5)
  have HX6:Hid ((openEnd W r6 r7 (.int .u64 (y.own:Int)) (.int .u64 (y.xmin:Int)) (.int .u64 (y.xmax:Int)) (.slice A y.run.length c) (.int .u64 (t.id:Int)) (.string t.name) (.slice A5 t.cols.length c5) (.int .u64 (t.xmin:Int)) (.int .u64 (t.xmax:Int))).drew.heap[r6]?=some (.cells (snapCells y A c) 76 (0,0))):=Z5A X6
  have HX7:Hid ((openEnd W r6 r7 (.int .u64 (y.own:Int)) (.int .u64 (y.xmin:Int)) (.int .u64 (y.xmax:Int)) (.slice A y.run.length c) (.int .u64 (t.id:Int)) (.string t.name) (.slice A5 t.cols.length c5) (.int .u64 (t.xmin:Int)) (.int .u64 (t.xmax:Int))).drew.heap[r7]?=some (.cells #[.int .u64 (t.id:Int),.string t.name,.slice A5 t.cols.length c5,.int .u64 (t.xmin:Int),.int .u64 (t.xmax:Int)] 90 (0,0))):=Z5A X7
  unfold openEnd fiveSet fourSet at HX6 HX7 HOUT
  clear X6 X7 hO b6 b7 bp hbt hown hW HB6 HB7 HPV HQ2 HS2 HSQ HTB Z3 hr6 hr7 HH
  go_wp2_with fail
  go_region
  go_wp2
  generalize (((((((((W.setCell ⟨r6,0,none⟩ (.int .u64 (y.own:Int))).setCell ⟨r6,1,none⟩ (.int .u64 (y.xmin:Int))).setCell ⟨r6,2,none⟩ (.int .u64 (y.xmax:Int))).setCell ⟨r6,3,none⟩ (.slice A y.run.length c)).setCell ⟨r7,0,none⟩ (.int .u64 (t.id:Int))).setCell ⟨r7,1,none⟩ (.string t.name)).setCell ⟨r7,2,none⟩ (.slice A5 t.cols.length c5)).setCell ⟨r7,3,none⟩ (.int .u64 (t.xmin:Int))).setCell ⟨r7,4,none⟩ (.int .u64 (t.xmax:Int))).drew=WF at HX6 HX7 HOUT ⊢
  exact bodyPost_ret (Z5z Tryz.results36 _ _ r6 r7 _ _ _ _ (0,0) (0,0) _ _ (by rfl) HX6.out (by rfl) HX7.out Tryz.underlying76 rfl Z4m Tryz.underlying90 rfl Z58) (by rfl) HOUT.out
 refine zA ?_ ?_
 ·intro K hK
  go_simp
  refine hK.out _ _ ?_ (fun Z3=>?_)
  ·exact HSQ.out _ ((Z0.refl (fun _=>False) w2).drew.alloc _)
  clear hK K
  (try simp only [Act.put,zPA,zPZ,zPS])
  refine zR 10 ?_
  intro K hK
  go_simp
  go_at_call 77
  refine (HTB.out _ ((Z0.refl (fun _=>False) w2).drew.alloc _)).mono ?_
  rintro e w4 ⟨A5,c5,rfl,hf5,hc5,hm5⟩
  have hq4:Quiet w2 w4:=((Z0.refl (fun _=>False) w2).drew.alloc _).trans hf5.quiet
  have hb4:w4.heap[w2.heap.size]?=some (.cells #[.int .u64 0,.string ⟨#[]⟩,.slice none 0 0,.int .u64 0,.int .u64 0] 90 (0,0)):=hf5.quiet.get (Z4 w2.drew (.cells #[.int .u64 0,.string ⟨#[]⟩,.slice none 0 0,.int .u64 0,.int .u64 0] 90)) (fun x=>x)
  obtain ⟨z0,z1,z2,z3,z4⟩:=zC5 hb4
  have zf:=fun o=>Z7 hb4 o
  unfold Z0g
  dsimp only
  refine hK.out _ _ ?_ (fun Z3=>?_)
  ·exact HSQ.out _ hq4
  clear hK K
  (try simp only [Act.put,zPA,zPZ,zPS])
  refine zT 11 ?_
  refine zT 12 ?_
  refine zT 13 ?_
  refine zR 15 ?_
  intro K hK
  go_simp
  refine hK.out _ _ ?_ (fun Z3=>?_)
  ·exact HSQ.out _ (hq4.trans' (Z1w w4 w2.heap.size (.int .u64 (t.id:Int)) (.string t.name) (.slice A5 t.cols.length c5) (.int .u64 (t.xmin:Int)) (.int .u64 (t.xmax:Int))) (fun k hk e=>by omega))
  clear hK K
  (try simp only [Act.put,zPA,zPZ,zPS])
  refine zT 16 ?_
  refine zD ?_
  have hO4:=Z1w w4 w2.heap.size (.int .u64 (t.id:Int)) (.string t.name) (.slice A5 t.cols.length c5) (.int .u64 (t.xmin:Int)) (.int .u64 (t.xmax:Int))
  have hW:Quiet w2 (fiveSet w4 w2.heap.size (.int .u64 (t.id:Int)) (.string t.name) (.slice A5 t.cols.length c5) (.int .u64 (t.xmin:Int)) (.int .u64 (t.xmax:Int))):=hq4.trans' hO4 (fun k hk e=>by omega)
  have hbt:=Z2i hb4 (.int .u64 (t.id:Int)) (.string t.name) (.slice A5 t.cols.length c5) (.int .u64 (t.xmin:Int)) (.int .u64 (t.xmax:Int))
  have hfn':∀ k,(Value.slice A5 t.cols.length c5).ownBlock=some k->w2.heap.size < k:=fun k e=>by have:=hf5.new k e;rw [World.size_alloc] at this;exact this
  have hfn:∀ k,(Value.slice A5 t.cols.length c5).ownBlock=some k->w2.heap.size <= k:=fun k e=>Nat.le_of_lt (hfn' k e)
  have hown:=Z5 hf5.own hO4 (fun k e1 e2=>by have:=hfn' k e1;omega)
  unfold fiveSet at hW hbt hown hO4
  clear hf5 hfn' hb4 hO4 z0 z1 z2 z3 z4 zf
  have hpt:w2.heap.size <= w2.heap.size:=Nat.le_refl _
  obtain ⟨pt,hpt2⟩:∃ pt,w2.heap.size=pt:=⟨_,rfl⟩
  generalize ((((w4.setCell ⟨w2.heap.size,0,none⟩ (.int .u64 (t.id:Int))).setCell ⟨w2.heap.size,1,none⟩ (.string t.name)).setCell ⟨w2.heap.size,2,none⟩ (.slice A5 t.cols.length c5)).setCell ⟨w2.heap.size,3,none⟩ (.int .u64 (t.xmin:Int))).setCell ⟨w2.heap.size,4,none⟩ (.int .u64 (t.xmax:Int))=W at *
  rw [hpt2] at hbt ⊢
  have b6:=hW.get HB6.out (fun x=>x)
  have b7:=hW.get HB7.out (fun x=>x)
  have bp:=hW.get HPV.out (fun x=>x)
  obtain ⟨x0,x1,x2,x3⟩:=zC4 b6
  obtain ⟨y0,y1,y2,y3,y4⟩:=zC5 b7
  obtain ⟨u0,u1,u2,u3⟩:=zC4 bp
  obtain ⟨z0,z1,z2,z3,z4⟩:=zC5 hbt
  have fx:=fun o=>Z7 b6 o
  have fy:=fun o=>Z7 b7 o
  have hne:r6 ≠ r7:=by omega
  have hn6:r6 ≠ pt:=by omega
  have hn7:r7 ≠ pt:=by omega
  have hn8:r6 ≠ pv:=by omega
  have hn9:r7 ≠ pv:=by omega
  obtain ⟨X6,X7,hO⟩:=Z6B b6 b7 hne (.int .u64 (y.own:Int)) (.int .u64 (y.xmin:Int)) (.int .u64 (y.xmax:Int)) (.slice A y.run.length c) (.int .u64 (t.id:Int)) (.string t.name) (.slice A5 t.cols.length c5) (.int .u64 (t.xmin:Int)) (.int .u64 (t.xmax:Int))
  have HOUT:=zh (ZaU hr6 hr7 (HQ2.out.trans hW) hO (HS2.out.kept hW (fun _ _ x=>x)) HH.out.big hown (fun k e=>by have:=hfn k e;omega) hc5 hm5)
  have HX6:Hid ((openEnd W r6 r7 (.int .u64 (y.own:Int)) (.int .u64 (y.xmin:Int)) (.int .u64 (y.xmax:Int)) (.slice A y.run.length c) (.int .u64 (t.id:Int)) (.string t.name) (.slice A5 t.cols.length c5) (.int .u64 (t.xmin:Int)) (.int .u64 (t.xmax:Int))).drew.heap[r6]?=some (.cells (snapCells y A c) 76 (0,0))):=Z5A X6
  have HX7:Hid ((openEnd W r6 r7 (.int .u64 (y.own:Int)) (.int .u64 (y.xmin:Int)) (.int .u64 (y.xmax:Int)) (.slice A y.run.length c) (.int .u64 (t.id:Int)) (.string t.name) (.slice A5 t.cols.length c5) (.int .u64 (t.xmin:Int)) (.int .u64 (t.xmax:Int))).drew.heap[r7]?=some (.cells #[.int .u64 (t.id:Int),.string t.name,.slice A5 t.cols.length c5,.int .u64 (t.xmin:Int),.int .u64 (t.xmax:Int)] 90 (0,0))):=Z5A X7
  unfold openEnd fiveSet fourSet at HX6 HX7 HOUT
  clear X6 X7 hO b6 b7 bp hbt hown hW HB6 HB7 HPV HQ2 HS2 HSQ HTB Z3 hr6 hr7 HH
  go_wp2_with fail
  go_region
  go_wp2
  generalize (((((((((W.setCell ⟨r6,0,none⟩ (.int .u64 (y.own:Int))).setCell ⟨r6,1,none⟩ (.int .u64 (y.xmin:Int))).setCell ⟨r6,2,none⟩ (.int .u64 (y.xmax:Int))).setCell ⟨r6,3,none⟩ (.slice A y.run.length c)).setCell ⟨r7,0,none⟩ (.int .u64 (t.id:Int))).setCell ⟨r7,1,none⟩ (.string t.name)).setCell ⟨r7,2,none⟩ (.slice A5 t.cols.length c5)).setCell ⟨r7,3,none⟩ (.int .u64 (t.xmin:Int))).setCell ⟨r7,4,none⟩ (.int .u64 (t.xmax:Int))).drew=WF at HX6 HX7 HOUT ⊢
  exact bodyPost_ret (Z5z Tryz.results36 _ _ r6 r7 _ _ _ _ (0,0) (0,0) _ _ (by rfl) HX6.out (by rfl) HX7.out Tryz.underlying76 rfl Z4m Tryz.underlying90 rfl Z58) (by rfl) HOUT.out
 exact AllReadyH.nil
end Go.Proofs.YtobhgnjblniphaaGreatDoor
namespace Go.Proofs
open Go.Shelf
def Tryz.validLay_ren:Go.Shelf.Ren:=⟨fun | 196=>146 | 259=>177 | n=>n,fun | 9=>9 | 4=>4 | 3=>3 | 5=>5 | 12=>12 | 119=>285 | 0=>0 | 46=>238 | 139=>288 | 138=>287 | 53=>34 | n=>n,fun | 3=>0 | 4=>1 | n=>n⟩
theorem Tryz.validLay:Go.Proofs.Lays.n196 Tryz.prog Tryz.validLay_ren:={
  mixed:=by kernel_rfl
  f196:=Tryz.func146.trans (congrArg some (by kernel_rfl))
  f259:=Tryz.func177.trans (congrArg some (by kernel_rfl))
  t0:=Tryz.underlying0
  a0:=Tryz.isAgg0
  z0:=Tryz.sizeOf0
  v0:=Tryz.zeroValue0
  t3:=Tryz.underlying3
  a3:=Tryz.isAgg3
  z3:=Tryz.sizeOf3
  v3:=Tryz.zeroValue3
  t4:=Tryz.underlying4
  a4:=Tryz.isAgg4
  z4:=Tryz.sizeOf4
  v4:=Tryz.zeroValue4
  t5:=Tryz.underlying5
  a5:=Tryz.isAgg5
  z5:=Tryz.sizeOf5
  v5:=Tryz.zeroValue5
  t9:=Tryz.underlying9
  a9:=Tryz.isAgg9
  z9:=Tryz.sizeOf9
  v9:=Tryz.zeroValue9
  t12:=Tryz.underlying12
  a12:=Tryz.isAgg12
  z12:=Tryz.sizeOf12
  v12:=Tryz.zeroValue12
  t46:=Tryz.underlying238
  a46:=Tryz.isAgg238
  z46:=Tryz.sizeOf238
  v46:=Tryz.zeroValue238
  t53:=Tryz.underlying34
  a53:=Tryz.isAgg34
  z53:=Tryz.sizeOf34
  v53:=Tryz.zeroValue34
  t119:=Tryz.underlying285
  a119:=Tryz.isAgg285
  z119:=Tryz.sizeOf285
  t138:=Tryz.underlying287
  a138:=Tryz.isAgg287
  z138:=Tryz.sizeOf287
  v138:=Tryz.zeroValue287
  t139:=Tryz.underlying288
  a139:=Tryz.isAgg288
  z139:=Tryz.sizeOf288
  v139:=Tryz.zeroValue288
  g3:=by kernel_rfl
  g4:=by kernel_rfl }
end Go.Proofs
namespace Go.Proofs.YtobhgnjblniphaaGreatDoor
open Go.RowKit Go.Lap
def U8 (w:World):Prop:=Lib.Utf8Tabs (Tryz.validLay_ren.g 3) (Tryz.validLay_ren.g 4) w
theorem U8.quietly {w w':World} (h:U8 w) (hq:Quiet w w'):U8 w':=Utf8Tabs_below h ⟨hq.os,hq.tape,hq.output,hq.size,fun k hk=>hq.block k hk (fun x=>x)⟩
theorem Zhe {w:World} (s:ByteArray) (hs:s.size <= 1000000) (hT:U8 w):Calls Tryz.prog 146 #[.string s] w fun e w'=>e=.returned (.bool (Lib.validD s.data.toList))/\Quiet w w':=by
 refine (Any.utf8_ValidString Tryz.validLay s w (by omega) hT).mono ?_
 rintro e w' ⟨rfl,hb⟩
 obtain ⟨h1,h2,h3,h4,h5⟩:=hb
 exact ⟨rfl,h1,h2,h3,h4,fun k hk _=>h5 k hk⟩
theorem Zfk (s:ByteArray) (w:World) :
  Calls Tryz.prog 147 #[.string s,.int .u8 0] w fun e w'=>(∃ z:Int,e=.returned (.int .i64 z)/\decide (z < 0)=decide ((0:UInt8) ∉ s.data.toList))/\w=w':=by
 have HZ:=zh (Z5W s.data.toList 0)
 go_enter Tryz.func147,Tryz.ntmps147
 go_wp2
 rw [run_callFunc_extern Tryz.func193 (by kernel_rfl) (by kernel_rfl) (by kernel_rfl) (e:=Extern.BytealgIndexByte.indexByte) (by kernel_rfl),Lib.run_indexByteString]
 simp only [Result.andThen]
 rw [Oper.upon_value]
 go_wp2
 go_ret
 exact ⟨⟨_,rfl,HZ.out⟩,rfl⟩
theorem ZcB (v:RV) (hs:v.s.size <= 1000000) (w:World) :
  Calls Tryz.prog 117 #[.agg #[.int .u8 (v.k:Int),.int .i64 v.i,.string v.s,.bool v.b]] w (fun e w'=>e=.returned (.int .i64 (sizeR v:Int))/\Quiet w w'):=by
 obtain ⟨k,i,s,b⟩:=v
 dsimp only at hs ⊢
 have hq:Hid (Quiet w (w.alloc (.cells #[.int .u8 (k:Int),.int .i64 i,.string s,.bool b] 32))):=(Z0.refl _ _).alloc _
 by_cases h1:k=1
 ·subst h1
  go_enter Tryz.func117,Tryz.ntmps117
  go_wp2
  go_ret
  exact ⟨rfl,hq.out⟩
 by_cases h2:k=2
 ·subst h2
  have hw:IntKind.i64.wrap (1+(s.size:Int))=((1+s.size:Nat):Int):=by rw [IntKind.wrap_i64];omega
  go_enter Tryz.func117,Tryz.ntmps117
  go_wp2
  go_ret
  exact ⟨rfl,hq.out⟩
 by_cases h3:k=3
 ·subst h3
  go_enter Tryz.func117,Tryz.ntmps117
  go_wp2
  go_ret
  exact ⟨rfl,hq.out⟩
 ·have e1:((k:Int) == 1)=false:=by simp;omega
  have e2:((k:Int) == 2)=false:=by simp;omega
  have e3:((k:Int) == 3)=false:=by simp;omega
  have HSZ:Hid (sizeR ⟨k,i,s,b⟩=0):=by
   show sizeR ⟨k,i,s,b⟩=0
   unfold sizeR
   match k,h1,h2,h3 with
   | 0,_,_,_=>rfl
   | k+4,_,_,_=>rfl
  clear h1 h2 h3
  go_enter Tryz.func117,Tryz.ntmps117
  go_wp2
  go_ret
  exact ⟨by rw [HSZ.out];rfl,hq.out⟩
theorem Z2j (v:RV) (hs:v.s.size <= 1000000) (w:World) (hT:U8 w) :
  Calls Tryz.prog 116 #[.agg #[.int .u8 (v.k:Int),.int .i64 v.i,.string v.s,.bool v.b]] w (Z0a w (Zt v)):=by
 obtain ⟨k,i,s,b⟩:=v
 dsimp only at hs ⊢
 have HV:Hid (∀ W,Quiet w W->Calls Tryz.prog 146 #[.string s] W fun e w'=>e=.returned (.bool (Lib.validD s.data.toList))/\Quiet W w'):=fun W hq=>Zhe s hs (hT.quietly hq)
 have HI:Hid (∀ W,Calls Tryz.prog 147 #[.string s,.int .u8 0] W fun e w'=>(∃ z:Int,e=.returned (.int .i64 z)/\decide (z < 0)=decide ((0:UInt8) ∉ s.data.toList))/\W=w'):=fun W=>Zfk s W
 have Zc:Hid (∀ r W,Zt ⟨k,i,s,b⟩=r->Quiet w W->Z0a w (Zt ⟨k,i,s,b⟩) (.returned (.bool r)) W):=fun r W hr hq=>by rw [hr];exact ⟨rfl,hq⟩
 have HQ:Hid (∀ c1 c2 t1 t2,Quiet w ((w.alloc (.cells c1 t1)).alloc (.cells c2 t2))):=fun _ _ _ _=>((Z0.refl _ _).alloc _).alloc _
 have HQ1:Hid (∀ c1 t1,Quiet w (w.alloc (.cells c1 t1))):=fun _ _=>(Z0.refl _ _).alloc _
 obtain ⟨Z8,Z6⟩:∃ Z8,Z0a w (Zt ⟨k,i,s,b⟩)=Z8:=⟨_,rfl⟩
 rw [Z6] at Zc ⊢
 clear Z6 hT
 by_cases h0:k=0
 ·subst h0
  cases b with
  | true =>
   go_enter Tryz.func116,Tryz.ntmps116
   go_wp2
   exact Zc.out false _ (by simp [Zt,Z1y]) (HQ.out _ _ _ _)
  | false =>
   by_cases hi:i=0
   ·subst hi
    by_cases hse:s=⟨#[]⟩
    ·subst hse
     have HVE:Hid (∀ W,Quiet w W->Calls Tryz.prog 146 #[.string ⟨#[]⟩] W fun e w'=>e=.returned (.bool true)/\Quiet W w'):=HV
     go_enter Tryz.func116,Tryz.ntmps116
     go_wp2_with fail
     refine (HVE.out _ (HQ.out _ _ _ _)).mono ?_
     rintro e w1 ⟨rfl,hq1⟩
     have hx:=hq1.get (Zd (Z4 w (.cells #[.int .u8 0,.int .i64 0,.string ⟨#[]⟩,.bool false] 32)) (.cells #[.int .u8 0,.int .i64 0,.string ⟨#[]⟩,.bool false] 32)) (fun x=>x)
     have k2:=Z1 hx 2
     simp only [zGA,zGS,zGZ] at k2
     have lx:=Z2 hx
     clear hx
     have HQQ:=zh ((HQ.out _ _ _ _).trans hq1)
     clear hq1
     go_wp2_with fail
     refine (HI.out _).mono ?_
     rintro e w2 ⟨⟨z,rfl,hz⟩,rfl⟩
     have hz2:decide (z < 0)=true:=hz
     clear hz k2 lx
     go_wp2
     exact Zc.out _ _ (by simp [Zt,Z1y,Z4c];decide) HQQ.out
    ·obtain ⟨⟨l⟩⟩:=s
     rcases l with _ | ⟨c0,l⟩
     ·exact absurd rfl hse
     ·clear hse HV HI hs
      go_enter Tryz.func116,Tryz.ntmps116
      go_wp2
      exact Zc.out false _ (by simp [Zt,Z1y]) (HQ.out _ _ _ _)
   ·have hib:(i == 0)=false:=by simpa using hi
    have hib2:(0 == i)=false:=by simp;omega
    go_enter Tryz.func116,Tryz.ntmps116
    go_wp2
    exact Zc.out false _ (by simp [Zt,Z1y,hi]) (HQ.out _ _ _ _)
 by_cases h1:k=1
 ·subst h1
  cases b with
  | true =>
   go_enter Tryz.func116,Tryz.ntmps116
   go_wp2
   exact Zc.out false _ (by simp [Zt,Z1y]) (HQ.out _ _ _ _)
  | false =>
   by_cases hse:s=⟨#[]⟩
   ·subst hse
    have HVE:Hid (∀ W,Quiet w W->Calls Tryz.prog 146 #[.string ⟨#[]⟩] W fun e w'=>e=.returned (.bool true)/\Quiet W w'):=HV
    go_enter Tryz.func116,Tryz.ntmps116
    go_wp2_with fail
    refine (HVE.out _ (HQ.out _ _ _ _)).mono ?_
    rintro e w1 ⟨rfl,hq1⟩
    have hx:=hq1.get (Zd (Z4 w (.cells #[.int .u8 1,.int .i64 i,.string ⟨#[]⟩,.bool false] 32)) (.cells #[.int .u8 1,.int .i64 0,.string ⟨#[]⟩,.bool false] 32)) (fun x=>x)
    have k2:=Z1 hx 2
    simp only [zGA,zGS,zGZ] at k2
    have lx:=Z2 hx
    clear hx
    have HQQ:=zh ((HQ.out _ _ _ _).trans hq1)
    clear hq1
    go_wp2_with fail
    refine (HI.out _).mono ?_
    rintro e w2 ⟨⟨z,rfl,hz⟩,rfl⟩
    have hz2:decide (z < 0)=true:=hz
    clear hz k2 lx
    go_wp2
    exact Zc.out _ _ (by simp [Zt,Z1y,Z4c];decide) HQQ.out
   ·obtain ⟨⟨l⟩⟩:=s
    rcases l with _ | ⟨c0,l⟩
    ·exact absurd rfl hse
    ·clear hse HV HI hs
     go_enter Tryz.func116,Tryz.ntmps116
     go_wp2
     exact Zc.out false _ (by simp [Zt,Z1y]) (HQ.out _ _ _ _)
 by_cases h2:k=2
 ·subst h2
  cases b with
  | true =>
   go_enter Tryz.func116,Tryz.ntmps116
   go_wp2
   exact Zc.out false _ (by simp [Zt,Z1y]) (HQ.out _ _ _ _)
  | false =>
   by_cases hi:i=0
   ·subst hi
    by_cases h60:s.size <= 60
    ·have h60z:(s.size:Int) <= 60:=by omega
     go_enter Tryz.func116,Tryz.ntmps116
     go_wp2_with fail
     refine (HV.out _ (HQ.out _ _ _ _)).mono ?_
     rintro e w1 ⟨rfl,hq1⟩
     have hx:=hq1.get (Zd (Z4 w (.cells #[.int .u8 2,.int .i64 0,.string s,.bool false] 32)) (.cells #[.int .u8 2,.int .i64 0,.string ⟨#[]⟩,.bool false] 32)) (fun x=>x)
     have k2:=Z1 hx 2
     simp only [zGA,zGS,zGZ] at k2
     have lx:=Z2 hx
     clear hx
     have HQQ:=zh ((HQ.out _ _ _ _).trans hq1)
     clear hq1
     rcases hV:Lib.validD s.data.toList with _ | _
     ·have HR:=zh hV
      clear hV
      go_wp2
      exact Zc.out _ _ (by simp [Zt,Z1y,Z4c,HR.out]) HQQ.out
     ·have HR:=zh hV
      clear hV
      go_wp2_with fail
      refine (HI.out _).mono ?_
      rintro e w2 ⟨⟨z,rfl,hz⟩,rfl⟩
      have HZ:=zh hz
      clear hz k2 lx
      go_wp2
      exact Zc.out _ _ (by rw [HZ.out];simp [Zt,Z1y,Z4c,HR.out,h60]) HQQ.out
    ·have h60z:¬ (s.size:Int) <= 60:=by omega
     go_enter Tryz.func116,Tryz.ntmps116
     go_wp2
     exact Zc.out _ _ (by simp [Zt,Z1y,Z4c,h60]) (HQ.out _ _ _ _)
   ·have hib:(i == 0)=false:=by simpa using hi
    have hib2:(0 == i)=false:=by simp;omega
    go_enter Tryz.func116,Tryz.ntmps116
    go_wp2
    exact Zc.out false _ (by simp [Zt,Z1y,hi]) (HQ.out _ _ _ _)
 by_cases h3:k=3
 ·subst h3
  by_cases hi:i=0
  ·subst hi
   by_cases hse:s=⟨#[]⟩
   ·subst hse
    have HVE:Hid (∀ W,Quiet w W->Calls Tryz.prog 146 #[.string ⟨#[]⟩] W fun e w'=>e=.returned (.bool true)/\Quiet W w'):=HV
    go_enter Tryz.func116,Tryz.ntmps116
    go_wp2_with fail
    refine (HVE.out _ (HQ.out _ _ _ _)).mono ?_
    rintro e w1 ⟨rfl,hq1⟩
    have hx:=hq1.get (Zd (Z4 w (.cells #[.int .u8 3,.int .i64 0,.string ⟨#[]⟩,.bool b] 32)) (.cells #[.int .u8 3,.int .i64 0,.string ⟨#[]⟩,.bool false] 32)) (fun x=>x)
    have k2:=Z1 hx 2
    simp only [zGA,zGS,zGZ] at k2
    have lx:=Z2 hx
    clear hx
    have HQQ:=zh ((HQ.out _ _ _ _).trans hq1)
    clear hq1
    go_wp2_with fail
    refine (HI.out _).mono ?_
    rintro e w2 ⟨⟨z,rfl,hz⟩,rfl⟩
    have hz2:decide (z < 0)=true:=hz
    clear hz k2 lx
    go_wp2
    exact Zc.out _ _ (by simp [Zt,Z1y,Z4c];decide) HQQ.out
   ·obtain ⟨⟨l⟩⟩:=s
    rcases l with _ | ⟨c0,l⟩
    ·exact absurd rfl hse
    ·clear hse HV HI hs
     go_enter Tryz.func116,Tryz.ntmps116
     go_wp2
     exact Zc.out false _ (by simp [Zt,Z1y]) (HQ.out _ _ _ _)
  ·have hib:(i == 0)=false:=by simpa using hi
   have hib2:(0 == i)=false:=by simp;omega
   go_enter Tryz.func116,Tryz.ntmps116
   go_wp2
   exact Zc.out false _ (by simp [Zt,Z1y,hi]) (HQ.out _ _ _ _)
 have HBR:Hid (Zt ⟨k,i,s,b⟩=false):=by
  show Zt ⟨k,i,s,b⟩=false
  unfold Zt Z1y
  match k,h0,h1,h2,h3 with
  | k+4,_,_,_,_=>rfl
 have e0:((k:Int) == 0)=false:=by simp;omega
 have e1:((k:Int) == 1)=false:=by simp;omega
 have e2:((k:Int) == 2)=false:=by simp;omega
 have e3:((k:Int) == 3)=false:=by simp;omega
 clear h0 h1 h2 h3
 go_enter Tryz.func116,Tryz.ntmps116
 go_wp2
 exact Zc.out _ _ HBR.out (HQ.out _ _ _ _)
theorem Z7b {w:World} {S:Nat->Prop} {A:Option Addr} {n i:Nat} {l:List RV} {v:RV} (h:Rd w S 4 A n (Z0P l)) (hi:l[i]?=some v) :
  ∃ b off,A=some ⟨b,off,none⟩/\S b/\w.cell? ⟨b,off+i * 4,none⟩=some (.int .u8 (v.k:Int))/\w.cell? ⟨b,off+i * 4+1,none⟩=some (.int .i64 v.i)/\w.cell? ⟨b,off+i * 4+2,none⟩=some (.string v.s)/\w.cell? ⟨b,off+i * 4+3,none⟩=some (.bool v.b):=by
 have h0:=Z5b (j:=0) hi rfl
 have h1:=Z5b (j:=1) hi rfl
 have h2:=Z5b (j:=2) hi rfl
 have h3:=Z5b (j:=3) hi rfl
 have hl:=(zi.1 h0).1
 obtain ⟨b,off,e,hs,hc⟩:=h.cells (by omega)
 exact ⟨b,off,e,hs,hc _ _ h0,by have:=hc _ _ h1;rw [<- Nat.add_assoc] at this;exact this,by have:=hc _ _ h2;rw [<- Nat.add_assoc] at this;exact this,by have:=hc _ _ h3;rw [<- Nat.add_assoc] at this;exact this⟩
theorem ZiO (k:Nat) (w:World) :
  Calls Tryz.prog 145 #[.int .u8 (k:Int)] w fun e w'=>e=.returned (.bool (Z3r k))/\w=w':=by
 by_cases h0:k=0
 ·subst h0
  go_enter Tryz.func145,Tryz.ntmps145
  go_wp2
  go_ret
  exact ⟨rfl,rfl⟩
 ·have d0:((k:Int) == 0)=false:=by simp;omega
  have hb:Z3r k=decide ((3:Int) < (k:Int)):=by
   unfold Z3r
   rw [decide_eq_false h0,Bool.false_or,decide_eq_decide]
   omega
  go_enter Tryz.func145,Tryz.ntmps145
  go_wp2
  go_ret
  exact ⟨by rw [hb];rfl,rfl⟩
theorem ZdD {w:World} {S:Nat->Prop} {A:Option Addr} {c n:Nat} {ks:List Nat} (hr:Rd w S 1 A n (Z24 ks)) (hn:ks.length=n) (hc:n <= c) (hm:c <= maxLen) :
  Calls Tryz.prog 176 #[.slice A n c,.func (.func 145) #[] #[]] w fun e w'=>(∃ z:Int,e=.returned (.int .i64 z)/\decide (0 <= z)=ks.any Z3r)/\w=w':=by
 have HR:=zh hr
 have HN:=zh hn
 unfold maxLen at hm
 obtain ⟨Z8,hP⟩:∃ P:Ending->Prop,(fun e=>∃ z:Int,e=.returned (.int .i64 z)/\decide (0 <= z)=ks.any Z3r)=P:=⟨_,rfl⟩
 have HP:=zh hP
 show Calls _ _ _ _ fun e w'=>(fun e=>∃ z:Int,e=.returned (.int .i64 z)/\decide (0 <= z)=ks.any Z3r) e/\w=w'
 rw [hP]
 clear hP hr hn
 go_enter Tryz.func176,Tryz.ntmps176
 go_wp2
 go_loop [8,5] (fun c _=>∃ k:Nat,k <= n/\c=.int .i64 (k:Int)/\(ks.take k).any Z3r=false) (fun c _=>n - (intOf c).toNat)
 case atStart=>exact ⟨0,Nat.zero_le _,rfl,rfl⟩
 case round =>
  obtain ⟨k,hk,rfl,hno⟩:=hrel
  have HNO:=zh hno
  clear hno
  by_cases hlt:k < n
  ·obtain ⟨b,off,u,rfl,_,hu,hcell⟩:=HR.out.get hlt
   obtain ⟨kd,hkd,rfl⟩:=Z7a hu
   have HKD:=zh hkd
   have HB:=zh (ZiO kd w)
   have lc:=Zf hcell
   dsimp only at lc
   clear hu hkd
   have HT:Hid ((ks.take (k+1)).any Z3r=Z3r kd):=by
    show _=_
    rw [List.take_add_one,HKD.out,Option.toList_some,List.any_append,HNO.out]
    simp
   rcases hb:Z3r kd with _ | _
   ·rw [hb] at HB HT
    clear hb
    go_wp2_with fail
    refine HB.out.mono ?_
    rintro e w1 ⟨rfl,rfl⟩
    go_wp2
    go_round
    case rel=>exact ⟨k+1,by omega,by go_num,HT.out⟩
    case measure=>simp [intOf];omega
   ·rw [hb] at HB HT
    clear hb
    have HE:Hid (Z8 (.returned (.int .i64 (k:Int)))):=by
     rw [<- HP.out]
     refine ⟨k,rfl,?_⟩
     have h1:ks.any Z3r=true:=by
      rw [<- List.take_append_drop (k+1) ks,List.any_append,HT.out]
      rfl
     rw [h1]
     exact decide_eq_true (by omega)
    go_wp2_with fail
    refine HB.out.mono ?_
    rintro e w1 ⟨rfl,rfl⟩
    go_wp2
    go_ret
    exact ⟨HE.out,rfl⟩
  ·obtain rfl:k=n:=by omega
   have HE:Hid (Z8 (.returned (.int .i64 (-1)))):=by
    rw [<- HP.out]
    refine ⟨-1,rfl,?_⟩
    have:=HNO.out
    rw [List.take_of_length_le (by rw [HN.out];exact Nat.le_refl _)] at this
    rw [this]
    rfl
   go_wp2
   go_ret
   exact ⟨HE.out,rfl⟩
theorem Zhf {w:World} {S:Nat->Prop} {A:Option Addr} {c n:Nat} {ks:List Nat} (hr:Rd w S 1 A n (Z24 ks)) (hn:ks.length=n) (hc:n <= c) (hm:c <= maxLen) :
  Calls Tryz.prog 144 #[.slice A n c,.func (.func 145) #[] #[]] w fun e w'=>e=.returned (.bool (ks.any Z3r))/\w=w':=by
 have HI:=zh (ZdD hr hn hc hm)
 go_enter Tryz.func144,Tryz.ntmps144
 go_wp2_with fail
 refine HI.out.mono ?_
 rintro e w1 ⟨⟨z,rfl,hz⟩,rfl⟩
 have HZ:=zh hz
 clear hz
 go_wp2
 go_ret
 exact ⟨by rw [<- HZ.out];rfl,rfl⟩
theorem Z6C {w:World} {S:Nat->Prop} {A:Option Addr} {c n:Nat} {ks:List Nat} (hr:Rd w S 1 A n (Z24 ks)) (hn:ks.length=n) (hc:n <= c) (hm:c <= maxLen) :
  Calls Tryz.prog 114 #[.slice A n c] w fun e w'=>e=.returned (.bool (Z36 ks))/\w=w':=by
 have HI:=zh (Zhf hr hn hc hm)
 have HK:Hid (Z36 ks=(decide (0 < n) && decide (n <= 8) && !ks.any Z3r)):=by
  show _=_
  unfold Z36
  rw [hn]
 clear hr hn hc hm
 by_cases h0:0 < n
 ·have h0z:(0:Int) < (n:Int):=by omega
  by_cases h8:n <= 8
  ·have h8z:(n:Int) <= 8:=by omega
   rcases hb:ks.any Z3r with _ | _
   all_goals
    rw [hb] at HI HK
    clear hb
    go_enter Tryz.func114,Tryz.ntmps114
    go_wp2_with fail
    refine HI.out.mono ?_
    rintro e w1 ⟨rfl,rfl⟩
    go_wp2
    go_ret
    exact ⟨by rw [HK.out];simp [h0,h8],rfl⟩
  ·have h8z:¬ (n:Int) <= 8:=by omega
   go_enter Tryz.func114,Tryz.ntmps114
   go_wp2
   go_ret
   exact ⟨by rw [HK.out];simp [h8],rfl⟩
 ·have h0z:¬ (0:Int) < (n:Int):=by omega
  go_enter Tryz.func114,Tryz.ntmps114
  go_wp2
  go_ret
  exact ⟨by rw [HK.out];simp [h0],rfl⟩
theorem Zhg:Z0c Tryz.prog 108 30 1 1:=Z0c.mk' (.int .u8 0) Tryz.underlying108 (by kernel_rfl) rfl (by decide)
def Z04 (t:TE):List Nat:=t.cols.map (fun c=>c.2)
theorem Z9p (t:TE):(Z04 t).length=t.cols.length:=by unfold Z04;rw [List.length_map]
structure Z5k (w w':World) (v:Value) (ks:List Nat):Prop where
 quiet:Quiet w w'
 new:∀ j,v.ownBlock=some j->w.heap.size <= j
 own:w'.ownsRow 0 30 1 v ks.length (Z24 ks)
def Z3B (w:World) (ks:List Nat) (e:Ending) (w':World):Prop:=∃ v,e=.returned v/\Z5k w w' v ks
theorem Z5k.push {w wr w2 w4:World} {v v':Value} {ks:List Nat} {k:Nat} (h:Z5k w wr v ks) (hq:Quiet wr w2) (hg:ZT w2 w4 30 1 v v' (ks.length+1) (Z24 ks ++ [.int .u8 (k:Int)])):Z5k w w4 v' (ks ++ [k]):=by
 have z1:=h.quiet.size
 have z2:=hq.size
 refine ⟨(h.quiet.trans hq).trans' hg.only (fun j hj e=>by have:=h.new j e;omega),fun j e=>?_,?_⟩
 ·rcases hg.loc with y | y
  ·rw [y] at e;exact h.new j e
  ·rw [y] at e;injection e with e;omega
 ·have:=hg.own
  rw [List.length_append,show Z24 (ks ++ [k])=Z24 ks ++ [.int .u8 (k:Int)] by simp [Z24]]
  exact this
theorem Z4d {w:World} {S:Nat->Prop} {t:TE} {c:Nat} {A:Option Addr} (hr:Rd w S 2 A t.cols.length (ZZ t.cols)) (hc:t.cols.length <= c) (hm:c <= maxLen) (hl:t.cols.length <= 1000) :
  Calls Tryz.prog 38 #[Z0g t A c] w (Z3B w (Z04 t)):=by
 have hcell:∀ k p,t.cols[k]?=some p->∃ b off,A=some ⟨b,off,none⟩/\w.cell? ⟨b,off+k * 2,none⟩=some (.string p.1)/\w.cell? ⟨b,off+k * 2+1,none⟩=some (.int .u8 (p.2:Int)):=fun k p hk=>by
  obtain ⟨g1,g2⟩:=ZaI hk
  obtain ⟨b,off,e,_,hcc⟩:=hr.cells (by rw [ZaH];have:=(zi.1 hk).1;omega)
  exact ⟨b,off,e,hcc _ _ g1,by have:=hcc _ _ g2;rw [<- Nat.add_assoc] at this;exact this⟩
 have HC:=zh hcell
 obtain ⟨m,hmm⟩:∃ m,t.cols.length=m:=⟨_,rfl⟩
 have HM:=zh hmm
 unfold maxLen at hm
 unfold Z0g
 rw [hmm] at hl hc ⊢
 have HK0:Hid (Z5k w (w.alloc (.cells #[.int .u64 (t.id:Int),.string t.name,.slice A m c,.int .u64 (t.xmin:Int),.int .u64 (t.xmax:Int)] 90)) (.slice none 0 0) ((Z04 t).take 0)) :=
  ⟨(Z0.refl _ _).alloc _,(fun j e=>by cases e),World.ownsRow_nil _ _ _ _⟩
 obtain ⟨Z8,Z6⟩:∃ Z8,Z3B w (Z04 t)=Z8:=⟨_,rfl⟩
 rw [Z6]
 have Ze:=zh Z6
 clear hr hcell hmm Z6
 go_enter Tryz.func38,Tryz.ntmps38
 go_wp2_with fail
 go_loopw [9,3] (fun i o wr=>∃ (k:Nat) (v:Value),k <= m/\i=.int .i64 (k:Int)/\o=v/\Z5k w wr v ((Z04 t).take k)) (fun i _ _=>m - (intOf i).toNat)
 case atStart=>exact ⟨0,_,Nat.zero_le _,rfl,rfl,HK0.out⟩
 case round =>
  obtain ⟨k,v,hk,rfl,rfl,hF⟩:=hrel
  by_cases hlt:k < m
  ·obtain ⟨p,hp⟩:∃ p,t.cols[k]?=some p:=⟨_,zg (by rw [HM.out];exact hlt)⟩
   obtain ⟨b,off,rfl,h0,h1⟩:=HC.out k p hp
   obtain ⟨nm,kd⟩:=p
   dsimp only at h0 h1
   have c0:=hF.quiet.cell h0 (fun x=>x)
   have c1:=hF.quiet.cell h1 (fun x=>x)
   have lb:=Zf c0
   dsimp only at lb
   have HP:=zh hp
   have hlen:((Z04 t).take k).length=k:=by rw [List.length_take,Z9p,HM.out];omega
   have HF:=zh hF
   have HL:=zh hlen
   have HRN:Hid (Rd ((wr.alloc (.cells #[.string nm,.int .u8 (kd:Int)] 39)).alloc (.cells #[.int .u8 (kd:Int)] 30)) (fun _=>True) 1 (some ⟨wr.heap.size+1,0,none⟩) 1 [.int .u8 (kd:Int)]):=by
    have:=Rd.new (wr.alloc (.cells #[.string nm,.int .u8 (kd:Int)] 39)) 1 1 [.int .u8 (kd:Int)] 30 (fun _=>True) rfl trivial
    rw [World.size_alloc] at this
    exact this
   have HON:=zh (Z5 hF.own (((Z0.refl (fun _=>False) wr).alloc (.cells #[.string nm,.int .u8 (kd:Int)] 39)).alloc (.cells #[.int .u8 (kd:Int)] 30)) (fun _ _ x=>x))
   rw [hlen] at HON
   have HONE:Hid (∀ u ∈ [Value.int .u8 (kd:Int)],u.oneCell'=true):=fun u hu=>by rw [List.mem_singleton] at hu;subst hu;rfl
   clear hF hp h0 h1 hlen HK0
   go_wp2_with (at_builtin;refine app Zhg rfl (.tmp 13) (.tmp 16) rfl rfl HON.out rfl HRN.out HONE.out (by unfold maxLen;omega) (by omega) ?_)
   intro v4 w4 hg4
   have HF4:Hid (Z5k w w4 v4 ((Z04 t).take (k+1))):=by
    have e:(Z04 t).take (k+1)=(Z04 t).take k ++ [kd]:=by
     have e:(Z04 t)[k]?=some kd:=by unfold Z04;rw [List.getElem?_map,HP.out];rfl
     rw [List.take_add_one,e];rfl
    rw [e]
    refine HF.out.push (((Z0.refl (fun _=>False) wr).alloc (.cells #[.string nm,.int .u8 (kd:Int)] 39)).alloc (.cells #[.int .u8 (kd:Int)] 30)) ?_
    rw [HL.out]
    exact hg4
   clear hg4 HON HRN HONE HF c0 c1 lb
   go_wp2
   go_roundw
   case rel=>exact ⟨k+1,_,by omega,by go_num,rfl,HF4.out⟩
   case measure=>simp [intOf];omega
  ·obtain rfl:k=m:=by omega
   have HE:Hid (Z8 (.returned u3) wr):=by
    rw [<- Ze.out]
    have e:(Z04 t).take k=Z04 t:=List.take_of_length_le (by rw [Z9p,HM.out];omega)
    rw [e] at hF
    exact ⟨_,rfl,hF⟩
   clear hF HK0
   go_wp2_with fail
   exact HE.out
def Zx (H:List (List (Option Tup))):Nat->List (Int × Int)
 | 0=>[]
 | k+1=>Zx H k ++ Zk (k:Int) (H.getD k []) (H.getD k []).length
theorem Z1J.join {w wr w4:World} {v v':Value} {l m:List (Int × Int)} (h:Z1J w wr v l) (hg:ZT wr w4 48 2 v v' (l.length+m.length) (ZU l ++ ZU m)):Z1J w w4 v' (l ++ m):=by
 have hsz:=h.quiet.size
 refine ⟨h.quiet.trans' hg.only (fun k hk e=>by have:=h.own k e;omega),?_,fun k e=>?_⟩
 ·unfold TidsAt
  rw [List.length_append,Z54]
  exact hg.own
 ·rcases hg.loc with x | x
  ·rw [x] at e;exact h.own k e
  ·rw [x] at e;injection e with e;omega
theorem Z9q (w:World):(zeroValue 81).run Tryz.prog w=.ok (.pointer none) w:=by kernel_rfl
theorem Z7c {w:World} {sb id:Nat} {o:Nat->Nat} {s:St} {H:List (List (Option Tup))} (h:Zn w sb o s) (hid:U64 id) (hH:s.hs id=some H) (hN:∀ k,k <= H.length->(Zx H k).length <= 1000000) :
  Calls Tryz.prog 31 #[ptrV sb,.int .u64 (id:Int)] w (Z1h w (Zx H H.length)):=by
 obtain ⟨lb,bb,pb,mh,mt,ms,fh,ft,fs,h⟩:=h
 obtain ⟨_,_,_,c3,_⟩:=h.cells
 have lsb:=Zf c3
 dsimp only at lsb
 obtain ⟨hb,hf,hp⟩:=h.heaps.2 id H hH
 have hlk:=h.mH.lookup Tryz.underlying66 Tryz.underlying34 false (Z9q _) hid
 rw [hf] at hlk
 simp only [Bool.false_eq_true,if_false,Option.getD_some] at hlk
 have HP:=zh hp
 have HPG:=zh (Z91 hp)
 have HNN:=zh hN
 have hm:H.length <= 1000000:=by have:=hp.most;omega
 obtain ⟨n,hn⟩:∃ n,H.length=n:=⟨_,rfl⟩
 have HLN:=zh hn
 rw [hn] at HPG hm
 clear h hp hf hN hn
 go_enter Tryz.func31,Tryz.ntmps31
 go_wp2_with fail
 refine HPG.out.mono ?_
 rintro e w1 ⟨rfl,rfl⟩
 rw [HLN.out]
 go_wp2_with fail
 go_loopw [16,5,7] (fun i v _ wr=>∃ (k:Nat) (v':Value),k <= n/\i=.int .i64 (k:Int)/\v=v'/\Z1J w wr v' (Zx H k)) (fun i _ _ _=>n - (intOf i).toNat)
 case atStart=>exact ⟨0,_,Nat.zero_le _,rfl,rfl,Z1J.start (Z0.refl _ _)⟩
 case round =>
  obtain ⟨k,v',hk,rfl,rfl,hW⟩:=hrel
  have HW:=zh hW
  by_cases hlt:k < n
  ·have hT:H[k]?=some (H.getD k []):=by rw [List.getD_eq_getElem?_getD,zg (by rw [HLN.out];exact hlt)];rfl
   have HPL:=zh (Z98 k _ (HP.out.kept hW.quiet (fun _ _ x=>x)) hT)
   have HS:Hid (Zx H (k+1)=Zx H k ++ Zk (k:Int) (H.getD k []) (H.getD k []).length):=rfl
   have hl1:=HNN.out (k+1) (by rw [HLN.out];omega)
   rw [HS.out,List.length_append] at hl1
   generalize Zk (k:Int) (H.getD k []) (H.getD k []).length=m at HPL HS hl1
   clear hW hT
   go_wp2_with fail
   refine HPL.out.mono ?_
   rintro e w2 ⟨v2,rfl,hq2,hn2,ht2⟩
   obtain ⟨A2,c2,rfl,_,_,hrd⟩:=Za ht2
   have HW2:=zh (HW.out.quietly hq2)
   have HRD:=zh hrd
   clear hq2 hn2 ht2 hrd HW HPL
   go_wp2_with (at_builtin;refine app Z56 rfl (.tmp 19) (.tmp 22) rfl rfl HW2.out.row rfl HRD.out (Z55 m) (by unfold maxLen;omega) (by omega) ?_)
   intro v4 w4 hg4
   have HST:=zh (HW2.out.join hg4)
   rw [<- HS.out] at HST
   clear hg4 HW2 HRD HS
   go_wp2
   go_roundw
   case rel=>exact ⟨k+1,_,by omega,by go_num,rfl,HST.out⟩
   case measure=>simp [intOf];omega
  ·obtain rfl:k=n:=by omega
   have HC:Hid (Z1h w (Zx H H.length) (.returned u5) wr):=⟨u5,rfl,hW.quiet,hW.own,by rw [HLN.out];exact hW.row⟩
   clear hW HW
   go_wp2
   go_ret
   exact HC.out
end Go.Proofs.YtobhgnjblniphaaGreatDoor
