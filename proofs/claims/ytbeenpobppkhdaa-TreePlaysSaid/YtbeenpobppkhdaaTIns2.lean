/- The contract of a node's insert, at a node over others; at every node. No condition. -/
import Derived.Test.YtbeenpobppkhdaaTMid
namespace Go.Lap
theorem heads_sub {ks : List Kid} (hne : ∀ x ∈ ks, x.xs ≠ []) : ∀ y ∈ heads ks, y ∈ flat ks := by
  intro y hy
  obtain ⟨x, hx, rfl⟩ := List.mem_map.1 hy
  exact List.mem_flatMap.2 ⟨x, hx, hd_mem (hne x hx)⟩

theorem flat_cons (x : Kid) (ks : List Kid) : flat (x :: ks) = x.xs ++ flat ks := by rw [flat, List.flatMap_cons]
theorem flat_mid (A : List Kid) (x : Kid) (B : List Kid) : flat (A ++ x :: B) = flat A ++ x.xs ++ flat B := by
  rw [flat, List.flatMap_append, List.flatMap_cons, List.append_assoc]

theorem heads_mid (A : List Kid) (x : Kid) (B : List Kid) : heads (A ++ x :: B) = heads A ++ hd x.xs :: heads B := by simp [heads]
theorem bs_mid (A : List Kid) (x : Kid) (B : List Kid) : (A ++ x :: B).map (·.b) = A.map (·.b) ++ x.b :: B.map (·.b) := by simp

theorem rising_heads {ks : List Kid} (hne : ∀ x ∈ ks, x.xs ≠ []) (hs : Rising (ents (flat ks))) : Rising (ents (heads ks)) := by
  induction ks with
  | nil => exact Rising.nil
  | cons x ks ih =>
    rw [flat_cons] at hs
    unfold ents Rising at hs
    rw [List.map_append, List.pairwise_append] at hs
    refine List.pairwise_cons.2 ⟨fun y hy => ?_, ih (fun z hz => hne z (by simp [hz])) hs.2.1⟩
    obtain ⟨z, hz, rfl⟩ := List.mem_map.1 hy
    exact hs.2.2 _ (List.mem_map.2 ⟨_, hd_mem (hne x (by simp)), rfl⟩) _ (List.mem_map.2 ⟨z, heads_sub (fun z hz => hne z (by simp [hz])) z hz, rfl⟩)

/-- First ones are least. -/
theorem hd_least {xs : List EV} (hs : Rising (ents xs)) {y : EV} (hy : y ∈ xs) : (hd xs).e = y.e ∨ cmpE (hd xs).e y.e < 0 := by
  rcases xs with _ | ⟨x, xs⟩
  · simp at hy
  · rcases List.mem_cons.1 hy with rfl | hy
    · exact Or.inl rfl
    · exact Or.inr ((List.pairwise_cons.1 hs).1 _ (List.mem_map.2 ⟨y, hy, rfl⟩))
end Go.Lap
namespace Go.Proofs.Ytbeenpobppkhdaa
open Go.RowKit Go.Lap

/-- Where an entry goes below a node. -/
structure Goes (t : Ent) (A : List Kid) (x : Kid) (B : List Kid) : Prop where
  left : ∀ a ∈ flat A, cmpE a.e t < 0
  right : ∀ b ∈ flat B, cmpE t b.e < 0
  mem : t ∈ ents (flat (A ++ x :: B)) ↔ t ∈ ents x.xs
  rise : Rising (ents x.xs)

theorem goes_of {t : Ent} {A B : List Kid} {x : Kid} (hne : ∀ y ∈ A ++ x :: B, y.xs ≠ []) (hs : Rising (ents (flat (A ++ x :: B)))) (hb : Below1 t (ents (heads (A ++ x :: B))) A.length) : Goes t A x B := by
  have hs' := hs
  rw [flat_mid] at hs
  unfold ents Rising at hs
  rw [List.map_append, List.map_append, List.pairwise_append, List.pairwise_append] at hs
  obtain ⟨⟨_, hx, hAx⟩, hB, _⟩ := hs
  have hL : ∀ a ∈ flat A, cmpE a.e t < 0 := by
    intro a ha
    rcases hb.left with h0 | h0
    · have : A = [] := List.eq_nil_of_length_eq_zero h0
      subst this
      simp [flat] at ha
    · have h1 := h0 (hd x.xs).e (by unfold ents heads; simp)
      have h2 := hAx _ (List.mem_map.2 ⟨a, ha, rfl⟩) _ (List.mem_map.2 ⟨_, hd_mem (hne x (by simp)), rfl⟩)
      by_cases h3 : cmpE t (hd x.xs).e = 0
      · rw [(cmpE_zero _ _).1 h3]; exact h2
      · exact cmpE_trans h2 (by rw [cmpE_swap t]; omega)
  have hR : ∀ b ∈ flat B, cmpE t b.e < 0 := by
    intro c hc
    obtain ⟨y, hy, hcy⟩ := List.mem_flatMap.1 hc
    obtain ⟨j, hj⟩ := List.mem_iff_getElem?.1 hy
    have h1 : (ents (heads (A ++ x :: B)))[A.length + 1 + j]? = some (hd y.xs).e := by
      unfold ents heads
      rw [List.getElem?_map, List.getElem?_map, List.getElem?_append_right (by omega), show A.length + 1 + j - A.length = j + 1 by omega, List.getElem?_cons_succ, hj]
      rfl
    have h2 := hb.right _ _ (by omega) h1
    have hyr : Rising (ents y.xs) := by
      have hmem : ∀ l : List Kid, y ∈ l → Rising (ents (flat l)) → Rising (ents y.xs) := by
        intro l hl hr
        induction l with
        | nil => simp at hl
        | cons z l ih =>
          rw [flat_cons] at hr
          unfold ents Rising at hr
          rw [List.map_append, List.pairwise_append] at hr
          rcases List.mem_cons.1 hl with rfl | hl
          · exact hr.1
          · exact ih hl hr.2.1
      exact hmem _ (by simp [hy]) hs'
    rcases hd_least hyr hcy with e | e
    · rw [← e]; exact h2
    · exact cmpE_trans h2 e
  refine ⟨hL, hR, ?_, hx⟩
  rw [flat_mid]
  unfold ents
  rw [List.map_append, List.map_append, List.mem_append, List.mem_append]
  constructor
  · rintro ((h | h) | h)
    · obtain ⟨a, ha, e⟩ := List.mem_map.1 h
      have := hL a ha
      rw [e, cmpE_self] at this
      omega
    · exact h
    · obtain ⟨a, ha, e⟩ := List.mem_map.1 h
      have := hR a ha
      rw [e, cmpE_self] at this
      omega
  · exact fun h => Or.inl (Or.inr h)

theorem Goes.ins {e : EV} {A B : List Kid} {x : Kid} (h : Goes e.e A x B) : insX e (flat (A ++ x :: B)) = flat A ++ insX e x.xs ++ flat B := by
  rw [flat_mid]
  refine insX_mid h.left (fun b hb x => ?_)
  have := cmpE_trans (h.right b hb) x
  rw [cmpE_self] at this
  omega

/-- The kids, parted at a place. -/
theorem parted {α : Type} {ks : List α} {i : Nat} (h : i < ks.length) : ∃ A x B, ks = A ++ x :: B ∧ A.length = i ∧ ks[i]? = some x := by
  refine ⟨ks.take i, ks[i], ks.drop (i + 1), ?_, by rw [List.length_take]; omega, List.getElem?_eq_getElem h⟩
  rw [List.getElem_cons_drop, List.take_append_drop]

theorem set_mid {α : Type} (A : List α) (x y : α) (B : List α) : (A ++ x :: B).set A.length y = A ++ y :: B := by simp

theorem row_two (P Q : List EV) (y z : EV) : (rowV (P ++ y :: Q)).take ((P.length + 1) * 3) ++ z.cells ++ (rowV (P ++ y :: Q)).drop ((P.length + 1) * 3) = rowV (P ++ y :: z :: Q) := by
  rw [← rowV_take, ← rowV_drop, show P ++ y :: Q = (P ++ [y]) ++ Q by simp, List.take_left' (by simp), List.drop_left' (by simp), show P ++ y :: z :: Q = (P ++ [y]) ++ ([z] ++ Q) by simp, rowV_append (P ++ [y]) ([z] ++ Q), rowV_append [z] Q, rowV_one, List.append_assoc]

theorem ptr_two (P Q : List Nat) (y z : Nat) : ((P ++ y :: Q).map ptrV).take (P.length + 1) ++ [ptrV z] ++ ((P ++ y :: Q).map ptrV).drop (P.length + 1) = (P ++ y :: z :: Q).map ptrV := by
  rw [← List.map_take, ← List.map_drop, show P ++ y :: Q = (P ++ [y]) ++ Q by simp, List.take_left' (by simp), List.drop_left' (by simp)]
  simp

theorem insertE_z {z : Int} (v : Value) (n i vb : Nat) (xs news : List Value) (w : World) (hz : z = (i : Int)) (hown : w.ownsRow 0 34 3 v n xs) (hnl : news.length = 3) (hnew : w.heap[vb]? = some (.cells news.toArray 34 (0, 0))) (h1 : ∀ u ∈ news, u.oneCell' = true) (hx1 : ∀ u ∈ xs, u.oneCell' = true) (hn : n ≤ 100000) (hi : i ≤ n) (hvb : v.ownBlock ≠ some vb) :
    Calls Try.prog 40 #[v, .int .i64 z, .slice (some ⟨vb, 0, none⟩) 1 1] w fun e w' => ∃ v', e = .returned v' ∧ Grew w w' 34 3 v v' (n + 1) (xs.take (i * 3) ++ news ++ xs.drop (i * 3)) := by
  subst hz
  exact insertE_any v n i vb xs news w hown hnl hnew h1 hx1 hn hi hvb

theorem insertN_z {z : Int} (v : Value) (n i vb : Nat) (xs news : List Value) (w : World) (hz : z = (i : Int)) (hown : w.ownsRow 0 59 1 v n xs) (hnl : news.length = 1) (hnew : w.heap[vb]? = some (.cells news.toArray 59 (0, 0))) (h1 : ∀ u ∈ news, u.oneCell' = true) (hx1 : ∀ u ∈ xs, u.oneCell' = true) (hn : n ≤ 100000) (hi : i ≤ n) (hvb : v.ownBlock ≠ some vb) :
    Calls Try.prog 42 #[v, .int .i64 z, .slice (some ⟨vb, 0, none⟩) 1 1] w fun e w' => ∃ v', e = .returned v' ∧ Grew w w' 59 1 v v' (n + 1) (xs.take i ++ news ++ xs.drop i) := by
  subst hz
  exact insertN_any v n i vb xs news w hown hnl hnew h1 hx1 hn hi hvb

/-- One more in its row. -/
theorem Mid.insE {K F : Nat → Prop} {h : Nat} {w0 w : World} {b g n c i : Nat} {u : Value} {P Q : List EV} {y x : EV} {ps : List Nat} {ks : List Kid} {z : Int} (hm : Mid K h w0 w b F (.slice (some ⟨g, 0, none⟩) n c) u (P ++ y :: Q) ps ks) (hz : z = (i : Int) + 1) (hP : P.length = i) (hn : n ≤ 50000) :
    Calls Try.prog 40 #[.slice (some ⟨g, 0, none⟩) n c, .int .i64 z, .slice (some ⟨w.heap.size, 0, none⟩) 1 1] (w.alloc (.cells #[.slice x.A x.e.key.length x.c, .int .i64 x.e.pg, .int .i64 x.e.sl] 34)) fun e w8 =>
      ∃ A8 c8, e = .returned (.slice A8 (n + 1) c8) ∧ w8.cell? ⟨b, 0, none⟩ = some (.slice (some ⟨g, 0, none⟩) n c) ∧ (∀ o, w8.frozen? ⟨b, o, none⟩ = false) ∧ Mid K h w0 (w8.setCell ⟨b, 0, none⟩ (.slice A8 (n + 1) c8)) b F (.slice A8 (n + 1) c8) u (P ++ y :: x :: Q) ps ks := by
  obtain ⟨A', c', he, _, _, _⟩ := own_form hm.row
  have hlen : (P ++ y :: Q).length = n := by injection he with _ he _; exact he.symm
  have hil : i + 1 ≤ n := by rw [← hlen, ← hP]; simp
  have hgl : g < w.heap.size := (hm.row.lt g rfl).2
  have hrow := owns_kept hm.row ((Only.refl (fun _ => False) w).alloc (.cells #[.slice x.A x.e.key.length x.c, .int .i64 x.e.pg, .int .i64 x.e.sl] 34)) (fun _ _ x => x)
  rw [hlen] at hrow
  refine (insertE_z (z := z) _ n (i + 1) w.heap.size (rowV (P ++ y :: Q)) x.cells _ (by omega) hrow rfl (alloc_new w _) (fun u hu => one_row [x] u (by rw [rowV_one]; exact hu)) (one_row _) (by omega) hil (fun e => by have e2 : g = w.heap.size := Option.some.inj e; omega)).mono ?_
  rintro e w8 ⟨v8, rfl, hg⟩
  obtain ⟨A8, c8, hv8, _, _, _⟩ := own_form hg.own
  subst hv8
  have hb8 := hg.only.get (alloc_old hm.box _) (fun e => hm.bn.1 b e rfl)
  rw [← hP, row_two] at hg
  have hl2 : (P ++ y :: x :: Q).length = n + 1 := by rw [← hlen]; simp; omega
  refine ⟨A8, c8, rfl, by rw [cell_of hb8]; rfl, fun o => frozen_of hb8 o, hm.grow ((Only.refl _ _).alloc _) (by rw [hl2]; exact hg)⟩

/-- One more in its kids' row. -/
theorem Mid.insN {K F : Nat → Prop} {h : Nat} {w0 w : World} {b g n c i r : Nat} {v : Value} {ys : List EV} {P Q : List Nat} {y : Nat} {ks : List Kid} {z : Int} (hm : Mid K h w0 w b F v (.slice (some ⟨g, 0, none⟩) n c) ys (P ++ y :: Q) ks) (hz : z = (i : Int) + 1) (hP : P.length = i) (hn : n ≤ 50000) :
    Calls Try.prog 42 #[.slice (some ⟨g, 0, none⟩) n c, .int .i64 z, .slice (some ⟨w.heap.size, 0, none⟩) 1 1] (w.alloc (.cells #[ptrV r] 59)) fun e w8 =>
      ∃ A8 c8, e = .returned (.slice A8 (n + 1) c8) ∧ w8.cell? ⟨b, 1, none⟩ = some (.slice (some ⟨g, 0, none⟩) n c) ∧ (∀ o, w8.frozen? ⟨b, o, none⟩ = false) ∧ Mid K h w0 (w8.setCell ⟨b, 1, none⟩ (.slice A8 (n + 1) c8)) b F v (.slice A8 (n + 1) c8) ys (P ++ y :: r :: Q) ks := by
  obtain ⟨A', c', he, _, _, _⟩ := own_form hm.kids
  have hlen : (P ++ y :: Q).length = n := by injection he with _ he _; exact he.symm
  have hil : i + 1 ≤ n := by rw [← hlen, ← hP]; simp
  have hgl : g < w.heap.size := (hm.kids.lt g rfl).2
  have hrow := owns_kept hm.kids ((Only.refl (fun _ => False) w).alloc (.cells #[ptrV r] 59)) (fun _ _ x => x)
  rw [hlen] at hrow
  refine (insertN_z (z := z) _ n (i + 1) w.heap.size ((P ++ y :: Q).map ptrV) [ptrV r] _ (by omega) hrow rfl (alloc_new w _) (one_ptr [r]) (one_ptr _) (by omega) hil (fun e => by have e2 : g = w.heap.size := Option.some.inj e; omega)).mono ?_
  rintro e w8 ⟨v8, rfl, hg⟩
  obtain ⟨A8, c8, hv8, _, _, _⟩ := own_form hg.own
  subst hv8
  have hb8 := hg.only.get (alloc_old hm.box _) (fun e => hm.bn.2.1 b e rfl)
  rw [← hP, ptr_two] at hg
  have hl2 : (P ++ y :: r :: Q).length = n + 1 := by rw [← hlen]; simp; omega
  refine ⟨A8, c8, rfl, by rw [cell_of hb8]; rfl, fun o => frozen_of hb8 o, hm.growKids ((Only.refl _ _).alloc _) (by rw [hl2]; exact hg)⟩

def InsIH (K : Nat → Prop) (h : Nat) : Prop := ∀ (w : World) (b : Nat) (F : Nat → Prop) (xs : List EV) (e : EV), NodeAt K h w b F xs → (∀ k, K k → ¬ F k ∧ k < w.heap.size) → Keyd w K e → Rising (ents xs) → xs.length ≤ 50000 →
  Calls Try.prog 28 #[ptrV b, entV e.e e.A e.c] w (InsPost K h w b F xs e)

set_option maxHeartbeats 4000000 in
set_option maxRecDepth 100000 in
theorem insert_inner {K F : Nat → Prop} {h : Nat} {w : World} {b : Nat} {v u : Value} {ks : List Kid} {e : EV} (hih : InsIH K h) (hi : Inner (NodeAt K h) w b F v u ks) (hlim : ∀ k, F k → k < w.heap.size) (hK : ∀ k, K k → ¬ F k ∧ k < w.heap.size) (he : Keyd w K e) (hs : Rising (ents (flat ks))) (hn : (flat ks).length ≤ 50000) (hkl : ks.length ≤ (flat ks).length) :
    Calls Try.prog 28 #[ptrV b, entV e.e e.A e.c] w (InsPost K (h + 1) w b F (flat ks) e) := by
  have hhl : (heads ks).length = ks.length := by simp
  have hne : ∀ x ∈ ks, x.xs ≠ [] := fun x hx => (hi.kid x hx).1
  have hrh := rising_heads hne hs
  have h2 := hi.two
  have hb1 := below_spec (t := e.e) hrh (by intro x; have := congrArg List.length x; simp at this; rw [this] at h2; simp at h2)
  obtain ⟨i, hie⟩ : ∃ i, belowE e.e (ents (heads ks)) = i := ⟨_, rfl⟩
  rw [hie] at hb1
  have hil : i < ks.length := by have := hb1.lt; simpa using this
  obtain ⟨A, x, B, hks, hAi, _⟩ := parted hil
  subst hks
  rw [← hAi] at hb1
  have HGO := Lib.hid (goes_of hne hs hb1)
  obtain ⟨gu, cu, hu, hcu, hcum⟩ := hi.form
  obtain ⟨g, c, hv, hc, hcm⟩ : ∃ g c, v = .slice (some ⟨g, 0, none⟩) (A ++ x :: B).length c ∧ (A ++ x :: B).length ≤ c ∧ c ≤ maxLen := by
    rcases owns_cases hi.row with ⟨_, e⟩ | ⟨g, c, e, h1, h2'⟩
    · omega
    · rw [hhl] at e h1
      exact ⟨g, c, e, h1, h2'⟩
  have hm0 := Mid.start hi hlim hK
  obtain ⟨n, hnn⟩ : ∃ n, (A ++ x :: B).length = n := ⟨_, rfl⟩
  rw [hnn] at hv hu hc hcu hil h2
  rw [hv, hu] at hm0
  have hq0 : Quiet w (w.alloc (.cells #[.slice e.A e.e.key.length e.c, .int .i64 e.e.pg, .int .i64 e.e.sl] 34)) := (Only.refl _ _).alloc _
  have hm1 := hm0.quietly hq0
  have HM1 := Lib.hid hm1
  have HE1 := Lib.hid (he.quietly hq0)
  have HBX1 := Lib.hid (alloc_new w (.cells #[.slice e.A e.e.key.length e.c, .int .i64 e.e.pg, .int .i64 e.e.sl] 34))
  have HLF := Lib.hid (leaf_any b _ _ _ _ _ hm1.box)
  have hkey1 : ∀ y ∈ heads (A ++ x :: B), Keyd (w.alloc (.cells #[.slice e.A e.e.key.length e.c, .int .i64 e.e.pg, .int .i64 e.e.sl] 34)) K y := fun y hy => by
    obtain ⟨z, hz, rfl⟩ := List.mem_map.1 hy
    exact (hm1.kid z hz).2.key _ (hd_mem (hne z hz))
  have HBE := Lib.hid (below_any b _ _ (heads (A ++ x :: B)) e K K _ hm1.box hm1.row hkey1 HE1.out hrh (by rw [hhl]; omega))
  rw [hie] at HBE
  obtain ⟨t0, t1, t2⟩ := ent_cells HBX1.out
  have HIH := Lib.hid hih
  have HNN := Lib.hid hnn
  have HAI := Lib.hid hAi
  have hxl : Hid (x.xs.length ≤ 50000) := by show _ ≤ _; rw [flat_mid] at hn; simp at hn; omega
  have hn5 : n ≤ 50000 := by omega
  obtain ⟨POST, hPOST⟩ : ∃ POST, InsPost K (h + 1) w b F (flat (A ++ x :: B)) e = POST := ⟨_, rfl⟩
  rw [hPOST]
  have HPOST := Lib.hid hPOST
  have hcm' : c ≤ 9223372036854775807 := by unfold maxLen at hcm; omega
  have hcum' : cu ≤ 9223372036854775807 := by unfold maxLen at hcum; omega
  clear hih hi hlim hK he hs hn hkl hhl hne hrh hb1 hie hu hv hm0 hq0 hm1 hkey1 hnn hAi hcm hcum hPOST
  go_enter Try.func28, Try.ntmps28
  go_wp2_with fail
  refine HLF.out.mono ?_
  rintro r w1 ⟨rfl, rfl⟩
  go_wp2_with fail
  refine HBE.out.mono ?_
  rintro r w2 ⟨rfl, hq2⟩
  have hm2 := HM1.out.quietly hq2
  have HM2 := Lib.hid hm2
  have HE2 := Lib.hid (HE1.out.quietly hq2)
  have HBX2 := Lib.hid (hq2.get HBX1.out (fun x => x))
  have b1 : w2.cell? ⟨b, 1, none⟩ = some (.slice (some ⟨gu, 0, none⟩) n cu) := by rw [cell_of hm2.box]; rfl
  have p1 : w2.cell? ⟨gu, i, none⟩ = some (ptrV x.b) := by
    have := hm2.kids.cells rfl i (ptrV x.b) (by rw [List.getElem?_map, List.getElem?_map, ← HAI.out]; simp)
    rw [add_none, Nat.zero_add] at this
    exact this
  obtain ⟨t0, t1, t2⟩ := ent_cells HBX2.out
  have d0 : (0 : Int) ≤ (i : Int) := by omega
  have d1 : (i : Int) < (n : Int) := by omega
  have HIN := Lib.hid (HIH.out w2 x.b x.F x.xs e (hm2.kid x (by simp)).2 (fun k hk => ⟨fun y => hm2.nokey hk (hm2.sub x (by simp) k y).1, by have := (hm2.keys k hk).2; have := hm2.only.size; omega⟩) HE2.out HGO.out.rise hxl.out)
  clear hq2 hm2 HM1 HE1 HBX1 HLF HBE HIH
  go_wp2_with fail
  refine HIN.out.mono ?_
  rintro r w3 (⟨hmem, rfl, ho3, hn3⟩ | ⟨hmem, rfl, ho3, hn3⟩)
  · have hm3 := HM2.out.put ho3 hn3 (HM2.out.kid x (by simp)).1
    rw [heads_mid, bs_mid] at hm3
    have HR : Hid (POST (.returned (.bool false)) w3) := by
      rw [← HPOST.out]
      refine Or.inl ⟨HGO.out.mem.2 hmem, rfl, hm3.only, ?_⟩
      have := Mid.done (ks := A ++ ⟨x.b, fun k => (x.F k ∨ w2.heap.size ≤ k) ∧ k < w3.heap.size, x.xs⟩ :: B) (by rw [heads_mid, bs_mid]; exact hm3) (by have := HNN.out; simp at this ⊢; omega)
      rw [flat_mid] at this ⊢
      exact this
    clear hm3 hmem ho3 hn3 HIN HM2 HE2 HBX2 b1 p1 t0 t1 t2
    go_wp2
    exact HR.out
  · have hm3 := HM2.out.put ho3 hn3 (insX_ne e x.xs)
    rw [heads_mid, bs_mid] at hm3
    have HM3 := Lib.hid hm3
    have HMEM := Lib.hid hmem
    have hq3d : Quiet w3 w3.drew := (Only.refl _ _).drew
    have HLE := Lib.hid (least_any ((hm3.quietly hq3d).kid _ (List.mem_append_right A List.mem_cons_self)).2 (insX_ne e x.xs))
    have b3 : w3.cell? ⟨b, 0, none⟩ = some (.slice (some ⟨g, 0, none⟩) n c) := by rw [cell_of hm3.box]; rfl
    have hgb : g ≠ b := hm3.bn.1 g rfl
    have hgl : g < w3.heap.size := (hm3.row.lt g rfl).2
    have hys : Hid ((heads A ++ hd x.xs :: heads B)[i]? = some (hd x.xs)) := by show _ = _; rw [← HAI.out]; simp [heads]
    clear hm3 hmem ho3 hn3 HIN HM2 HE2 HBX2 b1 p1 t0 t1 t2 hq3d
    go_wp2_with fail
    go_region_held3 (fun w' => w'.cell? ⟨b, 0, none⟩ = some (.slice (some ⟨g, 0, none⟩) n c))
      (first | go_keep | fail)
      (first
        | (go_at_call 31; go_must (refine HLE.out.mono ?_; rintro r w4 ⟨rfl, hq4⟩; have k0 := hq4.cell b3 (fun x => x); have hm4 := (HM3.out.quietly ((Only.refl (fun _ => False) w3).drew)).quietly hq4; obtain ⟨s0, s1, s2⟩ := row_at hm4.row hys.out (Only.refl _ _); obtain ⟨rc, hrc⟩ := own_blk hm4.row (k := g) rfl; have sf := fun o => frozen_of hrc o))
        | fail)
    have hlen : (heads A ++ hd x.xs :: heads B).length = n := by have := HNN.out; simp [heads] at this ⊢; omega
    have hm5 := hm4.lay (j := i) hlen (hd (insX e x.xs))
    rw [show (heads A ++ hd x.xs :: heads B).set i (hd (insX e x.xs)) = heads A ++ hd (insX e x.xs) :: heads B by rw [show i = (heads A).length by rw [← HAI.out]; simp [heads]]; exact set_mid _ _ _ _] at hm5
    have HM5 := Lib.hid hm5
    clear hm5 hm4 hq4 k0 s0 s1 s2 rc hrc sf HLE b3 HM3 hgb hgl hys hlen
    generalize (((w4.setCell ⟨g, i * 3, none⟩ (.slice (hd (insX e x.xs)).A (hd (insX e x.xs)).e.key.length (hd (insX e x.xs)).c)).setCell ⟨g, i * 3 + 1, none⟩ (.int .i64 (hd (insX e x.xs)).e.pg)).setCell ⟨g, i * 3 + 2, none⟩ (.int .i64 (hd (insX e x.xs)).e.sl)) = w5 at HM5 ⊢
    obtain ⟨x5, HX5⟩ : ∃ x5 : Kid, Hid (x5.b = x.b ∧ x5.xs = insX e x.xs ∧ Mid K h w w5 b F (.slice (some ⟨g, 0, none⟩) n c) (.slice (some ⟨gu, 0, none⟩) n cu) (heads A ++ hd (insX e x.xs) :: heads B) (A.map (·.b) ++ x.b :: B.map (·.b)) (A ++ x5 :: B)) := ⟨⟨x.b, fun k => (x.F k ∨ w2.heap.size ≤ k) ∧ k < w3.heap.size, insX e x.xs⟩, rfl, rfl, HM5.out⟩
    have hsp := split_any (HX5.out.2.2.kid x5 (by simp)).2 (fun j hj hx => HX5.out.2.2.nokey hj (HX5.out.2.2.sub x5 (by simp) j hx).1) (by rw [HX5.out.2.1, insX_length]; have := hxl.out; omega)
    rw [HX5.out.1] at hsp
    have HSP := Lib.hid hsp
    have HLEN : Hid ((A ++ x5 :: B).length = n) := by have := HNN.out; show _ = _; simp at this ⊢; omega
    clear hsp HM5
    go_wp2_with fail
    refine HSP.out.mono ?_
    rintro r w6 (⟨rfl, rfl⟩ | ⟨r, F1, F2, x1, x2, rfl, hc6⟩)
    · have HR : Hid (POST (.returned (.bool true)) w5) := by
        rw [← HPOST.out]
        refine Or.inr ⟨fun z => HMEM.out (HGO.out.mem.1 z), rfl, HX5.out.2.2.only, ?_⟩
        have := Mid.done (ks := A ++ x5 :: B) (by rw [heads_mid, bs_mid, HX5.out.1, HX5.out.2.1]; exact HX5.out.2.2) (by rw [HLEN.out]; exact h2)
        rw [flat_mid, HX5.out.2.1] at this
        rw [HGO.out.ins]
        exact this
      clear HSP HX5
      go_wp2
      exact HR.out
    · rw [← HX5.out.1] at hc6
      obtain ⟨G1, G2, hm6⟩ := HX5.out.2.2.cleave hc6
      have hall := hc6.all
      rw [HX5.out.2.1] at hall
      have hh1 : hd (insX e x.xs) = hd x1 := by rw [hall]; exact hd_append hc6.ne1 _
      rw [hh1, HX5.out.1] at hm6
      have HALL := Lib.hid hall
      have HM6 := Lib.hid hm6
      have HLR := Lib.hid (least_any (xs := x2) ((hm6.quietly ((Only.refl (fun _ => False) w6).drew)).kid ⟨r, G2, x2⟩ (by simp)).2 hc6.ne2)
      have k6 : w6.cell? ⟨b, 0, none⟩ = some (.slice (some ⟨g, 0, none⟩) n c) := by rw [cell_of hm6.box]; rfl
      have hlen : Hid ((heads A ++ hd x1 :: heads B).length = n) := by have := HNN.out; show _ = _; simp [heads] at this ⊢; omega
      have hhA : Hid ((heads A).length = i) := by show _ = _; rw [← HAI.out]; simp [heads]
      have dw : IntKind.i64.wrap ((i : Int) + 1) = (i : Int) + 1 := wrapI (by omega)
      have hgl : g < w6.heap.size := (hm6.row.lt g rfl).2
      have hgb : Hid (g ≠ b) := hm6.bn.1 g rfl
      clear hm6 hall hh1 hc6 HSP HX5
      go_upto_region 14 with fail
      go_cut [] (fun wx => ∃ v7, Mid K h w wx b F v7 (.slice (some ⟨gu, 0, none⟩) n cu) (heads A ++ hd x1 :: hd x2 :: heads B) (A.map (·.b) ++ x.b :: B.map (·.b)) (A ++ ⟨x.b, G1, x1⟩ :: ⟨r, G2, x2⟩ :: B))
      case first =>
        go_region_law (first
          | (go_simp; go_at_call 31; refine HLR.out.mono ?_; rintro r' w7 ⟨rfl, hq7⟩; have k7 := hq7.cell k6 (fun x => x); have k7a : (w7.alloc (.cells #[.slice (hd x2).A (hd x2).e.key.length (hd x2).c, .int .i64 (hd x2).e.pg, .int .i64 (hd x2).e.sl] 34)).cell? ⟨b, 0, none⟩ = some (.slice (some ⟨g, 0, none⟩) n c) := ((Only.refl (fun _ => False) w7).alloc _).cell k7 (fun x => x); have hm7 := (HM6.out.quietly ((Only.refl (fun _ => False) w6).drew)).quietly hq7; have hz7 := hq7.size)
          | (go_simp; go_at_call 40; refine (hm7.insE (x := hd x2) rfl hhA.out hn5).mono ?_; rintro r' w8 ⟨A8, c8, rfl, s1, s2, hm8⟩)
          | fail)
        all_goals
          go_wp2_with fail
          go_meet
          exact ⟨_, hm8⟩
      case rest =>
        obtain ⟨v7, hm7⟩ := hcut
        have HM7 := Lib.hid hm7
        have b7 : wc.cell? ⟨b, 1, none⟩ = some (.slice (some ⟨gu, 0, none⟩) n cu) := by rw [cell_of hm7.box]; rfl
        have HIN7 := Lib.hid (hm7.insN (r := r) (z := (i : Int) + 1) rfl (show (A.map (·.b)).length = i by rw [← HAI.out]; simp) hn5)
        clear hm7 HLR k6 HM6 dw
        go_wp2_with fail
        refine HIN7.out.mono ?_
        rintro r' w9 ⟨A9, c9, rfl, s1, s2, hm9⟩
        have HR : Hid (POST (.returned (.bool true)) (w9.setCell ⟨b, 1, none⟩ (.slice A9 (n + 1) c9))) := by
          rw [← HPOST.out]
          refine Or.inr ⟨fun z => HMEM.out (HGO.out.mem.1 z), rfl, hm9.only, ?_⟩
          have := Mid.done (ks := A ++ ⟨x.b, G1, x1⟩ :: ⟨r, G2, x2⟩ :: B) (by
            rw [heads_mid, bs_mid]
            exact hm9) (by simp; omega)
          rw [flat_mid, flat_cons] at this
          rw [HGO.out.ins, HALL.out]
          simp only [List.append_assoc] at this ⊢
          exact this
        clear hm9 HIN7 HM7 b7
        go_wp2
        exact HR.out

theorem flat_le {ks : List Kid} (hk : ∀ x ∈ ks, x.xs ≠ []) : ks.length ≤ (flat ks).length := by
  induction ks with
  | nil => simp
  | cons x ks ih =>
    have h1 := List.length_pos_iff.2 (hk x (by simp))
    have h2 := ih (fun y hy => hk y (by simp [hy]))
    rw [flat_cons, List.length_append, List.length_cons]
    omega

theorem insert_ih (K : Nat → Prop) (h : Nat) : InsIH K h := by
  induction h with
  | zero =>
    intro w b F xs e ⟨v, hl⟩ hK he hs hn
    exact insert_leaf hl hK he hs hn
  | succ h ih =>
    intro w b F xs e hn hK he hs hl
    obtain ⟨v, u, ks, hi, rfl⟩ := hn.lim
    refine (insert_inner ih hi (fun k hk => hk.2) (fun k hk => ⟨fun x => (hK k hk).1 x.1, (hK k hk).2⟩) he hs hl (flat_le (fun x hx => (hi.kid x hx).1))).mono ?_
    rintro r w' (⟨h1, h2, h3, h4⟩ | ⟨h1, h2, h3, h4⟩)
    · exact Or.inl ⟨h1, h2, h3.mono (fun _ _ x => x.1), h4.mono (fun k x => x.imp (fun y => y.1) id)⟩
    · exact Or.inr ⟨h1, h2, h3.mono (fun _ _ x => x.1), h4.mono (fun k x => x.imp (fun y => y.1) id)⟩

end Go.Proofs.Ytbeenpobppkhdaa
