/- The contract of the tree's Delete. No condition. -/
import Derived.Test.YtbeenpobppkhdaaTDelete
import Derived.Test.YtbeenpobppkhdaaTLaw
namespace Go.Lap
/-- With one fewer. -/
def delE (e : Ent) (l : List Ent) : List Ent := l.take (posE e l) ++ l.drop (posE e l + 1)

theorem Rising.del {e : Ent} {l : List Ent} (h : Rising l) : Rising (delE e l) := by
  refine List.Pairwise.sublist ?_ h
  unfold delE
  conv => rhs; rw [← List.take_append_drop (posE e l) l]
  refine List.Sublist.append (List.Sublist.refl _) ?_
  rw [← List.drop_drop]
  exact List.drop_sublist _ _

theorem mem_delE {e x : Ent} {l : List Ent} (h : Rising l) (he : e ∈ l) : x ∈ delE e l ↔ x ∈ l ∧ x ≠ e := by
  have hp := (posE_mem h).1 he
  have hl : l = l.take (posE e l) ++ e :: l.drop (posE e l + 1) := by
    have h1 := (List.getElem?_eq_some_iff.1 hp)
    conv => lhs; rw [← List.take_append_drop (posE e l) l, List.drop_eq_getElem_cons h1.1, h1.2]
  have hh := h
  rw [hl] at hh
  unfold Rising at hh
  rw [List.pairwise_append, List.pairwise_cons] at hh
  obtain ⟨_, ⟨h1, _⟩, h2⟩ := hh
  have n1 : e ∉ l.take (posE e l) := fun z => by have := h2 e z e (by simp); rw [cmpE_self] at this; omega
  have n2 : e ∉ l.drop (posE e l + 1) := fun z => by have := h1 e z; rw [cmpE_self] at this; omega
  have hm : x ∈ l ↔ x ∈ l.take (posE e l) ∨ x = e ∨ x ∈ l.drop (posE e l + 1) := by
    conv => lhs; rw [hl]
    rw [List.mem_append, List.mem_cons]
  rw [hm]
  unfold delE
  rw [List.mem_append]
  constructor
  · rintro (z | z)
    · exact ⟨Or.inl z, fun u => n1 (u ▸ z)⟩
    · exact ⟨Or.inr (Or.inr z), fun u => n2 (u ▸ z)⟩
  · rintro ⟨z | z | z, u⟩
    · exact Or.inl z
    · exact absurd z u
    · exact Or.inr z

theorem delE_length {e : Ent} {l : List Ent} (h : Rising l) (he : e ∈ l) : (delE e l).length + 1 = l.length := by
  have h1 := (List.getElem?_eq_some_iff.1 ((posE_mem h).1 he)).1
  unfold delE
  rw [List.length_append, List.length_take, List.length_drop]
  omega

theorem ents_del (xs : List EV) (i : Nat) : ents (xs.take i ++ xs.drop (i + 1)) = (ents xs).take i ++ (ents xs).drop (i + 1) := by
  unfold ents
  rw [List.map_append, List.map_take, List.map_drop]
end Go.Lap
namespace Go.Proofs.Ytbeenpobppkhdaa
open Go.RowKit Go.Lap

def delPostT (w : World) (D : Nat → Prop) (tb : Nat) (es : List Ent) (e : Ent) (r : Ending) (w' : World) : Prop :=
  (e ∉ es ∧ r = .returned (.int .i64 15) ∧ Only D w w' ∧ TreeIs w' (fun k => D k ∨ w.heap.size ≤ k) tb es) ∨
  (e ∈ es ∧ r = .returned (.int .i64 0) ∧ Only D w w' ∧ TreeIs w' (fun k => D k ∨ w.heap.size ≤ k) tb (delE e es))

/-- Blocks beside it turn. -/
theorem TreeMid.aside {w0 w w' : World} {D S : Nat → Prop} {tb rb h : Nat} {F K : Nat → Prop} {xs : List EV} {cnt : Int} (hm : TreeMid w0 w D tb rb h F K xs cnt) (ho : Only S w w') (hS : ∀ k, S k → w0.heap.size ≤ k ∧ ¬ F k ∧ ¬ K k) : TreeMid w0 w' D tb rb h F K xs cnt := by
  have hz := ho.size
  have hlt := hm.own.2
  exact ⟨hm.only.trans' ho (fun k hk x => by have := (hS k x).1; omega), ho.get hm.box (fun x => by have := (hS _ x).1; omega), NodeAt.kept ho (fun k x y => (hS k y).2.2 x) hm.node (fun k x y => (hS k y).2.1 x), fun k hk => by have := hm.subF k hk; exact ⟨this.1, this.2.1, by omega⟩, fun k hk => by have := hm.subK k hk; exact ⟨this.1, this.2.1, this.2.2.1, by omega⟩, hm.own⟩

/-- The tree is built anew: two stores. -/
theorem TreeMid.built {w0 w w' : World} {D : Nat → Prop} {tb rb h rb' h' : Nat} {F K F' : Nat → Prop} {xs xs' : List EV} {cnt c' : Int} (hm : TreeMid w0 w D tb rb h F K xs cnt) (hq : Quiet w w') (hn : NodeAt K h' w' rb' F' xs') (hF : ∀ k, F' k → w.heap.size ≤ k ∧ k < w'.heap.size) (hc : c' = (xs'.length : Int)) :
    TreeMid w0 ((w'.setCell ⟨tb, 0, none⟩ (ptrV rb')).setCell ⟨tb, 1, none⟩ (.int .i64 c')) D tb rb' h' F' K xs' c' := by
  have hz := hq.size
  have hz0 := hm.only.size
  have htb := lt_of_get hm.box
  have ho : Only (· = tb) w' ((w'.setCell ⟨tb, 0, none⟩ (ptrV rb')).setCell ⟨tb, 1, none⟩ (.int .i64 c')) := ((Only.refl (· = tb) w').setCell (p := ⟨tb, 0, none⟩) (fun _ => rfl) _).setCell (p := ⟨tb, 1, none⟩) (fun _ => rfl) _
  have hzo := ho.size
  refine ⟨(hm.only.trans' hq (fun _ _ x => x.elim)).trans' ho (fun k _ e => by rw [e]; exact hm.own.1), ?_, NodeAt.kept ho (fun k hk e => (hm.subK k hk).2.2.1 e) hn (fun k hk e => by have := (hF k hk).1; omega), fun k hk => ?_, fun k hk => ?_, hm.own⟩
  · rw [set_same (set_same (hq.get hm.box (fun x => x)) 0 _) 1 _]; rfl
  · have := hF k hk
    exact ⟨Or.inr (by omega), by omega, by omega⟩
  · have := hm.subK k hk
    exact ⟨this.1, fun x => by have := (hF k x).1; omega, this.2.2.1, by omega⟩

set_option maxHeartbeats 4000000 in
set_option maxRecDepth 100000 in
theorem tree_delete (w : World) (D : Nat → Prop) (tb : Nat) (es : List Ent) (e : Ent) (A : Option Addr) (c : Nat) (S : Nat → Prop) (ht : TreeIs w D tb es) (hr : Rd w S 1 A e.key.length (bytesV e.key)) (hby : ∀ x ∈ e.key, x < 256) (hl : e.key.length ≤ 1000) (hn : es.length ≤ 10000) :
    Calls Try.prog 23 #[ptrV tb, entV e A c] w (delPostT w D tb es e) := by
  obtain ⟨rb, h, F, K, xs, hm, hes, hris⟩ := ht
  subst hes
  have hxl : xs.length ≤ 10000 := by simpa using hn
  have hq0 : Quiet w (w.alloc (.cells #[.slice A e.key.length c, .int .i64 e.pg, .int .i64 e.sl] 34)) := (Only.refl _ _).alloc _
  have hm1 := hm.quietly hq0
  obtain ⟨c0, _, _⟩ := hm1.cells
  obtain ⟨t0, t1, t2⟩ := ent_cells (alloc_new w (.cells #[.slice A e.key.length c, .int .i64 e.pg, .int .i64 e.sl] 34))
  have HKD : Hid (Keyd w S ⟨e, A, c⟩) := ⟨hr, hby, hl⟩
  have HM1 := Lib.hid hm1
  have HQ0 := Lib.hid hq0
  have HRIS := Lib.hid hris
  have HLIM : Hid (∀ k, K k ∨ F k ∨ k = tb → k < w.heap.size) := fun k x => by
    rcases x with x | x | x
    · exact (hm.subK k x).2.2.2
    · exact (hm.subF k x).2.2
    · rw [x]; exact hm.own.2
  have HALL := Lib.hid (all_ih K h F _ rb xs [] (.slice none 0 0) hm1.node (fun k x => ⟨by
    rcases x with x | x
    · exact (hm1.subF k x).2.2
    · exact (hm1.subK k x).2.2.2, fun z => by cases z⟩) (World.ownsRow_nil _ _ _ _) (by simp; omega))
  obtain ⟨POST, hPOST⟩ : ∃ POST, delPostT w D tb (ents xs) e = POST := ⟨_, rfl⟩
  rw [hPOST]
  have HPOST := Lib.hid hPOST
  clear hm hm1 hr hby hris hq0 hPOST hn hl
  go_enter Try.func23, Try.ntmps23
  go_wp2_with fail
  refine HALL.out.mono ?_
  rintro r w2 ⟨v2, rfl, ho2⟩
  have hq2 : Quiet (w.alloc (.cells #[.slice A e.key.length c, .int .i64 e.pg, .int .i64 e.sl] 34)) w2 := ho2.only.mono (fun k _ e => by cases e)
  have hrow2 := ho2.row
  rw [List.nil_append] at hrow2
  have hloc2 : ∀ k, v2.ownBlock = some k → w.heap.size + 1 ≤ k := fun k e => by
    rcases ho2.loc with x | ⟨j, x, y⟩
    · rw [x] at e; cases e
    · rw [x] at e; injection e with e; rw [World.size_alloc] at y; omega
  obtain ⟨A2, c2, hv2, hc2, hcm2, hr2⟩ := own_form hrow2
  have HM2 := Lib.hid (HM1.out.quietly hq2)
  have HKEY := Lib.hid HM2.out.node.key
  have HSR := Lib.hid (search_any xs ⟨e, A, c⟩ A2 c2 _ K S w2 hr2 HKEY.out ((HKD.out.quietly HQ0.out).quietly hq2) HRIS.out (by omega))
  obtain ⟨n, hnn⟩ : ∃ n, xs.length = n := ⟨_, rfl⟩
  have HN := Lib.hid hnn
  rw [hnn] at hv2 hc2 HSR hxl
  obtain ⟨i, hi⟩ : ∃ i, posE e (xs.map (·.e)) = i := ⟨_, rfl⟩
  have HI := Lib.hid hi
  rw [hi] at HSR
  have q0 := hq2.cell t0 (fun x => x)
  have q1 := hq2.cell t1 (fun x => x)
  have q2 := hq2.cell t2 (fun x => x)
  have HROW := Lib.hid hrow2
  have HLOC := Lib.hid hloc2
  subst hv2
  clear ho2 hq2 hrow2 hloc2 hr2 hnn hi HALL HM1 HKD HQ0 c0 t0 t1 t2
  go_wp2_with fail
  refine HSR.out.mono ?_
  rintro r w3 ⟨rfl, hq3⟩
  have HM3 := Lib.hid (HM2.out.quietly hq3)
  have HROW3 := Lib.hid (owns_kept HROW.out hq3 (fun _ _ x => x))
  have HKEY3 : Hid (∀ x ∈ xs, Keyd w3 K x) := fun x hx => (HKEY.out x hx).quietly hq3
  clear hq3 HSR HM2 HROW HKEY q0 q1 q2
  by_cases hmem : e ∈ xs.map (·.e)
  · have hmd := decide_eq_true hmem
    have hin : i < n := by
      have := (List.getElem?_eq_some_iff.1 ((posE_mem HRIS.out).1 hmem)).1
      have h1 := HI.out
      have h2 := HN.out
      unfold ents at this
      rw [List.length_map] at this
      omega
    obtain ⟨g, hA2⟩ : ∃ g, A2 = some ⟨g, 0, none⟩ := by
      rcases owns_cases HROW3.out with ⟨_, z⟩ | ⟨g, cp, z, _, _⟩
      · have := HN.out; omega
      · injection z with z1 _ _
        exact ⟨g, z1⟩
    subst hA2
    have HDEL := Lib.hid (delete_any xs i n g c2 w3 HROW3.out HN.out hin (by omega))
    have HMEM := Lib.hid hmem
    rw [hmd]
    clear hmem hmd
    go_wp2_with fail
    refine HDEL.out.mono ?_
    rintro r w4 ⟨rfl, hrow4, ho4⟩
    have hgw : w.heap.size + 1 ≤ g := HLOC.out g rfl
    have hr4 : RowAt w4 (.slice (some ⟨g, 0, none⟩) (n - 1) c2) (xs.take i ++ xs.drop (i + 1)) := hrow4
    have hgn : ∀ k, k = g → w.heap.size ≤ k ∧ ¬ F k ∧ ¬ K k := fun k x => by
      subst x
      exact ⟨by omega, fun y => by have := HLIM.out k (Or.inr (Or.inl y)); omega, fun y => by have := HLIM.out k (Or.inl y); omega⟩
    have HM4 := Lib.hid (HM3.out.aside ho4 hgn)
    obtain ⟨ys, hys⟩ : ∃ ys, xs.take i ++ xs.drop (i + 1) = ys := ⟨_, rfl⟩
    have hyl : ys.length = n - 1 := by
      rw [← hys, List.length_append, List.length_take, List.length_drop, HN.out]; omega
    have HE : Hid (ents ys = delE e (ents xs)) := by
      show ents ys = delE e (ents xs)
      rw [← hys, ents_del]
      unfold delE
      have h1 : posE e (ents xs) = i := HI.out
      rw [h1]
    have hkey4 : ∀ x ∈ ys, Keyd w4 K x := fun x hx => by
      refine (HKEY3.out x ?_).kept ho4 (fun k hk y => (hgn k y).2.2 hk)
      rw [← hys] at hx
      rcases List.mem_append.1 hx with z | z
      · exact List.mem_of_mem_take z
      · exact List.mem_of_mem_drop z
    rw [hys] at hr4
    obtain ⟨A4, c4, hv4, hc4, hcm4, hrd4⟩ := own_form hr4
    injection hv4 with hA4 hn4 hc4'
    subst hA4 hc4'
    rw [hyl] at hrd4
    have HB := Lib.hid (build_any K _ ys (some ⟨g, 0, none⟩) (n - 1) c2 w4 hyl hrd4 hkey4 (fun k x => (HM4.out.subK k x).2.2.2) (by omega) hcm4 (by omega))
    have hn1 : (n : Int) - 1 = ((n - 1 : Nat) : Int) := by omega
    obtain ⟨m, hm⟩ : ∃ m, n - 1 = m := ⟨_, rfl⟩
    rw [hm] at HB hyl ⊢
    have HYL := Lib.hid hyl
    clear hr4 hrd4 hkey4 hys hyl hgn hgw ho4 hrow4 HROW3 HKEY3 HDEL HM3 hc4 hn4 hn1 hm
    go_wp2_with fail
    refine HB.out.mono ?_
    rintro r w5 ⟨rb5, h5, F5, rfl, hq5, hn5, hF5⟩
    obtain ⟨k0, k1, kf⟩ := (HM4.out.quietly hq5).cells
    have HR : Hid (POST (.returned (.int .i64 0)) ((w5.setCell ⟨tb, 0, none⟩ (ptrV rb5)).setCell ⟨tb, 1, none⟩ (.int .i64 (m : Int)))) := by
      have h6 := HM4.out.built hq5 hn5 hF5 (c' := (m : Int)) (by rw [HYL.out])
      rw [← HPOST.out]
      refine Or.inr ⟨HMEM.out, rfl, h6.only, ?_⟩
      have := h6.is (by rw [HYL.out]) (by rw [HE.out]; exact HRIS.out.del)
      rw [HE.out] at this
      exact this
    clear hn5 hF5 hq5 HB HM4 HLIM HMEM
    go_wp2
    exact HR.out
  · have hmd := decide_eq_false hmem
    rw [hmd]
    have HR : Hid (POST (.returned (.int .i64 15)) w3) := by
      rw [← HPOST.out]
      refine Or.inl ⟨hmem, rfl, HM3.out.only, ?_⟩
      exact HM3.out.is rfl HRIS.out
    clear hmem hmd
    go_wp2
    exact HR.out

end Go.Proofs.Ytbeenpobppkhdaa
