/-
  The model: a part's objects cloned, each with bytes of its own.
-/
import Derived.Test.YtiffjkgbjklgnaaDoorSZ
namespace Go.Proofs.YtiffjkgbjklgnaaDoor
open Go Go.Eng Go.Lib
set_option maxRecDepth 20000
section
variable {T : Bs} {w : World} {Q : Value → World → Prop} {K : Value → World → Prop} {R : HP} {b x z : Nat} {md : Md} {S : List (Option (Nat × Pt))}
theorem Clone_objs {m : Nat} {l : List (Int × Value)} (h : Sat T w (MapH m l • R)) (hk : ∀ m' w', Sat T w' (MapH m' l • MapH m l • R) → Q (.map (some m')) w') :
    Cal P N_maps_Clone_map_int_model_object_int_model_object #[.map (some m)] w Q := by
  apply maps_Clone_map_int_model_object_int_model_object_k0
  unfold maps_Clone_map_int_model_object_int_model_object_b0
  obtain ⟨es, cl, p, h1⟩ := MapH.open h
  have hu : P.underlying T_map_int_model_object = some (.map T_int T_model_object) := by kernel_rfl
  simp only [T_map_int_model_object] at hu
  rw [eqx_map_nil hu]
  simp only [Option.isNone_some, cn_false]
  rw [mif_map hu]
  refine cc_clone (P := P) (f := 40) (fn := _) Tryd.func40 (by kernel_rfl) (by kernel_rfl) (by kernel_rfl) (by kernel_rfl) h1 fun m' w' h2 => ?_
  rw [ta_map hu]
  exact hk _ _ (MapH.close p ((MapH.close (r := m) p (h2.to (star_left ..))).to (star_left ..)))

/-! a clone under way: each entry, and whether it was done -/
def gH (q : Om × Bool) : HP := if q.2 then omH q.1 else emp
theorem idxI_at : ∀ {l : List (Int × Value)}, (l.map (·.1)).Nodup → ∀ i (h : i < l.length), idxI l l[i].1 = some i
  | (k, x) :: r, hn, 0, h => by simp [idxI]
  | (k, x) :: r, hn, i + 1, h => by
    rw [List.map_cons, List.nodup_cons] at hn
    have hi : i < r.length := by simpa using h
    have hne : ¬ (r[i].1 = k) := fun e => hn.1 (List.mem_map.2 ⟨r[i], List.getElem_mem hi, e⟩)
    show idxI ((k, x) :: r) r[i].1 = _
    unfold idxI
    rw [if_neg hne, idxI_at hn.2 i hi]
theorem putI_at : ∀ {l : List (Int × Value)}, (l.map (·.1)).Nodup → ∀ i (h : i < l.length) (v : Value), putI l l[i].1 v = l.set i (l[i].1, v)
  | (k, x) :: r, hn, 0, h, v => by simp [putI]
  | (k, x) :: r, hn, i + 1, h, v => by
    rw [List.map_cons, List.nodup_cons] at hn
    have hi : i < r.length := by simpa using h
    have hne : ¬ (r[i].1 = k) := fun e => hn.1 (List.mem_map.2 ⟨r[i], List.getElem_mem hi, e⟩)
    show putI ((k, x) :: r) r[i].1 v = _
    unfold putI
    rw [if_neg hne, putI_at hn.2 i hi v]
    rfl
theorem putM_at {es : Array MapEntry} {c : Nat} {m : List (Int × Value)} (hm : mapOk es.toList c m) {i : Nat} (h : i < m.length) (v : Value) :
    ∃ es' : Array MapEntry, putM .i64 (.map es c) m[i].1 v = .map es' c ∧ mapOk es'.toList c (m.set i (m[i].1, v)) ∧ es'.size = es.size ∧ ∀ j (h : j < es'.size) (h2 : j < es.size), es'[j].born = es[j].born := by
  have hi := idxI_at hm.keys i h
  have e : putM .i64 (.map es c) m[i].1 v = .map (es.modify i fun e => { e with key := .int .i64 m[i].1, val := v }) c := by
    unfold putM; simp only [hm.as, hi]
  refine ⟨_, e, ⟨?_, ?_, ?_⟩, by simp, fun j h1 h2 => ?_⟩
  · rw [← putI_at hm.keys i h]
    have := asI_modify (v := v) hm.as hi
    simpa using this
  · have := bornOk_modify (i := i) (f := fun e => { e with key := .int .i64 m[i].1, val := v }) (fun _ => rfl) hm.born
    simpa using this
  · have e2 : (m.set i (m[i].1, v)).map (·.1) = m.map (·.1) := by
      rw [List.map_set]
      apply List.ext_getElem?
      intro j
      rw [List.getElem?_set]
      split
      · rename_i hj; subst hj; simp [h]
      · rfl
    rw [e2]; exact hm.keys
  · rw [Array.getElem_modify]; split <;> rfl
theorem gH_pick {W : List (Int × Om × Bool)} {i : Nat} (h : i < W.length) (hd : W[i].2.2 = false) : stars (W.map fun p => gH p.2) = stars ((W.map fun p => gH p.2).eraseIdx i) := by
  rw [stars_pick (W.map fun p => gH p.2) i (by simpa using h)]
  have : (W.map fun p => gH p.2)[i]'(by simpa using h) = emp := by simp [gH, hd]
  rw [this, emp_star]
theorem gH_set {W : List (Int × Om × Bool)} {i : Nat} (h : i < W.length) (k : Int) (y : Om) : stars ((W.set i (k, y, true)).map fun p => gH p.2) = omH y • stars ((W.map fun p => gH p.2).eraseIdx i) := by
  rw [List.map_set, stars_set _ _ (by simpa using h)]
  rfl

structure Under (W : List (Int × Om × Bool)) (L : List (Int × Om)) (D : Nat → Bool) : Prop where
  len : W.length = L.length
  at_ : ∀ j (h : j < W.length) (h2 : j < L.length), W[j].1 = L[j].1 ∧ W[j].2.1.ob = L[j].2.ob ∧ (D j = false → W[j].2.1 = L[j].2) ∧ W[j].2.2 = D j ∧ W[j].2.1.b.length ≤ W[j].2.1.cap
theorem Copy_p2_spec {zc nb it g' m' c : Nat} {i : Int} {pt : Pt} {L : List (Int × Om)} {arr : Value} (hL : ∀ q ∈ L, q.2.b ≠ [] ∧ q.2.b.length ≤ 8192)
    (hk : ∀ w' M, amp Om.ob M = amp Om.ob L → (∀ q ∈ M, q.2.b.length ≤ q.2.cap) → Sat T w' (own nb (ptC pt g' m') • MapH m' (amap omV M) • sts omH M • sts omH L • R) →
      fa P 51 (ptr zc) 1 w' fun v15 w17 => ia P 48 v15 (.int .i64 i) w17 fun v16 w18 => st P 47 v16 (ptr nb) w18 fun _ w19 => bin P .add 3 (.int .i64 i) (.int .i64 1) w19 fun v17 w20 => model_Model_Copy_p1 (ptr zc) arr v17 w20 Q) :
    ∀ (d : Nat) (D : Nat → Bool) (W : List (Int × Om × Bool)) (seen : Array Nat) (es : Array MapEntry) (w : World), nleft L.length D = d → Under W L D → mapOk es.toList c (amap (fun q => omV q.1) W) →
      (∀ j (h : j < es.size), seen.contains es[j].born = D j) →
      Sat T w (own it (.mapIter (some m') c seen c) • own m' (.map es c) • own nb (ptC pt g' m') • stars (W.map fun p => gH p.2) • sts omH L • R) →
      model_Model_Copy_p2 (ptr zc) (.int .i64 i) (ptr nb) arr (.int .i64 i) (ptr it) w Q := by
  intro d
  induction d with
  | zero =>
    intro D W seen es w hd hU hm hD h
    apply model_Model_Copy_k2
    unfold model_Model_Copy_b2
    have hlen : es.size = L.length := by have := asI_len hm.as; rw [amap_len, hU.len] at this; simpa using this.symm
    refine nx_map hm.born hD h (fun hall w' h' => ?_) (fun j hj hDj w' h' => ?_)
    · simp only [ex_tuple, cellA_zero, onv_some, cn_false]
      have hM : ∀ j (h : j < W.length), W[j].2.2 = true := fun j h => by rw [(hU.at_ j h (by rw [← hU.len]; exact h)).2.2.2.1]; exact hall j (by rw [hlen, ← hU.len]; exact h)
      have e1 : stars (W.map fun p => gH p.2) = sts omH (amp Prod.fst W) := by
        unfold sts amp
        congr 1
        apply List.ext_getElem?
        intro j
        simp only [List.getElem?_map, Option.map_map]
        cases hw : W[j]? with
        | none => rfl
        | some q =>
          have hj := (List.getElem?_eq_some_iff.1 hw)
          have := hM j hj.1
          rw [hj.2] at this
          simp [gH, this]
      refine hk w' (amp Prod.fst W) ?_ ?_ ?_
      · apply List.ext_getElem (by simp [amp, hU.len])
        intro j h1 h2
        have h1' : j < W.length := by simpa [amp] using h1
        have h2' : j < L.length := by simpa [amp] using h2
        have := hU.at_ j h1' h2'
        simp [amp, this.1, this.2.1]
      · intro q hq
        simp only [amp, List.mem_map] at hq
        obtain ⟨q', hq', rfl⟩ := hq
        obtain ⟨j, hj, rfl⟩ := List.getElem_of_mem hq'
        exact (hU.at_ j hj (by rw [← hU.len]; exact hj)).2.2.2.2
      · rw [← e1]
        have h2 := h'.drop
        have e2 : amap omV (amp Prod.fst W) = amap (fun q : Om × Bool => omV q.1) W := by simp [amap, amp]
        rw [e2]
        exact (MapH.close hm h2).to (by ac_rfl)
    · have := nleft_set (n := L.length) (by omega) hDj; omega
  | succ d ih =>
    intro D W seen es w hd hU hm hD h
    apply model_Model_Copy_k2
    unfold model_Model_Copy_b2
    have hlen : es.size = L.length := by have := asI_len hm.as; rw [amap_len, hU.len] at this; simpa using this.symm
    refine nx_map hm.born hD h (fun hall w' h' => ?_) (fun j hj hDj w' h' => ?_)
    · simp only [ex_tuple, cellA_zero, onv_some, cn_false]
      have hM : ∀ j (h : j < W.length), W[j].2.2 = true := fun j h => by rw [(hU.at_ j h (by rw [← hU.len]; exact h)).2.2.2.1]; exact hall j (by rw [hlen, ← hU.len]; exact h)
      have e1 : stars (W.map fun p => gH p.2) = sts omH (amp Prod.fst W) := by
        unfold sts amp
        congr 1
        apply List.ext_getElem?
        intro j
        simp only [List.getElem?_map, Option.map_map]
        cases hw : W[j]? with
        | none => rfl
        | some q =>
          have hj := (List.getElem?_eq_some_iff.1 hw)
          have := hM j hj.1
          rw [hj.2] at this
          simp [gH, this]
      refine hk w' (amp Prod.fst W) ?_ ?_ ?_
      · apply List.ext_getElem (by simp [amp, hU.len])
        intro j h1 h2
        have h1' : j < W.length := by simpa [amp] using h1
        have h2' : j < L.length := by simpa [amp] using h2
        have := hU.at_ j h1' h2'
        simp [amp, this.1, this.2.1]
      · intro q hq
        simp only [amp, List.mem_map] at hq
        obtain ⟨q', hq', rfl⟩ := hq
        obtain ⟨j, hj, rfl⟩ := List.getElem_of_mem hq'
        exact (hU.at_ j hj (by rw [← hU.len]; exact hj)).2.2.2.2
      · rw [← e1]
        have h2 := h'.drop
        have e2 : amap omV (amp Prod.fst W) = amap (fun q : Om × Bool => omV q.1) W := by simp [amap, amp]
        rw [e2]
        exact (MapH.close hm h2).to (by ac_rfl)
    · have hjL : j < L.length := by omega
      have hjW : j < W.length := by rw [hU.len]; exact hjL
      obtain ⟨k1, k2, k3, k4, k5⟩ := hU.at_ j hjW hjL
      have k3 := k3 hDj
      have hjm : j < (amap (fun q : Om × Bool => omV q.1) W).length := by rw [amap_len]; exact hjW
      obtain ⟨hkey, hval⟩ := asI_get hm.as j (by simpa using hj) hjm
      have hmj : (amap (fun q : Om × Bool => omV q.1) W)[j] = (L[j].1, omV L[j].2) := by simp [amap, k1, k3]
      have hkey : es[j].key = .int .i64 L[j].1 := by rw [hmj] at hkey; simpa using hkey
      have hval : es[j].val = omV L[j].2 := by rw [hmj] at hval; simpa using hval
      simp only [ex_tuple, cellA_zero, onv_some, cn_true]
      rw [en_map hm.born hj h']
      simp only [ex_tuple, cellA_succ, cellA_zero, onv_some]
      rw [show ∀ K, al P 63 w' K = K (ptr w'.heap.size) (pu w' (.cells #[.slice none 0 0, .int .i64 0] T_model_object (0, 0))) from fun K => al_object, hval, hkey]
      have h2 := h'.push (.cells #[.slice none 0 0, .int .i64 0] T_model_object (0, 0))
      generalize w'.heap.size = z at *
      generalize pu w' _ = w2 at *
      have hb := hL _ (List.getElem_mem hjL)
      generalize hy : L[j].2 = y at *
      generalize hkk : L[j].1 = k at *
      show st P 63 (ptr z) (.agg #[opS (some y), .int .i64 (opI (some y))]) w2 _
      refine st_obj (f := some y) h2.get ?_
      have h3 := h2.set (objO (some y))
      generalize sb w2 z _ = w3 at *
      have hz := h3.get
      have hn := (h3.to (show _ = own nb (ptC pt g' m') • own z (objO (some y)) • own it (.mapIter (some m') c (seen.push es[j].born) c) • own m' (.map es c) • stars (W.map fun p => gH p.2) • sts omH L • R by ac_rfl)).get
      unfold ptC at hn
      unfold objO opS opI at hz
      simp [hn, hz, ld_eq]
      have hsL : sts omH L = own y.blk (bytesO y.b y.rest) • stars ((L.map fun p => omH p.2).eraseIdx j) := by
        unfold sts
        rw [stars_pick _ j (by simpa using hjL)]
        simp [hy]; rfl
      refine Clone_bytes (rest := y.rest) hb.1 hb.2 (h3.dw.to (show _ = own y.blk (bytesO y.b y.rest) • stars ((L.map fun p => omH p.2).eraseIdx j) • own z (objO (some y)) • own it (.mapIter (some m') c (seen.push es[j].born) c) • own m' (.map es c) • own nb (ptC pt g' m') • stars (W.map fun p => gH p.2) • R by rw [hsL]; ac_rfl)) fun b' c' rest' w4 h4 hcap => ?_
      have h5 := h4.to (show _ = own nb (ptC pt g' m') • own z (objO (some y)) • own b' (bytesO y.b rest') • own it (.mapIter (some m') c (seen.push es[j].born) c) • own m' (.map es c) • stars (W.map fun p => gH p.2) • sts omH L • R by rw [hsL]; ac_rfl)
      have hn5 := h5.get
      have hz5 := (h5.to (star_left ..)).get
      unfold ptC at hn5
      unfold objO opS opI at hz5
      have hbd := fun K => bd_object (w := w4) (K := K) (some ⟨b', 0, none⟩) y.b.length c' y.c
      simp only [T_model_object] at hbd
      have h6 := h5.to (show _ = own m' (.map es c) • own nb (ptC pt g' m') • own z (objO (some y)) • own b' (bytesO y.b rest') • own it (.mapIter (some m') c (seen.push es[j].born) c) • stars (W.map fun p => gH p.2) • sts omH L • R by ac_rfl)
      have hmu := fun K => mu_go (w := w4) (K := K) (t := T_map_int_model_object) (e := T_model_object) (r := m') (n := k) (v := .agg #[.slice (some ⟨b', 0, none⟩) y.b.length c', .int .i64 y.c]) (by kernel_rfl) h6.get (by show asI .i64 es.toList = some _; exact hm.as)
      simp only [T_map_int_model_object] at hmu
      simp [hn5, hz5, hbd, hmu]
      obtain ⟨es', e1, e2, e3, e4⟩ := putM_at hm hjm (.agg #[.slice (some ⟨b', 0, none⟩) y.b.length c', .int .i64 y.c])
      rw [hmj] at e1 e2
      simp only at e1 e2
      rw [e1]
      have h7 := h6.set (.map es' c)
      generalize sb w4 m' (.map es' c) = w5 at *
      have hset : (amap (fun q : Om × Bool => omV q.1) W).set j (k, .agg #[.slice (some ⟨b', 0, none⟩) y.b.length c', .int .i64 y.c]) = amap (fun q : Om × Bool => omV q.1) (W.set j (k, ⟨b', y.b, y.c, c', rest'⟩, true)) := by
        simp [amap, List.map_set, omV]
      rw [hset] at e2
      have hn' := nleft_set (n := L.length) (by omega) hDj
      refine ih (fun i => D i || i == j) (W.set j (k, ⟨b', y.b, y.c, c', rest'⟩, true)) (seen.push es[j].born) es' w5 (by omega) ?_ e2 (fun i hi => ?_) ?_
      · refine ⟨by simp [hU.len], fun i h1 h2 => ?_⟩
        have h1' : i < W.length := by simpa using h1
        have := hU.at_ i h1' h2
        by_cases hij : i = j
        · subst hij
          simp [hkk, hy, Om.ob, hcap]
        · have hji : ¬ (j = i) := fun e => hij e.symm
          have hbf : (i == j) = false := by simp [hij]
          simp only [List.getElem_set, hji, if_false, hbf, Bool.or_false]
          exact this
      · rw [e4 i hi (by omega)]
        exact seen_push hm.born hD hj i (by omega)
      · have h8 := h7.to (show _ = own z (objO (some y)) • own it (.mapIter (some m') c (seen.push es[j].born) c) • own m' (.map es' c) • own nb (ptC pt g' m') • (own b' (bytesO y.b rest') • stars ((W.map fun p => gH p.2).eraseIdx j)) • sts omH L • R by
          rw [gH_pick hjW (by rw [k4]; exact hDj)]; ac_rfl)
        have h9 := h8.drop
        rw [gH_set hjW]
        exact h9
end
end Go.Proofs.YtiffjkgbjklgnaaDoor
