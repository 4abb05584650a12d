/-
  Laws of the layer between the model and plain data (states, operations, calls, loops); none has a condition beyond those that stand in its own statement.
-/
import Derived.Test.YtkhneohilohhiaaT7
set_option linter.unusedSimpArgs false
namespace Go.Tr
open Go

section
variable {P : Program} {A : Actv}

/-- An empty row: nothing in memory yet. -/
theorem InvE.newRow {t : S} {a : Act} {E : En} (hi : InvE A t a E) {d : Nat} (hd : t (.o d) = .none) (e k : Nat) :
    ∃ E' : En, E'.w = E.w ∧ ExtA E E' ∧ InvE A (upd t (.o d) (.row e k [] false)) a E' ∧ E'.val d = some (k, 0, .slice none 0 0) := by
  have hfree := hi.h.item (.o d) (by simp)
  rw [hd] at hfree
  obtain ⟨hb0, hv0⟩ := hfree d rfl
  let E' : En := { E with val := fun i => if i = d then some (k, 0, .slice none 0 0) else E.val i }
  have hv' : E'.val d = some (k, 0, .slice none 0 0) := by simp [E']
  have x : ExtA E E' := by
    refine ⟨fun _ _ h => h, fun _ _ _ => rfl, fun _ _ _ h => h, fun _ _ h => h, fun _ _ h => h, fun i k' c u _ hu => ?_⟩
    by_cases e : i = d
    · subst e; rw [hv0] at hu; simp at hu
    · exact ⟨c, u, by simp [E', e, hu], Nat.le_refl _, fun _ => rfl⟩
  have hown : E'.own (.o d) = none := by simp [En.own, E', hb0, Value.ownBlock]
  have hH : HInv E' (upd t (.o d) (.row e k [] false)) := by
    refine hi.h.change (by simp) x (fun b o h => .inl h) (fun q hq => rfl) (fun i hne => ?_) (Nat.le_refl _) (fun q b hq hb => rfl) (fun b hb => ?_) ⟨hb0, d, .slice none 0 0, [], rfl, hv', World.ownsRow_nil _ _ _ _, trivial⟩ (fun b o hs hb => ?_)
    · have hne' : i ≠ d := fun e => hne (by rw [e])
      simp [E', hne']
    · rw [hown] at hb; simp at hb
    · rw [hown] at hb; simp at hb
  refine ⟨E', rfl, x, hi.step hH x (hi.fr.next rfl rfl rfl (Nat.le_refl _) (fun _ _ _ => rfl) (fun _ => rfl) (fun i b hb => ?_) (fun _ _ h => h) (fun _ _ h => .inl h)) (fun k => upd_s (by simp) k), hv'⟩
  by_cases e : i = d
  · subst e; rw [hown] at hb; simp at hb
  · have : E'.own (.o i) = E.own (.o i) := En.own_eq rfl (fun j hj => by simp only [Pl.o.injEq] at hj; subst hj; simp [E', e])
    rw [this] at hb; exact .inl hb

theorem run_append_zero {w : World} {base t e : Nat} {ty : TypeId} {inf : TypeInfo} (ht : P.underlying t = some (.slice e)) (hi : P.info? e = some inf) {v : Value} {n size : Nat} {xs : List Value}
    (hown : w.ownsRow base e size v n xs) (ad : Option Addr) (c : Nat) : (Builtin.append_ #[t, t] ty #[v, .slice ad 0 c]).run P w = .ok v w := by
  rcases hown.2 with ⟨rfl, rfl⟩ | ⟨g, cap, cur, rfl, _, _, hnc, _⟩
  · cases ad <;> simp [Builtin.append_, run_underlying ht, sizeOf, typeInfo, hi, Builtin.lenOf, Builtin.firstCells, loadCells, loadCellsFrom]
  · cases ad <;> simp [Builtin.append_, run_underlying ht, sizeOf, typeInfo, hi, Builtin.lenOf, Builtin.firstCells, hnc, storeCells, loadCells, loadCellsFrom]

/-- What an append reads: plain data, or a row. -/
inductive Src (t : S) : TV → List Pl → List (List TV) → Prop
  | sl (ys : List (List D)) : Src t (.d (.sl ys)) [] (ys.map (·.map .d))
  | nil (ad : Option Addr) (c : Nat) : Src t (.c (.slice ad 0 c)) [] []
  | row (id e k : Nat) (es : List (List TV)) (sh : Bool) (h : t (.o id) = .row e k es sh) : Src t (.oref id es.length) [.o id] es

theorem Src.rel {t : S} {y : TV} {rp : List Pl} {ys : List (List TV)} (h : Src t y rp ys) {k : Nat} (hk : ∀ e ∈ ys, e.length = k) {t' : S} (hr : ∀ p ∈ rp, t' p = t p) {a : Act} {E : En} (hi : InvE A t' a E) {u : Value} (hu : RelV E y u) :
    ∃ ad c news, u = .slice ad ys.length c ∧ news.length = ys.length * k ∧ RowRel E news k 0 ys ∧ (∀ v ∈ news, v.oneCell' = true) ∧
      (ys.length = 0 ∨ ∃ a0, ad = some a0 ∧ ∀ j v, news[j]? = some v → E.w.cell? (a0.add j) = some v) := by
  cases h with
  | sl ys =>
    simp only [RelV, Rep] at hu
    rcases hu with ⟨h0, ad, c, rfl⟩ | ⟨b, o, c, k', rfl, hc, hrows⟩
    · have : ys = [] := List.eq_nil_of_length_eq_zero h0
      subst this
      exact ⟨ad, c, [], rfl, by simp, trivial, by simp, .inl rfl⟩
    · -- gather the values
      have key : ∀ (ys : List (List D)) (o : Nat), (∀ e ∈ ys, e.length = k) → RepRows E b k' o ys → ∃ news : List Value, news.length = ys.length * k ∧ E.w.rangeAt b o news ∧
          (∀ us o', (∀ j v, news[j]? = some v → us[o' + j]? = some v) → RowRel E us k o' (ys.map (·.map .d))) ∧ (∀ v ∈ news, v.oneCell' = true) := by
        intro ys
        induction ys with
        | nil => exact fun o _ _ => ⟨[], by simp, fun j v h => by simp at h, fun us o' _ => trivial, by simp⟩
        | cons y ys ih =>
          intro o hl hrow
          simp only [RepRows] at hrow
          obtain ⟨hy, hcell, hrest⟩ := hrow
          have hyk : y.length = k := hl y (by simp)
          obtain ⟨us0, h1, h2, h3⟩ := hcell.range
          obtain ⟨news, h4, h5, h6, h7⟩ := ih (o + k') (fun e he => hl e (by simp [he])) hrest
          refine ⟨us0 ++ news, by simp [h1, h4, hyk, Nat.add_mul]; omega, fun j v hj => ?_, fun us o' hus => ⟨by simp [hyk], ?_, ?_⟩, fun v hv => ?_⟩
          · by_cases hlt : j < us0.length
            · rw [List.getElem?_append_left hlt] at hj; exact h2 j v hj
            · rw [List.getElem?_append_right (by omega)] at hj
              have := h5 _ _ hj
              rwa [show o + k' + (j - us0.length) = o + j by omega] at this
          · refine CellsRel.of_get fun i tv hi' => ?_
            obtain ⟨u, h8, h9⟩ := h3.get hi'
            have hone : tv.one = true := by
              simp only [List.getElem?_map, Option.map_eq_some_iff] at hi'
              obtain ⟨x, _, rfl⟩ := hi'; rfl
            exact ⟨u, hus i u (by rw [List.getElem?_append_left (List.getElem?_eq_some_iff.1 h8).1]; exact h8), h9.one hone, h9⟩
          · refine h6 us (o' + k) fun j v hj => ?_
            have := hus (us0.length + j) v (by rw [List.getElem?_append_right (by omega)]; simpa using hj)
            rwa [h1, hyk, ← Nat.add_assoc] at this
          · rcases List.mem_append.1 hv with hv | hv
            · obtain ⟨i, hi', rfl⟩ := List.getElem_of_mem hv
              have hlt : i < (y.map TV.d).length := by rw [List.length_map, ← h1]; exact hi'
              obtain ⟨u, h8, h9⟩ := h3.get (i := i) (t := (y.map TV.d)[i]) (by rw [List.getElem?_eq_getElem hlt])
              rw [List.getElem?_eq_getElem hi'] at h8
              simp only [Option.some.injEq] at h8
              subst h8
              exact h9.one (by simp [TV.one])
            · exact h7 v hv
      obtain ⟨news, h4, h5, h6, h7⟩ := key ys o (fun e he => by simpa using hk (e.map .d) (by simp; exact ⟨e, he, rfl⟩)) hrows
      refine ⟨some ⟨b, o, none⟩, c, news, by simp, by simpa using h4, h6 news 0 (fun j v h => by simpa using h), h7, .inr ⟨_, rfl, fun j v hj => ?_⟩⟩
      rw [add_lit']; exact h5 j v hj
  | nil ad c =>
    simp only [RelV] at hu
    exact ⟨ad, c, [], hu, by simp, trivial, by simp, .inl rfl⟩
  | row id e k' es sh h =>
    have ht' : t' (.o id) = .row e k' ys sh := (hr _ (by simp)).trans h
    obtain ⟨_, v, us, h1, h2, h3, h4⟩ := row_cur hi ht'
    have hv := h4 _ hu
    subst hv
    rcases h2.2 with ⟨rfl, h5⟩ | ⟨g, cap, cur, h6, hb, hg, hnc, hcm, hcs, htake⟩
    · have : ys = [] := List.eq_nil_of_length_eq_zero h5
      subst this
      exact ⟨none, 0, [], rfl, by simp, trivial, by simp, .inl rfl⟩
    · subst h6
      by_cases h0 : ys.length = 0
      · have : ys = [] := List.eq_nil_of_length_eq_zero h0
        subst this
        exact ⟨_, cap, [], rfl, by simp, trivial, by simp, .inl rfl⟩
      · have hkk : k' = k := by
          have hm : 0 < ys.length := by omega
          have := (h3.get (i := 0) (e := ys[0]) (by simp [hm])).1
          rw [← this]; exact hk _ (by simp)
        subst hkk
        refine ⟨_, cap, us, rfl, h2.1, h3, fun u hu' => ?_, .inr ⟨_, rfl, fun j v hj => ?_⟩⟩
        · obtain ⟨j, hj, rfl⟩ := List.getElem_of_mem hu'
          have hjl : j < ys.length * k' := by rw [← h2.1]; exact hj
          have hk0 : 0 < k' := by
            rcases Nat.eq_zero_or_pos k' with h | h
            · subst h; simp at hjl
            · exact h
          have hdiv : j / k' < ys.length := (Nat.div_lt_iff_lt_mul hk0).2 hjl
          obtain ⟨hl, hc⟩ := h3.get (i := j / k') (e := ys[j / k']) (by simp [hdiv])
          have hmod : j % k' < (ys[j / k']).length := by rw [hl]; exact Nat.mod_lt _ hk0
          obtain ⟨u, h7, h8, _⟩ := hc.get (i := j % k') (t := (ys[j / k'])[j % k']) (by simp [hmod])
          rw [show 0 + j / k' * k' + j % k' = j by rw [Nat.zero_add, Nat.mul_comm]; exact Nat.div_add_mod j k'] at h7
          rw [List.getElem?_eq_getElem hj] at h7
          simp only [Option.some.injEq] at h7
          rw [h7]; exact h8
        · exact h2.cells (g := g) (by simp [Value.ownBlock]) j v hj

theorem RowRel.app {E : En} {us vs : List Value} {k : Nat} : ∀ {o : Nat} {es ys : List (List TV)}, us.length = o + es.length * k → RowRel E us k o es → RowRel E vs k 0 ys → RowRel E (us ++ vs) k o (es ++ ys) := by
  intro o es ys hl h1 h2
  refine RowRel.of_get fun i e he => ?_
  by_cases hi : i < es.length
  · rw [List.getElem?_append_left hi] at he
    obtain ⟨h3, h4⟩ := h1.get he
    refine ⟨h3, CellsRel.of_get fun j tv hj => ?_⟩
    obtain ⟨u, h5, h6⟩ := h4.get hj
    exact ⟨u, by rw [List.getElem?_append_left (List.getElem?_eq_some_iff.1 h5).1]; exact h5, h6⟩
  · rw [List.getElem?_append_right (by omega)] at he
    obtain ⟨h3, h4⟩ := h2.get he
    refine ⟨h3, CellsRel.of_get fun j tv hj => ?_⟩
    obtain ⟨u, h5, h6⟩ := h4.get hj
    refine ⟨u, ?_, h6⟩
    have hm : i * k = es.length * k + (i - es.length) * k := by rw [← Nat.add_mul]; congr 1; omega
    rw [List.getElem?_append_right (by rw [hl, hm]; omega), hl, hm]
    simp only [Nat.zero_add] at h5
    rw [← h5]; congr 1; omega

/-- append of one element or more onto an owned row: in its place, or in a new block (then the old one stands). -/
theorem run_append_own2 {w : World} {base t e : Nat} {ty : TypeId} {inf : TypeInfo} {z : Value} {size bytes : Nat} (ht : P.underlying t = some (.slice e)) (hi : P.info? e = some inf) (hz : inf.zero = some z)
    (hsize : inf.size = size) (hby : inf.bytes = bytes) (hzs : z.cells.size = size) {v : Value} {n : Nat} {xs : List Value} (hown : w.ownsRow base e size v n xs)
    {a : Addr} {m c : Nat} {news : List Value} (hm : 0 < m) (hl : news.length = m * size) (hnews : ∀ j u, news[j]? = some u → w.cell? (a.add j) = some u) (h1 : ∀ u ∈ news, u.oneCell' = true)
    (h63 : n + m ≤ maxLen) (hbytes : (n + m) * bytes ≤ 140737488355328) (hbase : base ≤ w.heap.size) :
    ∃ v' w', (Builtin.append_ #[t, t] ty #[v, .slice (some a) m c]).run P w = .ok v' w' ∧ w'.ownsRow base e size v' (n + m) (xs ++ news) ∧ v'.oneCell' = true ∧
      ((v'.ownBlock = v.ownBlock ∧ w.grownBy w' v.ownBlock) ∨ (v'.ownBlock = some w.heap.size ∧ w.grownBy w' none)) := by
  subst hsize
  subst hby
  have hsmall : n + m ≤ 9223372036854775807 := by simp only [maxLen] at h63; omega
  have hlen : (xs ++ news).length = (n + m) * inf.size := by rw [List.length_append, hown.1, hl, Nat.add_mul]
  have grown : ∀ (old : Nat), old < n + m →
      (w.drew.alloc (.cells (xs.toArray ++ news.toArray ++ Builtin.zeroCells z.cells (grownCap w (n + m) old e - (n + m))) e)).ownsRow base e inf.size
        (.slice (some ⟨w.heap.size, 0, none⟩) (n + m) (grownCap w (n + m) old e)) (n + m) (xs ++ news) ∧
      w.grownBy (w.drew.alloc (.cells (xs.toArray ++ news.toArray ++ Builtin.zeroCells z.cells (grownCap w (n + m) old e - (n + m))) e)) none := by
    intro old ho
    have hge := grownCap_ge w (n + m) old e
    have hcm : grownCap w (n + m) old e ≤ maxLen := grownCap_le_maxLen w (n + m) old e h63
    refine ⟨⟨hlen, .inr ⟨w.heap.size, _, _, rfl, hbase, heap_alloc_new w.drew _, hge, hcm, ?_, ?_⟩⟩, ⟨rfl, rfl, rfl, by simp, fun k hk _ => heap_alloc_old w.drew _ k hk⟩⟩
    · simp only [Array.size_append, List.size_toArray, size_zeroCells, hzs, hown.1, hl, ← Nat.add_mul]
      congr 1
      omega
    · simp only [Array.toList_append, List.append_assoc]
      rw [← List.append_assoc, ← hlen]
      exact List.take_left
  rcases hown.2 with ⟨rfl, rfl⟩ | ⟨g, cap, cur, rfl, hbg, hg, hnc, hcm, hcs, htake⟩
  · have hx : xs = [] := List.eq_nil_of_length_eq_zero (by simpa using hown.1)
    subst hx
    have hr := run_append_nil (P := P) w t ty e inf z ht hi hz a m c news hl hnews (by omega) (by omega) (by have hb := hbytes; simp only [Nat.zero_add] at hb; omega)
    have hgr := grown 0 (by omega)
    simp only [Nat.zero_add, List.nil_append, Array.empty_append] at hgr ⊢
    exact ⟨_, _, hr, hgr.1, rfl, .inr ⟨rfl, hgr.2⟩⟩
  · by_cases hroom : n + m ≤ cap
    · have hfit : n * inf.size + news.length ≤ cur.size := by rw [hl, hcs, ← Nat.add_mul]; exact Nat.mul_le_mul_right _ hroom
      have hr := run_append_room (P := P) w t ty e inf ht hi g n cap cur hg a m c news hl hnews h1 hroom hfit
      refine ⟨_, _, hr, ⟨hlen, .inr ⟨g, cap, _, rfl, hbg, setRow_heap w g cur _ e _ hg, hroom, hcm, ?_, ?_⟩⟩, rfl, .inl ⟨rfl, ⟨rfl, rfl, rfl, by simp, fun k _ hk => setRow_other w g k _ (fun e => hk (by simp [Value.ownBlock, e]))⟩⟩⟩
      · simp only [List.size_toArray, List.length_append, List.length_take, List.length_drop, Array.length_toList]
        omega
      · rw [htake, ← hlen]
        exact List.take_left
    · have holds : ∀ j u, xs[j]? = some u → w.cell? ((⟨g, 0, none⟩ : Addr).add j) = some u := hown.cells (g := g) rfl
      have hr := run_append_grow (P := P) w t ty e inf z ht hi hz ⟨g, 0, none⟩ n cap xs hown.1 holds a m c news hl hnews (by omega) (by omega) (growslice_fits (by omega) hbytes)
      have hgr := grown cap (by omega)
      exact ⟨_, _, hr, hgr.1, rfl, .inr ⟨rfl, hgr.2⟩⟩

/-- append onto a row of the activation's own -/
theorem InvE.append {t : S} {a : Act} {E : En} (hi : InvE A t a E) {id e k b : Nat} {es : List (List TV)} {sh : Bool} (ht : t (.o id) = .row e k es sh) {sty ty : TypeId} (he : slE P sty = some e) (hk : szO P e = some k) (hb : byO P e = some b)
    {z : Value} (hz : zrO P e = some z) (hzs : (zcells z).length = k) (_hk0 : 0 < k) {u : Value} (hu : RelV E (.oref id es.length) u)
    {ys : List (List TV)} {ad : Option Addr} {c : Nat} {news : List Value} (hnl : news.length = ys.length * k) (hrow : RowRel E news k 0 ys) (hone : ∀ v ∈ news, v.oneCell' = true)
    (hsrc : ys.length = 0 ∨ ∃ a0, ad = some a0 ∧ ∀ j v, news[j]? = some v → E.w.cell? (a0.add j) = some v)
    (hroom : (es.length + ys.length) * b ≤ 140737488355328) (hroom2 : es.length + ys.length ≤ 9223372036854775807) :
    ∃ (v' : Value) (E' : En), (Builtin.append_ #[sty, sty] ty #[u, .slice ad ys.length c]).run P E.w = .ok v' E'.w ∧ InvE A (upd t (.o id) (.row e k (es ++ ys) sh)) a E' ∧ RelV E' (.oref id (es.length + ys.length)) v' := by
  obtain ⟨hblk, v, us, hval, hown, hrel, hcur⟩ := row_cur hi ht
  have hv := hcur _ hu
  subst hv
  unfold slE at he
  split at he
  rotate_left
  · simp at he
  rename_i e' hun
  simp only [Option.some.injEq] at he
  subst he
  unfold szO at hk; unfold byO at hb; unfold zrO at hz
  cases hinf : P.info? e' with
  | none => simp [hinf] at hk
  | some inf =>
  simp only [hinf, Option.map_some, Option.some.injEq, Option.bind_some] at hk hb hz
  have hzc : z.cells.size = k := by rw [← hzs, zcells_eq]; simp
  have hownp : E.own (.o id) = u.ownBlock := by simp [En.own, hblk, hval]
  have hone' : ∀ (E' : En) (v' : Value), E'.val id = some (k, (es ++ ys).length, v') → v'.oneCell' = true → RelV E' (.oref id (es.length + ys.length)) v' := fun E' v' h1 h2 => by
    simp only [RelV]
    exact ⟨h2, k, _, v', h1, by simp, fun _ => rfl⟩
  rcases Nat.eq_zero_or_pos ys.length with h0 | hpos
  · have hys : ys = [] := List.eq_nil_of_length_eq_zero h0
    subst hys
    refine ⟨u, E, by simpa using run_append_zero (P := P) (ty := ty) hun hinf hown ad c, ?_, by simpa using hu⟩
    have : upd t (.o id) (.row e' k (es ++ []) sh) = t := by
      funext p; by_cases hp : p = .o id
      · subst hp; simp [upd, ht]
      · simp [upd, hp]
    rw [this]; exact hi
  · rcases hsrc with h0 | ⟨a0, rfl, hcells⟩
    · omega
    obtain ⟨v', w', hrun, hown', hv1, hob⟩ := run_append_own2 (P := P) (ty := ty) (c := c) hun hinf hz hk hb hzc hown hpos hnl hcells hone
      (by simp only [maxLen]; omega) hroom (Nat.zero_le _)
    have hgrown : E.w.grownBy w' u.ownBlock := hob.elim (fun h => h.2) (fun h => ⟨h.2.os, h.2.tape, h.2.output, h.2.size, fun i hi _ => h.2.block i hi (by simp)⟩)
    have hstab : ∀ b o, E.St b o → w'.cell? ⟨b, o, none⟩ = E.w.cell? ⟨b, o, none⟩ := fun b o hst => by
      rcases hob with ⟨hb', _⟩ | ⟨_, hg⟩
      · by_cases e : E.own (.o id) = some b
        · obtain ⟨e2, k2, es2, h1, h2⟩ := hi.h.sep _ _ hst _ e
          rw [ht] at h1
          simp only [It.row.injEq] at h1
          obtain ⟨rfl, rfl, rfl, _⟩ := h1
          rw [hownp] at e
          have hlt : o < us.length := by rw [hown.1]; exact h2
          have hold := hown.cells e o _ (List.getElem?_eq_getElem hlt)
          rw [add_lit', Nat.zero_add] at hold
          have hnew := hown'.cells (hb'.trans e) o us[o] (by rw [List.getElem?_append_left hlt]; exact List.getElem?_eq_getElem hlt)
          rw [add_lit', Nat.zero_add] at hnew
          rw [hold, hnew]
        · rw [hownp] at e
          exact World.cell?_of_block (hgrown.block b (hi.h.stsz _ _ hst) (fun e' => e e'.symm))
      · exact World.cell?_of_block (hg.block b (hi.h.stsz _ _ hst) (by simp))
    obtain ⟨E', hw', x, hinv, hval'⟩ := hi.rowStep ht (es' := es ++ ys) (sh' := sh) hval hgrown (by simpa using hown') (by simp) (fun h => by simp at h; subst h; simp at hpos) (hob.imp (fun h => h.1) (fun h => h.1))
      hstab (fun h => h) (fun E' _ x => RowRel.app (by simpa using hown.1) (hrel.up x) (hrow.up x))
    exact ⟨v', E', by rw [hw']; exact hrun, hinv, hone' E' v' hval' hv1⟩

end
end Go.Tr
