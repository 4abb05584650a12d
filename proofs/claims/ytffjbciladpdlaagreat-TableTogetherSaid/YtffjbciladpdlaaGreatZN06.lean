/-
  What functions of the program compute, stated as contracts over plain data; the conditions of each stand in its own statement.
-/
import Derived.Test.YtffjbciladpdlaaGreatZN05
set_option linter.unusedSimpArgs false
namespace Go.Tr
open Go
theorem keyV_inj {a b : List Int} (h : keyV a = keyV b) : a = b := by
 have map_inj : ∀ {x y : List Int}, x.map (Value.int .i64) = y.map (Value.int .i64) → x = y := fun {x y} h => by
  induction x generalizing y with
  | nil => cases y with
    | nil => rfl
    | cons _ _ => simp at h
  | cons n x ih => cases y with
    | nil => simp at h
    | cons m y => simp at h; obtain ⟨rfl, h⟩ := h; rw [ih h]
 unfold keyV at h
 split at h <;> split at h
 ·simp at h; subst h; rfl
 ·simp at h
 ·simp at h
 ·simp only [Value.agg.injEq, Array.mk.injEq] at h
  exact map_inj h
def kget : List (List Int × TV) → List Int → Option TV
 | [], _ => none
 | (k', v) :: es, k => if k = k' then some v else kget es k
def kput : List (List Int × TV) → List Int → TV → List (List Int × TV)
 | [], k, v => [(k, v)]
 | (k', v') :: es, k, v => if k = k' then (k, v) :: es else (k', v') :: kput es k v
def kdel (es : List (List Int × TV)) (k : List Int) : List (List Int × TV) := es.filter fun x => decide (x.1 ≠ k)
theorem krel_get {E : En} {k : List Int} : ∀ {es : List (List Int × TV)} {l : List MapEntry}, KRel E es l →
  (kget es k = none ∧ ∀ a ∈ l, a.key ≠ keyV k) ∨ ∃ v a, kget es k = some v ∧ a ∈ l ∧ a.key = keyV k ∧ RelV E v a.val
 | [], l, h => by
   simp only [KRel] at h
   subst h
   exact .inl ⟨rfl, by simp⟩
 | (k', v) :: es, l, h => by
   obtain ⟨a, l', rfl, h1, h2, h3⟩ := h
   by_cases e : k = k'
   ·subst e
    exact .inr ⟨v, a, by simp [kget], by simp, h1, h2⟩
   ·rcases krel_get (k := k) h3 with ⟨g1, g2⟩ | ⟨v2, b, g1, g2, g3, g4⟩
    ·refine .inl ⟨by simp [kget, e, g1], fun b hb => ?_⟩
     rcases List.mem_cons.1 hb with rfl | hb
     ·rw [h1]; exact fun h => e (keyV_inj h).symm
     ·exact g2 b hb
    ·exact .inr ⟨v2, b, by simp [kget, e, g1], List.mem_cons_of_mem _ g2, g3, g4⟩
open Classical in
noncomputable def setE (kv : Value) (f : MapEntry → MapEntry) (l : List MapEntry) : List MapEntry := l.map fun e => if e.key = kv then f e else e
theorem setE_none {kv : Value} {f : MapEntry → MapEntry} {l : List MapEntry} (h : ∀ a ∈ l, a.key ≠ kv) : setE kv f l = l := by
 unfold setE
 rw [List.map_congr_left (g := id) fun e he => by simp [h e he]]
 simp
theorem setE_cons {kv : Value} {f : MapEntry → MapEntry} {a : MapEntry} {l : List MapEntry} (h : ¬ a.key = kv) : setE kv f (a :: l) = a :: setE kv f l := by
 simp [setE, h]
theorem setE_at {kv : Value} {f : MapEntry → MapEntry} {a : MapEntry} {l : List MapEntry} (h : a.key = kv) (hn : ∀ b ∈ l, b.key ≠ kv) : setE kv f (a :: l) = f a :: l := by
 have : setE kv f (a :: l) = f a :: setE kv f l := by simp [setE, h]
 rw [this, setE_none hn]
theorem nodup_tail {a : MapEntry} {l : List MapEntry} (h : ((a :: l).map (·.key)).Nodup) : (∀ b ∈ l, b.key ≠ a.key) ∧ (l.map (·.key)).Nodup := by
 rw [List.map_cons, List.nodup_cons] at h
 exact ⟨fun b hb e => h.1 (List.mem_map.2 ⟨b, hb, e⟩), h.2⟩
theorem krel_put {E : En} {k : List Int} {v : TV} {u : Value} (hr : RelV E v u) {f : MapEntry → MapEntry} (hf : ∀ a, (f a).key = keyV k ∧ (f a).val = u) : ∀ {es : List (List Int × TV)} {l : List MapEntry}, KRel E es l → (l.map (·.key)).Nodup →
  (∃ a ∈ l, a.key = keyV k) → KRel E (kput es k v) (setE (keyV k) f l)
 | [], l, h, _, ⟨a, ha, _⟩ => by
   simp only [KRel] at h
   subst h; simp at ha
 | (k', v') :: es, l, h, hn, hex => by
   obtain ⟨a, l', rfl, h1, h2, h3⟩ := h
   obtain ⟨n1, n2⟩ := nodup_tail hn
   by_cases e : k = k'
   ·subst e
    rw [setE_at h1 fun b hb => by rw [← h1]; exact n1 b hb]
    simp only [kput, if_true]
    exact ⟨f a, l', rfl, (hf a).1, by rw [(hf a).2]; exact hr, h3⟩
   ·have hne : ¬ a.key = keyV k := by rw [h1]; exact fun h => e (keyV_inj h).symm
    rw [setE_cons hne]
    simp only [kput, if_neg e]
    obtain ⟨b, hb, hbk⟩ := hex
    refine ⟨a, _, rfl, h1, h2, krel_put hr hf h3 n2 ⟨b, ?_, hbk⟩⟩
    rcases List.mem_cons.1 hb with rfl | hb
    ·exact absurd hbk hne
    ·exact hb
theorem krel_new {E : En} {k : List Int} {v : TV} {a : MapEntry} (ha : a.key = keyV k) (hr : RelV E v a.val) : ∀ {es : List (List Int × TV)} {l : List MapEntry}, KRel E es l → (∀ b ∈ l, b.key ≠ keyV k) → KRel E (kput es k v) (l ++ [a])
 | [], l, h, _ => by
   simp only [KRel] at h
   subst h
   exact ⟨a, [], rfl, ha, hr, rfl⟩
 | (k', v') :: es, l, h, hn => by
   obtain ⟨b, l', rfl, h1, h2, h3⟩ := h
   have e : ¬ k = k' := fun e => hn b (by simp) (by rw [h1, e])
   simp only [kput, if_neg e, List.cons_append]
   exact ⟨b, _, rfl, h1, h2, krel_new ha hr h3 fun c hc => hn c (List.mem_cons_of_mem _ hc)⟩
open Classical in
theorem krel_del {E : En} {k : List Int} : ∀ {es : List (List Int × TV)} {l : List MapEntry}, KRel E es l → KRel E (kdel es k) (l.filter fun a => decide (a.key ≠ keyV k))
 | [], l, h => by
   simp only [KRel] at h
   subst h; rfl
 | (k', v') :: es, l, h => by
   obtain ⟨b, l', rfl, h1, h2, h3⟩ := h
   have ih := krel_del (k := k) h3
   by_cases e : k = k'
   ·subst e
    simp only [kdel, List.filter_cons] at ih ⊢
    rw [if_neg (by simp), if_neg (by simp [h1])]
    exact ih
   ·have hne : ¬ b.key = keyV k := by rw [h1]; exact fun h => e (keyV_inj h).symm
    simp only [kdel, List.filter_cons] at ih ⊢
    rw [if_pos (by simpa using fun h => e h.symm), if_pos (by simpa using hne)]
    exact ⟨b, _, rfl, h1, h2, ih⟩
theorem krel_len {E : En} : ∀ {es : List (List Int × TV)} {l : List MapEntry}, KRel E es l → l.length = es.length
 | [], l, h => by simp only [KRel] at h; subst h; rfl
 | _ :: es, l, h => by obtain ⟨a, l', rfl, _, _, h3⟩ := h; simp [krel_len h3]
theorem krel_keys {E : En} : ∀ {es : List (List Int × TV)} {l : List MapEntry}, KRel E es l → l.map (·.key) = es.map fun x => keyV x.1
 | [], l, h => by simp only [KRel] at h; subst h; rfl
 | _ :: es, l, h => by obtain ⟨a, l', rfl, h1, _, h3⟩ := h; simp [h1, krel_keys h3]
theorem krel_mem {E : En} : ∀ {es : List (List Int × TV)} {l : List MapEntry}, KRel E es l → ∀ a ∈ l, ∃ k v, (k, v) ∈ es ∧ a.key = keyV k ∧ RelV E v a.val
 | [], l, h, a, ha => by simp only [KRel] at h; subst h; simp at ha
 | (k, v) :: es, l, h, a, ha => by
   obtain ⟨b, l', rfl, h1, h2, h3⟩ := h
   rcases List.mem_cons.1 ha with rfl | ha
   ·exact ⟨k, v, by simp, h1, h2⟩
   ·obtain ⟨k', v', g1, g2, g3⟩ := krel_mem h3 a ha
    exact ⟨k', v', List.mem_cons_of_mem _ g1, g2, g3⟩
theorem kget_mem : ∀ {es : List (List Int × TV)} {k : List Int} {v : TV}, (es.map (·.1)).Nodup → (k, v) ∈ es → kget es k = some v
 | (k', v') :: es, k, v, hn, h => by
   rw [List.map_cons, List.nodup_cons] at hn
   rcases List.mem_cons.1 h with e | h
   ·simp only [Prod.mk.injEq] at e
    obtain ⟨rfl, rfl⟩ := e
    simp [kget]
   ·have : ¬ k = k' := fun e => hn.1 (by rw [← e]; exact List.mem_map.2 ⟨_, h, rfl⟩)
    simp only [kget, if_neg this]
    exact kget_mem hn.2 h
section
variable {P : Program}
def keyT (P : Program) (kt : TypeId) (n : Nat) : Bool :=
 match P.underlying kt with
 | some (.int _) => n == 1
 | some (.struct fs) => n != 1 && (fs.toList.length == n && (!P.stoodInHeld kt && (fs.toList.zipIdx.all fun f => f.1.name != "_" && (f.1.offset == f.2 && (lf P f.1.type == some 0 && shp P f.1.type == some false)))))
 | _ => false
theorem keyT_int {kt : TypeId} {n : Nat} {q : IntKind} (hk : P.underlying kt = some (.int q)) (h : keyT P kt n = true) : n = 1 := by
 simp only [keyT, hk, beq_iff_eq] at h; exact h
theorem keyT_cases {kt : TypeId} {n : Nat} (h : keyT P kt n = true) : (n = 1 ∧ ∃ q, P.underlying kt = some (.int q)) ∨ (n ≠ 1 ∧ ∃ fs, P.underlying kt = some (.struct fs) ∧ fs.toList.length = n ∧ P.stoodInHeld kt = false ∧
  ∀ (i : Nat) (f : Field), fs.toList[i]? = some f → f.name ≠ "_" ∧ f.offset = i ∧ lf P f.type = some 0 ∧ shp P f.type = some false) := by
 unfold keyT at h
 split at h
 ·rename_i q hq; exact .inl ⟨by simpa using h, q, hq⟩
 ·rename_i fs hfs
  simp only [Bool.and_eq_true, bne_iff_ne, ne_eq, beq_iff_eq, Bool.not_eq_true', List.all_eq_true] at h
  obtain ⟨h1, h2, h3, h4⟩ := h
  refine .inr ⟨h1, fs, hfs, h2, h3, fun i f hf => ?_⟩
  have hm : (f, i) ∈ fs.toList.zipIdx := by
   rw [List.mem_zipIdx_iff_getElem?]; simpa using hf
  obtain ⟨g1, g2, g3, g4⟩ := h4 _ hm
  exact ⟨g1, g2, g3, g4⟩
 ·simp at h
theorem keyV_one {ks : List Int} (h : ks.length = 1) : ∃ k, ks = [k] ∧ keyV ks = .int .i64 k := by
 match ks, h with
 | [k], _ => exact ⟨k, rfl, rfl⟩
theorem keyV_agg {ks : List Int} (h : ks.length ≠ 1) : keyV ks = .agg (ks.map (Value.int .i64)).toArray := by
 match ks, h with
 | [], _ => rfl
 | [_], h => simp at h
 | _ :: _ :: _, _ => rfl
theorem run_part_key {ty : TypeId} (hs : shp P ty = some false) {ks : List Int} {i : Nat} (hi : i < ks.length) (w : World) : (part ty (ks.map (Value.int .i64)).toArray i).run P w = .ok (.int .i64 ks[i]) w :=
 run_part_one hs (by simp [hi]) w
theorem run_checkKeyV {kt : TypeId} {ks : List Int} (h : keyT P kt ks.length = true) (em : Bool) (w : World) : (Instr.checkKey em 10000 kt (keyV ks)).run P w = .ok () w := by
 rcases keyT_cases h with ⟨h1, q, hq⟩ | ⟨h1, fs, hfs, h2, _, h3⟩
 ·obtain ⟨k, rfl, hv⟩ := keyV_one h1
  rw [hv]
  unfold Instr.checkKey
  simp [Sem.run_bind, run_underlying hq]
 ·rw [keyV_agg h1]
  rw [show (10000 : Nat) = 9999 + 1 from rfl, Instr.checkKey]
  simp only [Sem.run_bind, run_underlying hfs, Result.andThen_ok]
  rw [← Array.forIn_toList]
  have each : ∀ f ∈ fs.toList, f.name ≠ "_" ∧ (part f.type (ks.map (Value.int .i64)).toArray f.offset).run P w = .ok (.int .i64 (ks.getD f.offset 0)) w ∧ ∀ n, (Instr.checkKey em 9999 f.type (.int .i64 n)).run P w = .ok () w := fun f hf => by
   obtain ⟨i, hi, he⟩ := List.getElem_of_mem hf
   obtain ⟨g1, g2, g3, g4⟩ := h3 i f (by rw [List.getElem?_eq_getElem hi, he])
   refine ⟨g1, ?_, fun n => ?_⟩
   ·have hil : i < ks.length := by omega
    rw [g2, run_part_key g4 hil, List.getD_eq_getElem?_getD, List.getElem?_eq_getElem hil]; rfl
   ·obtain ⟨q, hq⟩ := lf_spec.1 g3
    rw [show (9999 : Nat) = 9998 + 1 from rfl, Instr.checkKey]
    simp [Sem.run_bind, run_underlying hq]
  generalize fs.toList = L at each
  clear h2 h3 hfs
  induction L with
  | nil => simp
  | cons f L ih =>
    obtain ⟨hn, hp, hc⟩ := each f (by simp)
    simp only [List.forIn_cons, Sem.run_bind, hn, ne_eq, not_false_eq_true, if_true, Result.andThen_ok, hp, hc, Sem.run_pure]
    exact ih (fun y hy => each y (by simp [hy]))
theorem run_equalV {kt : TypeId} {n : Nat} (h : keyT P kt n = true) {a b : List Int} (ha : a.length = n) (hb : b.length = n) (w : World) : (Op.equal kt (keyV a) (keyV b)).run P w = .ok (decide (a = b)) w := by
 rcases keyT_cases h with ⟨rfl, q, hq⟩ | ⟨h1, fs, hfs, h2, hst, h3⟩
 ·obtain ⟨k, rfl, hv⟩ := keyV_one ha
  obtain ⟨k', rfl, hv'⟩ := keyV_one hb
  rw [hv, hv']
  have := run_equalIn_int (P := P) w 9999 kt .i64 q k k' hq
  rw [show (Op.equal kt (Value.int .i64 k) (.int .i64 k')) = Op.equalIn (9999 + 1) kt (.int .i64 k) (.int .i64 k') from rfl, this]
  congr 1
  by_cases e : k = k' <;> simp [e]
 ·rw [keyV_agg (by omega), keyV_agg (by omega)]
  rw [show (Op.equal kt (.agg (a.map (Value.int .i64)).toArray) (.agg (b.map (Value.int .i64)).toArray)) = Op.equalIn (9999 + 1) kt (.agg (a.map (Value.int .i64)).toArray) (.agg (b.map (Value.int .i64)).toArray) from rfl]
  have hfo : P.fieldsOf kt = fs := by simp [Program.fieldsOf, hfs]
  rw [run_equalIn_agg w 9999 kt _ _ (by rw [hfo]; exact hfs) hst, hfo]
  have key : ∀ (L : List Field) (i : Nat), (∀ j f, L[j]? = some f → fs.toList[i + j]? = some f) → i + L.length = n →
    (Op.eqFields 9999 (a.map (Value.int .i64)).toArray (b.map (Value.int .i64)).toArray L).run P w = .ok (decide (a.drop i = b.drop i)) w := fun L => by
   induction L with
   | nil =>
     intro i _ hi
     simp only [List.length_nil, Nat.add_zero] at hi
     rw [List.drop_eq_nil_of_le (by omega), List.drop_eq_nil_of_le (by omega)]
     simp [Op.eqFields]
   | cons f L ih =>
     intro i hL hi
     simp only [List.length_cons] at hi
     obtain ⟨g1, g2, g3, g4⟩ := h3 i f (by simpa using hL 0 f rfl)
     have hia : i < a.length := by omega
     have hib : i < b.length := by omega
     obtain ⟨q, hq⟩ := lf_spec.1 g3
     have p1 := run_part_key g4 hia w
     have p2 := run_part_key g4 hib w
     have p3 := run_equalIn_int (P := P) w 9998 f.type .i64 q a[i] b[i] hq
     have p4 := ih (i + 1) (fun j f hj => by have := hL (j + 1) f (by simpa using hj); rwa [show i + (j + 1) = i + 1 + j by omega] at this) (by omega)
     have e1 : (decide (a.drop i = b.drop i)) = (decide (a[i] = b[i]) && decide (a.drop (i + 1) = b.drop (i + 1))) := by
      rw [← Bool.decide_and]
      refine decide_eq_decide.2 ?_
      rw [List.drop_eq_getElem_cons hia, List.drop_eq_getElem_cons hib, List.cons.injEq]
     rw [e1]
     generalize a[i] = x at p1 p3
     generalize b[i] = y at p2 p3
     rw [show (9998 + 1 : Nat) = 9999 from rfl] at p3
     by_cases e : x = y
     ·subst e
      simp only [beq_self_eq_true] at p3
      simp [Op.eqFields, g1, g2, p1, p2, p3, p4]
     ·have e2 : (x == y) = false := by simpa using e
      rw [e2] at p3
      simp [Op.eqFields, g1, g2, p1, p2, p3, e]
  have := key fs.toList 0 (fun j f hj => by simpa using hj) (by omega)
  simpa using this
theorem run_findV {kt : TypeId} {n : Nat} (h : keyT P kt n = true) {k : List Int} (hk : k.length = n) (w : World) : ∀ (l : List MapEntry), (∀ a ∈ l, ∃ k' : List Int, k'.length = n ∧ a.key = keyV k') →
  ((Instr.findKey kt (keyV k) l).run P w = .ok none w ∧ ∀ a ∈ l, a.key ≠ keyV k) ∨ ∃ j a, (Instr.findKey kt (keyV k) l).run P w = .ok (some (j, a.val)) w ∧ l[j]? = some a ∧ a.key = keyV k := by
 have ask : ∀ (l : List MapEntry) (i : Nat), (∀ a ∈ l, ∃ k' : List Int, k'.length = n ∧ a.key = keyV k') →
   ((Instr.findAsking kt (keyV k) l i).run P w = .ok none w ∧ ∀ a ∈ l, a.key ≠ keyV k) ∨ ∃ j a, (Instr.findAsking kt (keyV k) l i).run P w = .ok (some (i + j, a.val)) w ∧ l[j]? = some a ∧ a.key = keyV k := fun l => by
  induction l with
  | nil => intro i _; exact .inl ⟨by simp [Instr.findAsking], by simp⟩
  | cons a l ih =>
    intro i hl
    obtain ⟨k', h1, h2⟩ := hl a (by simp)
    have he := run_equalV h hk h1 w
    rw [← h2] at he
    by_cases e : k = k'
    ·subst e
     refine .inr ⟨0, a, ?_, rfl, h2⟩
     unfold Instr.findAsking
     simp [Sem.run_bind, he]
    ·have hne : a.key ≠ keyV k := by rw [h2]; exact fun h => e (keyV_inj h).symm
     rcases ih (i + 1) (fun b hb => hl b (by simp [hb])) with ⟨g1, g2⟩ | ⟨j, b, g1, g2, g3⟩
     ·refine .inl ⟨?_, fun b hb => ?_⟩
      ·unfold Instr.findAsking
       simp [Sem.run_bind, he, e, g1]
      ·rcases List.mem_cons.1 hb with rfl | hb
       ·exact hne
       ·exact g2 b hb
     ·refine .inr ⟨j + 1, b, ?_, by simpa using g2, g3⟩
      unfold Instr.findAsking
      simp only [Sem.run_bind, he, e, decide_false, Result.andThen_ok, Bool.false_eq_true, if_false, g1]
      congr 3
      omega
 intro l hl
 unfold Instr.findKey
 rcases keyT_cases h with ⟨h1, q, hq⟩ | ⟨h1, fs, hfs, _⟩
 ·subst h1
  obtain ⟨x, rfl, hv⟩ := keyV_one hk
  rw [hv]
  have now : ∀ (l : List MapEntry) (i : Nat), (∀ a ∈ l, ∃ k' : List Int, k'.length = 1 ∧ a.key = keyV k') →
    (Instr.findNow (.int q) (.int .i64 x) l i = some none ∧ ∀ a ∈ l, a.key ≠ .int .i64 x) ∨ ∃ j a, Instr.findNow (.int q) (.int .i64 x) l i = some (some (i + j, a.val)) ∧ l[j]? = some a ∧ a.key = .int .i64 x := fun l => by
   induction l with
   | nil => intro i _; exact .inl ⟨rfl, by simp⟩
   | cons a l ih =>
     intro i hl
     obtain ⟨k', h1, h2⟩ := hl a (by simp)
     obtain ⟨y, rfl, hv'⟩ := keyV_one h1
     rw [hv'] at h2
     by_cases e : x = y
     ·subst e
      exact .inr ⟨0, a, by simp [Instr.findNow, Instr.sameNow, h2], rfl, h2⟩
     ·have hne : (x == y) = false := by simpa using e
      have hk2 : a.key ≠ .int .i64 x := by rw [h2]; simpa using fun h : y = x => e h.symm
      rcases ih (i + 1) (fun b hb => hl b (by simp [hb])) with ⟨g1, g2⟩ | ⟨j, b, g1, g2, g3⟩
      ·refine .inl ⟨by simp [Instr.findNow, Instr.sameNow, h2, hne, g1], fun b hb => ?_⟩
       rcases List.mem_cons.1 hb with rfl | hb
       ·exact hk2
       ·exact g2 b hb
      ·refine .inr ⟨j + 1, b, ?_, by simpa using g2, g3⟩
       simp only [Instr.findNow, Instr.sameNow, h2, if_true, hne, g1]
       congr 3
       omega
  rcases now l 0 hl with ⟨g1, g2⟩ | ⟨j, a, g1, g2, g3⟩
  ·exact .inl ⟨by simp [Sem.run_bind, run_underlying hq, g1], g2⟩
  ·exact .inr ⟨j, a, by simp [Sem.run_bind, run_underlying hq, g1], g2, g3⟩
 ·have hag : keyV k = .agg (k.map (Value.int .i64)).toArray := keyV_agg (by omega)
  rcases l with _ | ⟨a, l⟩
  ·exact .inl ⟨by simp [Sem.run_bind, run_underlying hfs, Instr.findNow], by simp⟩
  ·have hno : Instr.findNow (.struct fs) (keyV k) (a :: l) 0 = none := by
    simp [Instr.findNow, Instr.sameNow, hag]
   rcases ask (a :: l) 0 hl with ⟨g1, g2⟩ | ⟨j, b, g1, g2, g3⟩
   ·refine .inl ⟨?_, g2⟩
    simp only [Sem.run_bind, run_underlying hfs, Result.andThen_ok, hno]
    exact g1
   ·refine .inr ⟨j, b, ?_, g2, g3⟩
    simp only [Sem.run_bind, run_underlying hfs, Result.andThen_ok, hno]
    simpa using g1
end
end Go.Tr

namespace Go.Tr
open Go
def keyTV : List Int → TV
 | [k] => .d (.int .i64 k)
 | ks => .agg (ks.map fun n => .d (.int .i64 n))
def toKs : List TV → Option (List Int)
 | [] => some []
 | .d (.int k n) :: l => match toKs l with
   | some ks => if k = .i64 then some (n :: ks) else none
   | none => none
 | _ :: _ => none
def toKey : TV → Option (List Int)
 | .d (.int k n) => if k = .i64 then some [n] else none
 | .agg vs => match toKs vs with
   | some ks => if ks.length = 1 then none else some ks
   | none => none
 | _ => none
def mpK (P : Program) (ty : TypeId) (n : Nat) : Option TypeId :=
 match P.underlying ty with
 | some (.map k e) => if keyT P k n = true then some e else none
 | _ => none
theorem mpK_spec {P : Program} {ty e : TypeId} {n : Nat} (h : mpK P ty n = some e) : ∃ kt, P.underlying ty = some (.map kt e) ∧ keyT P kt n = true := by
 unfold mpK at h
 split at h
 ·rename_i kt e' hu
  split at h
  ·rename_i hk; simp only [Option.some.injEq] at h; subst h; exact ⟨kt, hu, hk⟩
  ·simp at h
 ·simp at h
theorem toKs_rel {E : En} : ∀ {vs : List TV} {ks : List Int} {us : List Value}, toKs vs = some ks → RelVs E vs us → us = ks.map (Value.int .i64)
 | [], ks, us, h, hr => by
   simp only [toKs, Option.some.injEq] at h; subst h
   simp only [RelVs] at hr; subst hr; rfl
 | v :: vs, ks, us, h, hr => by
   simp only [RelVs] at hr
   obtain ⟨u, us', rfl, h1, h2⟩ := hr
   unfold toKs at h
   split at h
   ·simp at *
   ·rename_i k n l heq
    simp only [List.cons.injEq] at heq
    obtain ⟨rfl, rfl⟩ := heq
    split at h
    ·rename_i ks' hk
     split at h
     ·rename_i hq
      simp only [Option.some.injEq] at h; subst h; subst hq
      simp only [RelV, Rep] at h1
      rw [toKs_rel hk h2, h1]; rfl
     ·simp at h
    ·simp at h
   ·simp at h
theorem toKey_rel {E : En} {v : TV} {ks : List Int} {u : Value} (h : toKey v = some ks) (hr : RelV E v u) : u = keyV ks := by
 unfold toKey at h
 split at h
 ·split at h
  ·rename_i hq
   simp only [Option.some.injEq] at h; subst h; subst hq
   simp only [RelV, Rep] at hr
   exact hr
  ·simp at h
 ·split at h
  ·rename_i ks' hk
   split at h
   ·simp at h
   ·rename_i hl
    simp only [Option.some.injEq] at h; subst h
    simp only [RelV] at hr
    obtain ⟨us, rfl, hus⟩ := hr
    rw [keyV_agg hl, ← toKs_rel hk hus]
  ·simp at h
 ·simp at h
theorem keyTV_rel (E : En) (ks : List Int) : RelV E (keyTV ks) (keyV ks) := by
 have h : ∀ l : List Int, RelVs E (l.map fun n => .d (.int .i64 n)) (l.map (Value.int .i64)) := fun l => by
  induction l with
  | nil => simp [RelVs]
  | cons n l ih => simp only [List.map_cons, RelVs]; exact ⟨_, _, rfl, by simp [RelV, Rep], ih⟩
 match ks with
 | [k] => simp [keyTV, keyV, RelV, Rep]
 | [] => simp only [keyTV, keyV, RelV]; exact ⟨_, rfl, h []⟩
 | a :: b :: l => simp only [keyTV, keyV, RelV]; exact ⟨_, rfl, h (a :: b :: l)⟩
theorem sameBits_keyV (ks : List Int) : Instr.sameBits 10000 (keyV ks) (keyV ks) = true := by
 match ks with
 | [k] => simp [keyV, Instr.sameBits]
 | [] => simp [keyV, Instr.sameBits]
 | a :: b :: l =>
   rw [keyV_agg (by simp)]
   simp only [Instr.sameBits, beq_self_eq_true, Bool.true_and, List.all_eq_true]
   intro x hx
   have : x.1 = x.2 ∧ ∃ n, x.1 = Value.int .i64 n := by
    have h2 : ∀ (m : List Int), ∀ y ∈ ((m.map (Value.int .i64)).zip (m.map (Value.int .i64))), y.1 = y.2 ∧ ∃ n, y.1 = Value.int .i64 n := fun m => by
     induction m with
     | nil => simp
     | cons n m ih =>
       intro y hy
       simp only [List.map_cons, List.zip_cons_cons, List.mem_cons] at hy
       rcases hy with rfl | hy
       ·exact ⟨rfl, n, rfl⟩
       ·exact ih y hy
    exact h2 _ x hx
   obtain ⟨h1, n, h2⟩ := this
   rw [← h1, h2]
   simp [Instr.sameBits]
theorem entry_eq_of_key2 : ∀ {l : List MapEntry}, l.Pairwise (fun x y => x.key ≠ y.key) → ∀ {x y : MapEntry}, x ∈ l → y ∈ l → x.key = y.key → x = y
 | [], _, _, _, hx, _, _ => by simp at hx
 | a :: r, hp, x, y, hx, hy, h => by
   obtain ⟨h1, h2⟩ := List.pairwise_cons.1 hp
   rcases List.mem_cons.1 hx with ex | hx'
   ·rcases List.mem_cons.1 hy with ey | hy'
    ·rw [ex, ey]
    ·exact absurd (ex ▸ h) (h1 y hy')
   ·rcases List.mem_cons.1 hy with ey | hy'
    ·exact absurd (ey ▸ h).symm (h1 x hx')
    ·exact entry_eq_of_key2 h2 hx' hy' h
section
variable {P : Program} {A : Actv}
theorem InvE.newMapK {t : S} {a : Act} {E : En} (h : InvE A t a E) {d : Nat} (hd : t (.o d) = .none) :
  ∃ E' : En, E'.w = E.w.alloc (.map #[] 0) ∧ InvE A (upd t (.o d) (.mpk [] 0 none none)) a E' ∧ RelV E' (.mref d) (.map (some E.w.heap.size)) := by
 have hfree := h.h.item (.o d) (by simp)
 rw [hd] at hfree
 obtain ⟨hb0, hv0⟩ := hfree d rfl
 let E' : En := { w := E.w.alloc (.map #[] 0), St := E.St, blk := fun p => if p = .o d then some E.w.heap.size else E.blk p, val := fun i => if i = d then some (0, 0, undef) else E.val i }
 have hold : ∀ b, b < E.w.heap.size → E'.w.heap[b]? = E.w.heap[b]? := fun b hb => heap_alloc_old E.w _ b hb
 have x : ExtA E E' := by
  refine ⟨fun _ _ h => h, fun b o hst => atW_of_block (hold b (h.h.stsz b o hst)), fun id b _ he => ?_, fun i b he => by simpa [E'] using he, fun i b he => by simpa [E'] using he, fun id k c v _ hv => ⟨c, v, ?_, Nat.le_refl _, fun _ => rfl⟩⟩
  ·by_cases e : id = d
   ·subst e; rw [hb0] at he; simp at he
   ·simpa [E', e] using he
  ·by_cases e : id = d
   ·subst e; rw [hv0] at hv; simp at hv
   ·simpa [E', e] using hv
 have hown : E'.own (.o d) = some E.w.heap.size := by simp [En.own, E']
 have hownq : ∀ q, q ≠ .o d → E'.own q = E.own q := fun q hq => En.own_eq (by simp [E', hq]) (fun id hid => by
  have : id ≠ d := fun e => hq (by rw [hid, e])
  simp [E', this])
 have hH : HInv E' (upd t (.o d) (.mpk [] 0 none none)) := by
  refine h.h.change (by simp) x (fun b o hst => .inl hst) (fun q hq => by simp [E', hq]) (fun id hid => by
   have : id ≠ d := fun e => hid (by rw [e])
   simp [E', this]) (by simp [E']) (fun q b hq hb => hold b (h.h.size q b hb)) (fun b hb => ?_) ?_ (fun b o hst hb => ?_)
  ·rw [hown] at hb; simp at hb; subst hb; exact ⟨by simp [E'], .inr (Nat.le_refl _)⟩
  ·exact ⟨d, E.w.heap.size, #[], 0, [], 0, undef, rfl, by simp [E'], heap_alloc_new E.w _, .refl _, rfl, MapKept.stamped_empty 0, by simp [E'], trivial, by simp⟩
  ·rw [hown] at hb; simp at hb; subst hb
   exact absurd (h.h.stsz _ _ hst) (by omega)
 refine ⟨E', rfl, h.step hH x (h.fr.next rfl rfl rfl (by simp [E']) (fun b hb _ _ => hold b (Nat.lt_of_lt_of_le hb h.fr.size)) (fun i => by simp [E']) (fun id b hb => ?_) (fun _ _ h => h) (fun _ _ h => .inl h)) (fun k => upd_s (by simp) k), ?_⟩
 ·by_cases e : id = d
  ·subst e; rw [hown] at hb; simp at hb; subst hb; exact .inr (Nat.le_refl _)
  ·rw [hownq _ (by simpa using e)] at hb; exact .inl hb
 ·simp only [RelV]; exact ⟨E.w.heap.size, by simp [E'], rfl⟩
theorem mapK_cur {t : S} {a : Act} {E : En} (hi : InvE A t a E) {id c : Nat} {es : List (List Int × TV)} {pd : Option (List Int)} {s : Option Snap} (ht : t (.o id) = .mpk es c pd s) :
  ∃ b l clock l' ty v, E.blk (.o id) = some b ∧ E.w.heap[b]? = some (.map l clock) ∧ l'.Perm l.toList ∧ KRel E es l' ∧ MapKept.Stamped l clock ∧ E.val id = some (ty, c, v) ∧ pdOK l pd v ∧ ∀ x, s = some x → x = ⟨b, l, clock⟩ := by
 have := hi.h.item (.o id) (by simp)
 rw [ht] at this
 obtain ⟨id', b, l, clock, l', ty, v, hid, h⟩ := this
 simp only [Pl.o.injEq] at hid
 subst hid
 exact ⟨b, l, clock, l', ty, v, h⟩
theorem InvE.kStep {t : S} {a : Act} {E : En} (hi : InvE A t a E) {id b c c' ty : Nat} {v v' : Value} {es es' : List (List Int × TV)} {pd pd' : Option (List Int)} {s : Option Snap} {l l2 : Array MapEntry} {l' : List MapEntry} {clock clock2 : Nat} (ht : t (.o id) = .mpk es c pd s)
  (hb : E.blk (.o id) = some b) (hg : E.w.heap[b]? = some (.map l clock)) (hv : E.val id = some (ty, c, v)) (hp : l'.Perm l2.toList) (hm : KRel E es' l') (hs : MapKept.Stamped l2 clock2) (hc : c ≤ c') (hcv : c = c' → v' = v) (hpd : pdOK l2 pd' v') :
  ∃ E' : En, E'.w = { E.w with heap := E.w.heap.setIfInBounds b (.map l2 clock2) } ∧ ExtA E E' ∧ InvE A (upd t (.o id) (.mpk es' c' pd' none)) a E' ∧ E'.val id = some (ty, c', v') := by
 have hlt : b < E.w.heap.size := (Array.getElem?_eq_some_iff.1 hg).1
 have hownp : E.own (.o id) = some b := by simp [En.own, hb]
 let E' : En := { E with w := { E.w with heap := E.w.heap.setIfInBounds b (.map l2 clock2) }, val := fun i => if i = id then some (ty, c', v') else E.val i }
 have hoth : ∀ b', b' ≠ b → E'.w.heap[b']? = E.w.heap[b']? := fun b' hne => by simp [E', Array.getElem?_setIfInBounds, show ¬ b = b' from fun e => hne e.symm]
 have hst : ∀ b' o', E.St b' o' → b' ≠ b := fun b' o' h e => by
  subst e
  obtain ⟨e2, k2, es2, h1, _⟩ := hi.h.sep _ o' h _ hownp
  rw [ht] at h1; simp at h1
 have x : ExtA E E' := ⟨fun _ _ h => h, fun b' o' h => atW_of_block (hoth b' (hst b' o' h)), fun _ _ _ h => h, fun _ _ h => h, fun _ _ h => h, fun i k c0 v0 _ h => by
  by_cases e : i = id
  ·subst e
   rw [hv] at h
   simp only [Option.some.injEq, Prod.mk.injEq] at h
   obtain ⟨rfl, rfl, rfl⟩ := h
   exact ⟨c', v', by simp [E'], hc, hcv⟩
  ·exact ⟨c0, v0, by simpa [E', e] using h, Nat.le_refl _, fun _ => rfl⟩⟩
 have hown : ∀ q, E'.own q = E.own q := fun q => by
  by_cases e : q = .o id
  ·subst e; simp [En.own, E', hb]
  ·exact En.own_eq rfl (fun i hid => by
    have : i ≠ id := fun e2 => e (by rw [hid, e2])
    simp [E', this])
 have hH : HInv E' (upd t (.o id) (.mpk es' c' pd' none)) := by
  refine hi.h.change (by simp) x (fun b o h => .inl h) (fun _ _ => rfl) (fun i hid => by
   have : i ≠ id := fun e => hid (by rw [e])
   simp [E', this]) (by simp [E']) (fun q b' hq hb' => hoth b' fun e => hq (by subst e; exact hi.h.inj _ _ _ hb' hownp)) (fun b' hb' => ?_) ?_ (fun b' o' hs hb' => ?_)
  ·rw [hown] at hb'; exact ⟨by simpa [E'] using hi.h.size _ _ hb', .inl hb'⟩
  ·exact ⟨id, b, l2, clock2, l', ty, v', rfl, hb, by simp [E', hlt], hp, hm.up x, hs, by simp [E'], hpd, by simp⟩
  ·rw [hown, hownp] at hb'; simp only [Option.some.injEq] at hb'
   exact absurd hb'.symm (hst b' o' hs)
 refine ⟨E', rfl, x, hi.step hH x (hi.fr.next rfl rfl rfl (by simp [E']) (fun b' h1 _ h3 => hoth b' fun e => ?_) (fun _ => rfl) (fun j b' h => .inl (by rwa [hown] at h)) (fun _ _ h => h) (fun _ _ h => .inl h)) (fun k => upd_s (by simp) k), by simp [E']⟩
 subst e
 exact (hi.fr.new id b' hownp).elim (fun h => by omega) (fun ⟨j, h⟩ => h3 j h)
theorem eff_makeMapK {o : Oper} {t : S} {ty d : Nat} (ho : o.op = .makeMap ty none) : EffOK P A o t ⟨t (.o d) = .none, [.o d], [(.o d, .mpk [] 0 none none)], .mref d⟩ := fun hC t' hr a E hi => by
 have ht' : t' (.o d) = .none := (hr _ (by simp)).trans hC
 obtain ⟨E', hw, hinv, hrel⟩ := hi.newMapK ht'
 refine ⟨_, _, E', ?_, .inl rfl, hinv, hrel⟩
 simp [execOp, ho, Instr.makeMap, hw]
def lkK (ck : Bool) (m : Option TV) (z : TV) : TV :=
 match ck with
 | true => .tup [match m with | some v => v | none => z, .d (.bool m.isSome)]
 | false => match m with | some v => v | none => z
theorem zero_run {e : TypeId} {z : Value} (hz : zrO P e = some z) (w : World) : (zeroValue e).run P w = .ok z w := by
 unfold zrO at hz
 cases hinf : P.info? e with
 | none => simp [hinf] at hz
 | some inf =>
   simp only [hinf, Option.bind_some] at hz
   simp [zeroValue, typeInfo, hinf, hz]
theorem mapK_args {t' : S} {a : Act} {E : En} (hi : InvE A t' a E) {x ix : Operand} {id c : Nat} {es : List (List Int × TV)} {pd : Option (List Int)} {s : Option Snap} {k : List Int} (hx : ev t' x = .mref id) (ht : t' (.o id) = .mpk es c pd s) (hix : toKey (ev t' ix) = some k) {kt : TypeId} (hkt : keyT P kt k.length = true) (hlen : ∀ y ∈ es, y.1.length = k.length) :
  ∃ b l clock l' ty v, a.eval x = .map (some b) ∧ a.eval ix = keyV k ∧ E.blk (.o id) = some b ∧ E.w.heap[b]? = some (.map l clock) ∧ l'.Perm l.toList ∧ KRel E es l' ∧ MapKept.Stamped l clock ∧ E.val id = some (ty, c, v) ∧ pdOK l pd v ∧
   (((Instr.findKey kt (keyV k) l.toList).run P E.w = .ok none E.w ∧ kget es k = none ∧ (∀ b ∈ l.toList, b.key ≠ keyV k) ∧ ∀ b ∈ l', b.key ≠ keyV k) ∨
     ∃ j e v0, (Instr.findKey kt (keyV k) l.toList).run P E.w = .ok (some (j, e.val)) E.w ∧ l[j]? = some e ∧ e.key = keyV k ∧ kget es k = some v0 ∧ RelV E v0 e.val ∧ e ∈ l') := by
 have h1 := ev_rel hi x
 rw [hx] at h1
 simp only [RelV] at h1
 obtain ⟨b0, hb0, hu⟩ := h1
 have h2 := toKey_rel hix (ev_rel hi ix)
 obtain ⟨b, l, clock, l', ty, v, hb, hg, hp, hm, hs, hv, hpd, _⟩ := mapK_cur hi ht
 rw [hb] at hb0
 simp only [Option.some.injEq] at hb0
 subst hb0
 refine ⟨b, l, clock, l', ty, v, hu, h2, hb, hg, hp, hm, hs, hv, hpd, ?_⟩
 have hall : ∀ e ∈ l.toList, ∃ k' : List Int, k'.length = k.length ∧ e.key = keyV k' := fun e he => by
  obtain ⟨k', v', g1, g2, _⟩ := krel_mem hm e (hp.mem_iff.2 he)
  exact ⟨k', hlen _ g1, g2⟩
 rcases run_findV hkt rfl E.w l.toList hall with ⟨g1, g2⟩ | ⟨j, e, g1, g2, g3⟩
 ·rcases krel_get (k := k) hm with ⟨q1, q2⟩ | ⟨v0, e, q1, q2, q3, _⟩
  ·exact .inl ⟨g1, q1, g2, q2⟩
  ·exact absurd q3 (g2 e (hp.mem_iff.1 q2))
 ·have hej : l[j]? = some e := by simpa using g2
  have hel : e ∈ l.toList := List.mem_of_getElem? g2
  rcases krel_get (k := k) hm with ⟨q1, q2⟩ | ⟨v0, e2, q1, q2, q3, q4⟩
  ·exact absurd g3 (q2 e (hp.mem_iff.2 hel))
  ·have hnd : (l.toList.map (·.key)).Nodup := hs.2.2
   have : e2 = e := by
    have hpw := ((MapKept.stamped_iff l clock).1 hs).2.2
    exact entry_eq_of_key2 hpw (hp.mem_iff.1 q2) hel (q3.trans g3.symm)
   subst this
   exact .inr ⟨j, e2, v0, g1, hej, g3, q1, q4, q2⟩
end
end Go.Tr
