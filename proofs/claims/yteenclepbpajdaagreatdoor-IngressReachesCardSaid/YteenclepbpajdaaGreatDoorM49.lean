/-
  What functions of the program compute, stated as contracts over plain data; the conditions of each stand in its own statement.
-/
import Derived.Test.YteenclepbpajdaaGreatDoorM46
import Derived.Test.YteenclepbpajdaaGreatDoorM32
import Derived.Test.YteenclepbpajdaaGreatDoorR7
import Derived.Test.YteenclepbpajdaaGreatDoorM18
import Derived.Test.YteenclepbpajdaaGreatDoorM26
set_option linter.unusedSimpArgs false
set_option maxRecDepth 100000
set_option maxHeartbeats 4000000
namespace Go.Proofs
open Go Go.Tr
noncomputable def kOf (B : BitVec 64) : Nat := (bitsL B).headD 0
theorem bitsL_one {k : Nat} (hk : k < 64) : bitsL (1#64 <<< k) = [k] := by
 unfold bitsL
 have e : (List.range 64).filter (fun i => (1#64 <<< k).getLsbD i) = (List.range 64).filter fun i => decide (i = k) := by
  refine List.filter_congr fun i hi => ?_
  have hi' : i < 64 := by simpa using hi
  rw [Bool.eq_iff_iff, one_bit hk hi']; simp
 rw [e, filter_nodup List.nodup_range, if_pos (by simpa using hk)]
theorem kOf_one {k : Nat} (hk : k < 64) : kOf (1#64 <<< k) = k := by simp [kOf, bitsL_one hk]
theorem nodup_dl {c : Int} : ∀ {dl : List (Int × Pk)}, (∀ d ∈ dl, ∃ k < 64, d.2.bits = 1#64 <<< k) → (∀ k < 64, (dl.filter fun d => d.2.bits.getLsbD k).length ≤ 1) → (dl.map fun d => c + (kOf d.2.bits : Int) + 1).Nodup
 | [], _, _ => by simp
 | d :: dl, h1, h2 => by
   have ih : (dl.map fun d => c + (kOf d.2.bits : Int) + 1).Nodup := nodup_dl (fun x hx => h1 x (by simp [hx])) fun k hk => by
    refine Nat.le_trans ?_ (h2 k hk)
    rw [List.filter_cons]
    split
    ·simp
    ·exact Nat.le_refl _
   rw [List.map_cons, List.nodup_cons]
   refine ⟨fun hm => ?_, ih⟩
   obtain ⟨d', hd', e⟩ := List.mem_map.1 hm
   obtain ⟨k, hk, hb⟩ := h1 d (by simp)
   obtain ⟨k', hk', hb'⟩ := h1 d' (by simp [hd'])
   rw [hb, hb', kOf_one hk, kOf_one hk'] at e
   have ek : k' = k := by omega
   subst ek
   have := h2 k' hk'
   rw [List.filter_cons, if_pos (by rw [hb, one_bit hk hk]), List.length_cons] at this
   have h0 : dl.filter (fun d => d.2.bits.getLsbD k') = [] := List.length_eq_zero_iff.1 (by omega)
   have : d' ∈ dl.filter (fun d => d.2.bits.getLsbD k') := by
    rw [List.mem_filter]
    exact ⟨hd', by rw [hb', one_bit hk hk]⟩
   rw [h0] at this
   simp at this
noncomputable def wantI (g : Topo) (p : Pn) (r id : Int) : Bool := capR g.rs ((edOf p id).getD ⟨0, 0⟩).r && conn g r ((edOf p id).getD ⟨0, 0⟩).r
theorem rpF_some : ∀ (L out : List Int), rpF app1 (L.map some) out = (out ++ L, 0)
 | [], out => by simp [rpF]
 | x :: L, out => by
   rw [List.map_cons, rpF, app1, rpF_some L]; simp
theorem zip_self {α β : Type} (f : α → β) : ∀ l : List α, l.zip (l.map f) = l.map fun x => (x, f x)
 | [] => rfl
 | x :: l => by simp [zip_self f l]
theorem del_at {g : Topo} (hg : chkT g = 0) {p : Pn} (hp : planB p = true) {q : Pk} (hF : FitL (tabs g p g.rs) q) {r : Int} (hr : capR g.rs r = true) {d : Int × Pk} (hd : d ∈ (runG (tabs g p g.rs) (wt q) [(r, q)] tr0).dl) :
  ∃ k ∈ bitsL q.bits, d.2.bits = 1#64 <<< k ∧ ∃ e ∈ p.es, e.id = idAt q k ∧ d.1 = e.r ∧ capR g.rs e.r = true ∧ dst g e.r r < far := by
 have hO := chkT_zero hg
 have hsome : (findT (tabs g p g.rs) r).isSome := by rw [tabs_find hO, if_pos hr]; rfl
 obtain ⟨k, hk, hb⟩ := (run_all hF hsome).dl d hd
 obtain ⟨h1, ws, h2, h3, h4⟩ := (run_dl hF r hk d).1 ⟨hd, by rw [hb, one_bit hk hk]⟩
 obtain ⟨e, he, hid, hl, hc, _, hds⟩ := dl_wrong hg hp h2
 exact ⟨k, mem_bitsL.2 ⟨hk, h1⟩, hb, e, he, hid, by rw [h4]; exact hl, hc, hds⟩
theorem reach_ok {g : Topo} (hg : chkT g = 0) {p : Pn} (hp : planB p = true) (hd : 0 ≤ p.subd ∧ p.subd ≤ 7) {ids : List Int} (hs : ids.Sublist (p.es.map (·.id))) {l : List Sb} (hU : SetU p ids l) {q : Pk} (hq : TemplV q) (hm : q.mode ≠ 2) (hn : g.rs.length ≤ 63) {r : Int} (hr : capR g.rs r = true) :
  reachV p (l.map (q.with p)) ((l.map (q.with p)).map fun x => (runR (tabs g p g.rs) x r).1) = (ids.filter (wantI g p r), 0) := by
 have hO := chkT_zero hg
 have hT := tabs_v hg hp
 have hF : ∀ s ∈ l, FitL (tabs g p g.rs) (q.with p s) := fun s h => with_fit hT hq hm hd hU h
 have hrun : ∀ s ∈ l, runR (tabs g p g.rs) (q.with p s) r = (runG (tabs g p g.rs) (wt (q.with p s)) [(r, q.with p s)] tr0, 0) := fun s h => (fit_run hT (hF s h) ((tabs_rs hO p r).2 hr)).1
 have hpw : ids.Pairwise fun a b => a < b := by
  refine List.Pairwise.sublist hs ?_
  rw [List.pairwise_map]
  exact plan_asc hp
 have hrp : ∀ s ∈ l, rpT p (q.with p s) (runR (tabs g p g.rs) (q.with p s) r).1 = ((runR (tabs g p g.rs) (q.with p s) r).1.dl.map fun d => s.set * p.len + (kOf d.2.bits : Int) + 1).map some := fun s h => by
  unfold rpT
  rw [List.map_map, List.map_eq_flatMap]
  rw [hrun s h]
  simp only
  rw [List.flatMap_def, List.flatMap_def]
  refine congrArg List.flatten (List.map_congr_left fun d hdd => ?_)
  obtain ⟨k, hk, hb, e, he, hid, hl, hc, hds⟩ := del_at hg hp (hF s h) hr hdd
  have hk64 := (mem_bitsL.1 hk).1
  simp only [rpD, bitsI, hb, bitsL_one hk64, List.map_cons, List.map_nil, Function.comp, kOf_one hk64]
  have hat := hU.bit s h k hk
  have hai := with_id (q := q) hU h hk
  rw [hai] at hid
  have hany := any_edge hp d.1 (s.set * p.len + (k : Int) + 1)
  rw [show p.es.find? (fun e => decide (e.id = s.set * p.len + (k : Int) + 1)) = some e by rw [← hid]; exact edOf_some hp he] at hany
  simp only [hl, decide_true] at hany
  simp only [rpS]
  rw [if_pos ⟨hat, by rw [← hl] at hany; exact hany⟩]
  rfl
 have hL : rpL p (l.map (q.with p)) ((l.map (q.with p)).map fun x => (runR (tabs g p g.rs) x r).1) = (l.flatMap fun s => (runR (tabs g p g.rs) (q.with p s) r).1.dl.map fun d => s.set * p.len + (kOf d.2.bits : Int) + 1).map some := by
  unfold rpL
  rw [zip_self, List.flatMap_map, List.flatMap_map, List.map_flatMap, List.flatMap_def, List.flatMap_def]
  exact congrArg List.flatten (List.map_congr_left fun s h => hrp s h)
 have hok : ((l.map (q.with p)).any fun q => !q.ok) = false := by
  rw [List.any_eq_false]
  intro x hx
  obtain ⟨s, h1, rfl⟩ := List.mem_map.1 hx
  simp [with_okU hq hd hU h1]
 unfold reachV
 rw [if_neg (by rw [hp, hok]; simp), rpF_srt0, hL, rpF_some, List.nil_append]
 refine congrArg (fun x => (x, (0 : Int))) ?_
 generalize hG : (l.flatMap fun s => (runR (tabs g p g.rs) (q.with p s) r).1.dl.map fun d => s.set * p.len + (kOf d.2.bits : Int) + 1) = G
 have hfl := hU.flat
 have hsp : (l.flatMap (sbIds p.len)).Pairwise fun a b => a < b := by rw [hfl]; exact hpw
 rw [List.pairwise_flatMap] at hsp
 have hin : ∀ s ∈ l, ∀ x ∈ (runR (tabs g p g.rs) (q.with p s) r).1.dl.map (fun d => s.set * p.len + (kOf d.2.bits : Int) + 1), x ∈ sbIds p.len s ∧ wantI g p r x = true := fun s h x hx => by
  rw [hrun s h] at hx
  obtain ⟨d, hdd, rfl⟩ := List.mem_map.1 hx
  obtain ⟨k, hk, hb, e, he, hid, hl, hc, hds⟩ := del_at hg hp (hF s h) hr hdd
  have hk64 := (mem_bitsL.1 hk).1
  rw [hb, kOf_one hk64]
  rw [with_id (q := q) hU h hk] at hid
  refine ⟨List.mem_map.2 ⟨k, hk, rfl⟩, ?_⟩
  unfold wantI
  rw [← hid, edOf_some hp he, Option.getD_some, hc, Bool.true_and]
  exact (conn_iff hg).2 ⟨cap_has hO hr, cap_has hO hc, hds⟩
 have hnd : G.Nodup := by
  rw [← hG]
  unfold List.Nodup
  rw [List.pairwise_flatMap]
  refine ⟨fun s h => ?_, hsp.2.imp_of_mem fun {a b} ha hb hab x hx y hy => ?_⟩
  ·rw [hrun s h]
   exact nodup_dl (run_all (hF s h) (fit_run hT (hF s h) ((tabs_rs hO p r).2 hr)).2).dl fun k hk => run_dl_len (hF s h) r hk
  ·have := hab x (hin a ha x hx).1 y (hin b hb y hy).1
   omega
 have hms : (msort G).Pairwise fun a b => a < b := by
  have h1 := msort_asc G
  have h2 : (msort G).Pairwise fun a b => a ≠ b := (msort_perm G).nodup_iff.2 hnd
  exact (h1.and h2).imp fun h => by omega
 refine strict_eq hms (hpw.sublist List.filter_sublist) fun x => ?_
 rw [(msort_perm G).mem_iff, ← hG, List.mem_filter, List.mem_flatMap]
 constructor
 ·rintro ⟨s, h, hx⟩
  obtain ⟨h1, h2⟩ := hin s h x hx
  exact ⟨by rw [← hfl, List.mem_flatMap]; exact ⟨s, h, h1⟩, h2⟩
 ·rintro ⟨h1, h2⟩
  rw [← hfl, List.mem_flatMap] at h1
  obtain ⟨s, h, hx⟩ := h1
  obtain ⟨k, hk, rfl⟩ := List.mem_map.1 hx
  have hk64 := (mem_bitsL.1 hk).1
  have hmem := id_mem hU h hk
  obtain ⟨e, he, hid⟩ := List.mem_map.1 (hs.subset hmem)
  try simp only at hid
  unfold wantI at h2
  rw [← hid, edOf_some hp he, Option.getD_some, Bool.and_eq_true] at h2
  obtain ⟨h3, h4⟩ := h2
  obtain ⟨_, _, hds⟩ := (conn_iff hg).1 h4
  obtain ⟨ws, hD, hl⟩ := dl_right hg hp he h3 (plnP (q.with p s)) _ (Nat.le_refl _) hr hds
  refine ⟨s, h, List.mem_map.2 ⟨(lastR r ws, pkD (q.with p s) k ws.length), ?_, ?_⟩⟩
  ·rw [hrun s h]
   refine ((run_dl (hF s h) r hk64 _).2 ⟨(mem_bitsL.1 hk).2, ws, ?_, ?_, rfl⟩).1
   ·rw [with_id (q := q) hU h hk, ← hid]; exact hD
   ·have l2 := hD.len
    have l3 := tabs_len g p
    show (ws.length : Int) ≤ q.ttl
    rw [hq.ttl]; omega
  ·show s.set * p.len + (kOf (1#64 <<< k) : Int) + 1 = _
   rw [kOf_one hk64]
theorem sendL_lack {X : List Tb} {r : Int} {x : Pk} {ps : List Pk} {out : List Trc} (h : (runR X x r).2 = 4) : sendL X r (x :: ps) out = ([], 4) := by
 rw [sendL, if_neg (by rw [h]; omega), h]
theorem reach_nil {p : Pn} (hp : planB p = true) : reachV p [] [] = ([], 0) := by
 unfold reachV
 rw [if_neg (by rw [hp]; simp)]
 rfl
end Go.Proofs

set_option linter.unusedSimpArgs false
set_option maxRecDepth 100000
set_option maxHeartbeats 8000000
namespace Go.Proofs
open Go Go.Tr
theorem gChL_tape : ∀ (es : List Ed) (T : Tp) (l : List Int), TapeOK (gChL es T l).2 = TapeOK T
 | [], _, _ => rfl
 | e :: es, T, l => by rw [gChL, gChL_tape es]; simp
theorem gCh0_tape (T : Tp) (p : Pn) : TapeOK (gCh T p 0).2 = TapeOK T := by
 unfold gCh
 simp [gChL_tape]
theorem topV_small {most : Int} {g : Topo} (h : TopV most g) : g.rs.length ≤ 24 ∧ g.ls.length ≤ 60 := ⟨(chkT_zero h.ok).nr, (chkT_zero h.ok).nl⟩
theorem edgeT_eq (p : Pn) (id : Int) : edgeT p id = .tup [.agg (((edOf p id).getD ⟨0, 0⟩).cs.map .d), .d (.bool (edOf p id).isSome)] := by
 unfold edgeT edOf
 cases p.es.find? (fun e => decide (e.id = id)) <;> rfl
theorem ireaches_law (L : List Int) (hL : ∀ x ∈ L, I64 x) : Contract Tryz.prog 11 [.d (ints L)] [] (.d (.bool true)) [] [] := by
 refine contract_of Tryz.func11 rfl (fun E0 => ?_)
 refine awp.sound (g := .mk) (ow := []) (kp := (fun k => k==0||k==2||k==3||k==4||k==5||k==6||k==8||k==9||k==10||k==11||k==12||k==13||k==14||k==15||k==16||k==17||k==18||k==19||k==59||k==61||k==83||k==105)) ?_
 rw [Tryz.ntmps11]
 simp -dsimp [ints]
 refine ACall.of (new_c L) [] 3000 ?_
 simp -dsimp [ints]
 have kT : TapeOK (L.take 600, 0) := tape_new L hL
 generalize (L.take 600, 0) = T0 at kT ⊢
 refine ACall.of (mixed_c T0 kT 8 (by omega)) [.o 3010] 0 ?_
 have hTV := gMix_valid T0 (most := 8) (by omega)
 have kG : TapeOK (gMix T0 8).2 := by rw [gMix_tape]; exact kT
 generalize gMix T0 8 = G at hTV kG ⊢
 obtain ⟨g, T1⟩ := G
 simp only at hTV kG ⊢
 obtain ⟨hn1, hn2⟩ := topV_small hTV
 have hn0 := hTV.n.1
 have hn7 := hTV.n.2
 have hc := hTV.ok
 have hO := chkT_zero hc
 simp -dsimp [topT]
 refine ACall.of (plan_c T1 kG g.rs g.ls (by omega) 0 (by omega)) [.o 3010] 0 ?_
 have hPV := plan_valid hTV (by omega) T1
 obtain ⟨kP, lP⟩ := gPlan_zero T1 g.rs
 have kP : TapeOK (gPlan T1 g.rs 0).2 := kP.symm ▸ kG
 generalize gPlan T1 g.rs 0 = P at hPV kP lP ⊢
 obtain ⟨p, T2⟩ := P
 simp only at hPV kP lP ⊢
 have hp := planB_of hPV
 have hlen := hPV.len
 have hall := all11_c g hO.sm p (by omega)
 rw [all11_eq hc hp] at hall
 have hTab := tabs_v hc hp
 have hrs := tabs_rs hO p
 have hXD : ∃ X, X = tabs g p g.rs := ⟨_, rfl⟩
 obtain ⟨X, hX⟩ := hXD
 rw [← hX] at hall hTab hrs
 simp only [topT, planT, allT] at hall
 rw [show X.map Tb.cs = tbs X from rfl] at hall
 simp -dsimp [topT, planT]
 refine ACall.of hall [] 0 ?_
 simp -dsimp [topT, planT]
 refine ACall.of (router0_c T2 kP g.rs g.ls ⟨hn0, by omega⟩) [.o 3010] 0 ?_
 have m1 := gNext_nonneg T2 g.rs.length
 have m2 := gNext_lt T2 (n := g.rs.length) (by omega)
 have kA : TapeOK (gNext T2 g.rs.length).2 := by simpa using kP
 generalize gNext T2 g.rs.length = A at m1 m2 kA ⊢
 obtain ⟨a, T3⟩ := A
 simp only at m1 m2 kA ⊢
 obtain ⟨j, rfl⟩ : ∃ j : Nat, a = j := ⟨a.toNat, by omega⟩
 have hj : j < g.rs.length := by omega
 have hx : g.rs.getD ((j : Int)).toNat ⟨0, false⟩ = g.rs[j] := by rw [List.getD_eq_getElem?_getD, show ((j : Int)).toNat = j by omega, List.getElem?_eq_getElem hj]; rfl
 rw [hx]
 generalize g.rs[j] = x
 simp -dsimp [topT, planT]
 try refine ⟨?_, ⟨by kernel_rfl⟩⟩
 have hcho := choose_c T3 kA p (by omega) 0 (by omega)
 simp only [planT] at hcho
 refine ACall.of hcho [.o 3010] 0 ?_
 have kC : TapeOK (gCh T3 p 0).2 := by rw [gCh0_tape]; exact kA
 have hCl := gCh_len T3 p 0
 have hsub := gCh0_sub T3 p
 generalize gCh T3 p 0 = ids at kC hCl hsub ⊢
 obtain ⟨ids, T4⟩ := ids
 simp only at kC hCl hsub ⊢
 simp -dsimp [planT]
 try refine ⟨?_, ⟨by kernel_rfl⟩⟩
 refine ACall.of (template_c T4 kC) [.o 3010] 0 ?_
 have hTVq := gTempl_valid T4
 have hTm := gTempl_mode T4
 generalize gTempl T4 = q at hTVq hTm ⊢
 obtain ⟨q, T5⟩ := q
 simp only at hTVq hTm ⊢
 have hU := sets_of hp hlen hsub
 have hUl := hU.len
 generalize sbAll p.len ids [] = sb at hU hUl
 have hpk := packets_c p (by omega) ids (by omega) q
 rw [packR_ok hTVq hPV.subd hU] at hpk
 have hsnd := send_c X hTab.sm p (by omega) x.id ids (by omega) q
 have hall2 := sendR_all X p x.id ids q
 have hlen2 := sendR_len X p x.id ids q
 simp only [pkT, Pk.cs, List.map, planT, packT, sendT, bv] at hpk hsnd
 simp only [pkT, Pk.cs, List.map, bv]
 simp -dsimp [planT, topT, ints]
 try refine ⟨?_, ⟨by kernel_rfl⟩⟩
 refine ACall.of hpk [] 0 ?_
 simp -dsimp [ints]
 try refine ⟨?_, ⟨by kernel_rfl⟩⟩
 have hU' := hU
 have hlack : capR g.rs x.id = false → ∀ s ∈ sb, runR X (q.with p s) x.id = (tr0, 4) := fun hcf s hs => fit_lack hTab (with_fit hTab hTVq hTm hPV.subd hU hs) (fun h => by rw [hrs, hcf] at h; simp at h)
 have hcase : (∃ ts R, sendR X p x.id ids q = (ts, 0) ∧ reachV p (sb.map (q.with p)) ts = (R, 0) ∧ (sb = [] ∨ R = ids.filter (wantI g p x.id))) ∨ (capR g.rs x.id = false ∧ sendR X p x.id ids q = ([], 4)) := by
  have hpr := packR_ok hTVq hPV.subd hU
  rcases (Bool.eq_false_or_eq_true (capR g.rs x.id)).symm with hcap | hcap
  ·cases hsb : sb with
   | nil =>
     refine .inl ⟨[], [], ?_, reach_nil hp, .inl rfl⟩
     unfold sendR
     rw [hpr, if_pos rfl, hsb]; rfl
   | cons s sb' =>
     refine .inr ⟨hcap, ?_⟩
     unfold sendR
     rw [hpr, if_pos rfl, hsb, List.map_cons]
     exact sendL_lack (by rw [hlack hcap s (by rw [hsb]; simp)])
  ·refine .inl ⟨(sb.map (q.with p)).map fun y => (runR X y x.id).1, ids.filter (wantI g p x.id), ?_, ?_, .inr rfl⟩
   ·unfold sendR
    rw [hpr, if_pos rfl, sendL_ok _ [] fun y hy => ?_, List.nil_append]
    obtain ⟨s, h1, rfl⟩ := List.mem_map.1 hy
    rw [(fit_run hTab (with_fit hTab hTVq hTm hPV.subd hU h1) ((hrs x.id).2 hcap)).1]
   ·have := reach_ok hc hp hPV.subd hsub hU hTVq hTm (by omega) hcap
    rw [← hX] at this
    exact this
 rcases hcase with ⟨ts, R, hs1, hre, hRw⟩ | ⟨hcf, hs1⟩
 rotate_left
 ·rw [hs1] at hsnd
  have hca := capable05_c g hO.sm x.id
  rw [hcf] at hca
  simp only [topT] at hca
  refine ACall.of hsnd [] 0 ?_
  simp -dsimp [ints]
  try refine ⟨?_, ⟨by kernel_rfl⟩⟩
  refine ACall.of hca [] 0 ?_
  simp -dsimp
  try refine ⟨?_, ⟨by kernel_rfl⟩⟩
  refine ACall.of awake_c [] 0 ?_
  simp -dsimp
  try refine ⟨?_, ⟨by kernel_rfl⟩⟩
  refine Fin.of ?_
  simp
 rw [hs1] at hsnd hall2 hlen2
 simp only at hall2 hlen2
 have hWl : (sb.map (q.with p)).length ≤ 100000 := by rw [List.length_map]; omega
 have hrb := rpL_len p (sb.map (q.with p)) ts (fun t ht => (hall2 t ht).1)
 have hrc := reached_c p (by omega) (sb.map (q.with p)) hWl ts (by omega) (fun t ht => by have := (hall2 t ht).1; omega) (by omega)
 have hRl := reachV_len p (sb.map (q.with p)) ts
 rw [hre] at hrc hRl
 simp only [planT] at hrc
 have hnil : (sb = []) = (sb.map (q.with p) = []) := by simp
 rw [hnil] at hRw
 generalize sb.map (q.with p) = W at hrc hRw hWl hrb hRl
 refine ACall.of hsnd [] 0 ?_
 simp -dsimp [ints]
 try refine ⟨?_, ⟨by kernel_rfl⟩⟩
 refine ACall.of hrc [] 0 ?_
 simp -dsimp [ints]
 try refine ⟨?_, ⟨by kernel_rfl⟩⟩
 refine ALoop.of [] (fun k => k==0||k==2||k==3||k==4||k==5||k==6||k==8||k==9||k==10||k==11||k==12||k==13||k==14||k==15||k==16||k==17||k==18||k==19||k==59||k==61||k==83||k==105) (ι := { z : Nat × List Int // z.1 ≤ ids.length ∧ z.2 = (ids.take z.1).filter (wantI g p x.id) })
  (fun z => [(Pl.s 2, It.v (TV.d (D.bool false))), (Pl.o 4, It.box [TV.d (D.sl (rts g.rs)), TV.d (D.sl (lks g.ls))]), (Pl.s 4, It.v (TV.ptr (Pl.o 4) 0)),
   (Pl.o 5, It.box [TV.d (D.int IntKind.i64 p.subd), TV.d (D.int IntKind.i64 p.len), TV.d (D.sl (eds p.es))]), (Pl.s 5, It.v (TV.ptr (Pl.o 5) 0)),
   (Pl.s 8, It.v (TV.d (D.int IntKind.i64 x.id))), (Pl.s 9, It.v (TV.d (ints ids))), (Pl.s 11, It.v (TV.d (D.sl (pks W)))), (Pl.s 15, It.v (TV.d (ints R))), (Pl.s 16, It.v (TV.d (D.int IntKind.i64 0))),
   (Pl.s 18, It.v (TV.d (D.int IntKind.i64 z.1.1))), (Pl.s 17, It.v (TV.oref 17 z.1.2.length)), (Pl.o 17, .row 3 1 (dd (nrow .i64 z.1.2)) false)])
  (fun z => ids.length - z.1.1) ⟨(0, []), by dsimp only; omega, by simp⟩ ?_ ?_
 ·exact GS.own' (k := 17) 3 1 (by simp) (by simp) (by simp [nrow, ints])
 rintro ⟨⟨i, out⟩, q1, q2⟩
 simp only at q1 q2
 by_cases hi : i < ids.length
 ·have hiz : (i : Int) < ids.length := by omega
  have hid : ids[i]? = some ids[i] := List.getElem?_eq_getElem hi
  have htk : ids.take (i + 1) = ids.take i ++ [ids[i]] := by rw [List.take_add_one, hid]; rfl
  generalize ids[i] = id at hid htk
  have hed := edge10_c p (by omega) id
  rw [edgeT_eq] at hed
  have hw : wantI g p x.id id = (capR g.rs ((edOf p id).getD ⟨0, 0⟩).r && conn g x.id ((edOf p id).getD ⟨0, 0⟩).r) := rfl
  generalize (edOf p id).getD ⟨0, 0⟩ = e at hed hw
  generalize (edOf p id).isSome = o at hed
  have hca := capable05_c g hO.sm e.r
  rw [hc] at hca
  simp only [decide_true, Bool.true_and] at hca
  have hcn := connected05_c g hO.sm x.id e.r
  have hol : out.length ≤ ids.length := by rw [q2]; exact Nat.le_trans (List.length_filter_le _ _) (by simp; omega)
  simp only [topT, planT, Ed.cs, List.map] at hca hcn hed
  simp -dsimp [ints, hid, hiz]
  and_intros
  all_goals try first | rfl | omega | exact ⟨by kernel_rfl⟩
  refine ACall.of hed [] 0 ?_
  simp -dsimp [ints]
  try refine ⟨?_, ⟨by kernel_rfl⟩⟩
  refine ACall.of hca [] 0 ?_
  rcases (Bool.eq_false_or_eq_true (capR g.rs e.r)).symm with h1 | h1
  ·rw [h1, Bool.false_and] at hw
   rw [h1]
   simp -dsimp [ints, wrap_i64 (n := (i : Int) + 1) (by omega) (by omega)]
   try refine ⟨?_, ⟨by kernel_rfl⟩⟩
   exact ⟨⟨(i + 1, out), by dsimp only; omega, by dsimp only; rw [htk, List.filter_append, ← q2]; simp [hw]⟩, GS.to (by simp [ints]), by simp; omega⟩
  ·rw [h1, Bool.true_and] at hw
   rw [h1]
   simp -dsimp [ints]
   try refine ⟨?_, ⟨by kernel_rfl⟩⟩
   refine ACall.of hcn [] 0 ?_
   rcases (Bool.eq_false_or_eq_true (conn g x.id e.r)).symm with h2 | h2
   ·rw [h2] at hw
    rw [h2]
    simp -dsimp [ints, wrap_i64 (n := (i : Int) + 1) (by omega) (by omega)]
    try refine ⟨?_, ⟨by kernel_rfl⟩⟩
    exact ⟨⟨(i + 1, out), by dsimp only; omega, by dsimp only; rw [htk, List.filter_append, ← q2]; simp [hw]⟩, GS.to (by simp [ints]), by simp; omega⟩
   ·rw [h2] at hw
    rw [h2]
    simp -dsimp [ints, hid, hiz, wrap_i64 (n := (i : Int) + 1) (by omega) (by omega)]
    and_intros
    all_goals try first | rfl | omega | exact ⟨by kernel_rfl⟩
    exact ⟨⟨(i + 1, out ++ [id]), by dsimp only; omega, by dsimp only; rw [htk, List.filter_append, ← q2]; simp [hw]⟩, GS.to (by simp [ints, nrow]), by simp; omega⟩
 ·have hiz : ¬ (i : Int) < ids.length := by omega
  have e0 : out = ids.filter (wantI g p x.id) := by rw [q2, List.take_of_length_le (by omega)]
  by_cases hW : W = []
  ·simp -dsimp [ints, hiz, hW]
   try refine ⟨?_, ⟨by kernel_rfl⟩⟩
   refine ACall.of awake_c [] 0 ?_
   simp -dsimp
   try refine ⟨?_, ⟨by kernel_rfl⟩⟩
   refine Fin.of ?_
   simp
  ·have hR : R = out := by rw [e0]; exact hRw.resolve_left hW
   have hin := ints04_c R out (by have h9 : R.length ≤ (rpL p W ts).length := hRl; omega)
   simp -dsimp [ints, hiz, hW]
   try refine ⟨?_, ⟨by kernel_rfl⟩⟩
   refine ACall.of hin [] 0 ?_
   simp -dsimp [ints, nrow, hR]
   try refine ⟨?_, ⟨by kernel_rfl⟩⟩
   refine ACall.of awake_c [] 0 ?_
   simp -dsimp
   try refine ⟨?_, ⟨by kernel_rfl⟩⟩
   refine Fin.of ?_
   simp
end Go.Proofs
