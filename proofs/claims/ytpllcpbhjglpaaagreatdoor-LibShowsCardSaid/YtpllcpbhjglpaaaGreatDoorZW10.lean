/- lib.Parse, walked. The document's libraries: the small walks. The document's libraries: names. The document's libraries: import sets. The document's libraries: import sets, walked. The document's libraries: how a library that is made lies; bodies, requirements, walked. The document's libraries: requirements, walked. -/
import Derived.Test.YtpllcpbhjglpaaaGreatDoorZW9
namespace Go.Proofs.YtpllcpbhjglpaaaGreatDoor.Gx
open Go Go.Proofs.YtpllcpbhjglpaaaGreatDoor.Gw
open Nat renaming reduceEqDiff → qqE, reduceAdd → qqA, reduceLT → qqL, reduceLeDiff → qqD, reduceMul → qqM
set_option linter.unusedSimpArgs false
set_option linter.unusedVariables false
theorem d_libidle (st : St) (a c : Nat) : VDefers Tryz.prog TT 14 [.ptr a 0, .ptr c 0] none st st := by
 refine vdefers TT_ok (an := anL []) (L := [0, 1, 3, 4, 5, 10]) Tryz.func14 rfl (by kernel_rfl) rfl Tryz.ntmps14 rfl rfl (by decide) (Nat.le_refl _) fun hst ha hf => ?_
 simp only [gw2, qqE, ↓reduceIte, qqA, qqL, qqD, qqM, ite_self, Option.getD_none]
 exact ⟨[], st, by simp, wkSt_refl _, hst⟩
def zLib : List V := [.str [], .nils, .nils, .nils]
theorem d_libcaught (st : St) (a c : Nat) (e : Int) (x : Int) (hao : st[a]? = some (.box zLib)) (hc : st[c]? = some (.box [.int .i64 x])) (hne : a ≠ c) (hst2 : St.ok ((st.set a (.box zLib)).set c (.box [.int .i64 e]))) :
  VDefers Tryz.prog TT 14 [.ptr a 0, .ptr c 0] (some (oopsV e)) st ((st.set a (.box zLib)).set c (.box [.int .i64 e])) := by
 have hal := (List.getElem?_eq_some_iff.1 hao).1
 have hcl := (List.getElem?_eq_some_iff.1 hc).1
 refine vdefers TT_ok (an := anL []) (L := [0, 1, 3, 4, 5, 10]) Tryz.func14 rfl (by kernel_rfl) rfl Tryz.ntmps14 rfl rfl (by decide) (by simp) fun hst ha hf => ?_
 simp only [oopsV, zLib] at hao hst2 ⊢
 simp only [gw2, qqE, ↓reduceIte, qqA, qqL, qqD, qqM, ite_self, Option.getD_some]
 have hA : ∀ l : St, (st ++ l)[a]? = some (.box [.str [], .nils, .nils, .nils]) := fun l => by rw [List.getElem?_append_left hal]; exact hao
 have hA2 : ∀ (l : St) (x : Ent), (st ++ l).set a x = st.set a x ++ l := fun l x => set_app hal
 have hC : ∀ (l : St) (x2 : Ent), (st.set a x2 ++ l)[c]? = some (.box [.int .i64 x]) := fun l x2 => by rw [List.getElem?_append_left (by simpa using hcl), List.getElem?_set_ne hne]; exact hc
 have hC2 : ∀ (l : St) (x x2 : Ent), (st.set a x ++ l).set c x2 = (st.set a x).set c x2 ++ l := fun l x x2 => set_app (by simpa using hcl)
 refine vdraw2 TT_ok TT_mixed (σ := Unit) [0, 0, 1, 2, 2] [0, 1, 3, 2, 4] 2 3 [0] (fun _x => [(0, true, .ptr a 0)]) (fun _x => (st.set a (.box [.str [], .nils, .nils, .nils])).set c (.box [.int .i64 e]) ++ [.box [.int .i64 e]]) (fun _x => True) rfl (by kernel_rfl) ?_ ?_ ?_
 ·simp only [gw2, qqE, ↓reduceIte, qqA, qqL, qqD, qqM, ite_self, hA, hA2, hC, hC2, at_k, at_k0]
  exact ⟨rfl, rfl, (), rfl, rfl, trivial⟩
 ·simp only [gw2, qqE, ↓reduceIte, qqA, qqL, qqD, qqM, ite_self, hA, hA2, hC, hC2, at_k, at_k0]
  exact ⟨rfl, rfl, (), rfl, rfl, trivial⟩
 ·rintro - -
  simp only [gw2, qqE, ↓reduceIte, qqA, qqL, qqD, qqM, ite_self, hA]
  exact ⟨[.box [.int .i64 e]], _, rfl, wkSt_refl _, hst2⟩
theorem y_libcaught (st ex : St) (e x : Int) (hok : St.ok (st ++ (.box zLib :: .box [.int .i64 e] :: ex))) :
  VDefers Tryz.prog TT 14 [.ptr st.length 0, .ptr (st.length + 1) 0] (some (oopsV e)) (st ++ (.box zLib :: .box [.int .i64 x] :: ex)) (st ++ (.box zLib :: .box [.int .i64 e] :: ex)) := by
 have := d_libcaught (st ++ (.box zLib :: .box [.int .i64 x] :: ex)) st.length (st.length + 1) e x (by simp) (by simp) (by omega) (by rw [set_01]; exact hok)
 rw [set_01] at this
 exact this
theorem at_5 (st : St) (A B C D E F G : Ent) : (st ++ (A :: B :: C :: D :: E :: F :: [G]))[st.length + 5]? = some F := by simp
theorem listP_same {d : Datum} (h1 : (listP 1 d).2 = 0) (h2 : (listP 2 d).2 = 0) : (listP 2 d).1 = (listP 1 d).1 := by
 obtain ⟨k, n, nm, s, l, kids⟩ := d
 simp only [listP] at h1 h2 ⊢
 cases e1 : !decide (k = 4) || decide (kids.length < 1) with
 | true => rw [e1] at h1; simp at h1
 | false =>
  cases e2 : !decide (k = 4) || decide (kids.length < 2) with
  | true => rw [e2] at h2; simp at h2
  | false => rfl
def encLib (o : Lib') : List V := [.str o.name, .lst 2 none (rows2 o.exps), .lst 6 none (o.imps.map encSet), .lst 6 none (o.body.map encD)]
theorem encLib_lt (n : Nat) (o : Lib') : ltL n (encLib o) := by
 refine ⟨trivial, ?_, ?_, ?_, trivial⟩ <;> simp only [V.lt]
 ·exact ⟨fun e h => (by cases h), rows2_lt _ _⟩
 ·exact ⟨fun e h => (by cases h), ltRows_map fun s _ => encSet_lt _ _⟩
 ·exact ⟨fun e h => (by cases h), ltRows_map fun d _ => encD_lt _ _⟩
def libV (r : Lib' × Int) : V := .tup [.agg (encLib r.1), .int .i64 r.2]
theorem libV_lt (n : Nat) (r : Lib' × Int) : (libV r).lt n := by simp only [libV, V.lt, ltL, and_true]; exact encLib_lt _ _
set_option maxHeartbeats 4000000 in
theorem c_libParse (w : Wd) (dt : Datum) (st : St) : VCalls Tryz.prog TT 6 [.lst 2 none (rows2 w.files), encS w.feats, encS w.libs, .agg (encD dt)] st fun r st' => r = .ret (libV (parseP w dt)) ∧ st' = st := by
 refine VCalls.freeze (Q := fun r s' => ∃ v u ex, r = .ret v ∧ s' = st ++ ex ∧ Thaw s' st.length v u ∧ wk u (libV (parseP w dt)) ∧ (libV (parseP w dt)).lt st.length) ?_ (fun r s' h => h)
 have hz : ∀ e : Int, wk (.tup [.agg [.str [], .nils, .nils, .nils], .int .i64 e]) (libV (noLib, e)) := fun e =>
  wk_tup (wkL_cons (wk_agg (wkL_cons (wk_refl _) (wkL_cons (wk_nils _) (wkL_cons (wk_nils _) (wkL_cons (wk_nils _) wkL_nil))))) (wkL_cons (wk_refl _) wkL_nil))
 refine vfunD TT_ok (L := [0, 1, 2, 3, 7, 8, 9, 10, 11, 12, 37]) Tryz.func6 rfl (by kernel_rfl) Tryz.ntmps6 rfl rfl fun hst ha hf => ?_
 refine waSeq TT_ok (an := anL [(7, 1)]) (rs := [.cell 8 30, .cell 9 31]) rfl ?_
 simp only [gw2, qqE, ↓reduceIte, qqA, qqL, qqD, qqM, ite_self]
 refine waSeq TT_ok (an := anL [(7, 1)]) (rs := [.cell 8 30, .cell 9 31]) rfl ?_
 simp only [bz24, gw2, qqE, ↓reduceIte, qqA, qqL, qqD, qqM, ite_self]
 refine (c_text_Wrong _ [dt]).use (wkL_refl _) fun _ => ?_
 simp only [fltV]
 simp only [gw2, qqE, ↓reduceIte, qqA, qqL, qqD, qqM, ite_self]
 have hp0 : parseP w dt = bif !decide ((wrongL [dt] 0 0).1 = 0) then (noLib, (wrongL [dt] 0 0).1)
   else bif decide ((30 : Int) < w.files.length) then (noLib, 5)
   else bif decide ((topP w dt).2 = 0) then topP w dt else (noLib, (topP w dt).2) := rfl
 refine iK_split (fun h => ?_) (fun h => ?_)
 ·rw [h, cond_true] at hp0
  simp only [gw2, qqE, ↓reduceIte, qqA, qqL, qqD, qqM, ite_self]
  refine vmelt 10 (st.length + 2) _ rfl (by simp only [gwL]; rfl) ?_
  simp only [gw2, qqE, ↓reduceIte, qqA, qqL, qqD, qqM, ite_self, meltE]
  refine vdraw TT_ok TT_mixed [0, 0, 0, 2, 2] (by kernel_rfl) ?_
  simp only [gw2, qqE, ↓reduceIte, qqA, qqL, qqD, qqM, ite_self]
  rw [hp0]
  exact ⟨_, _, _, rfl, rfl, .same _, hz _, libV_lt _ _⟩
 rw [h, cond_false] at hp0
 have hok := wrongL_okM (of_decide_eq_true (by simpa using h))
 refine waSeq TT_ok (an := anL [(7, 1)]) (rs := [.cell 8 30, .cell 9 31]) rfl ?_
 simp only [gw2, qqE, ↓reduceIte, qqA, qqL, qqD, qqM, ite_self, rows2_len]
 refine iK_split (fun h2 => ?_) (fun h2 => ?_)
 ·rw [h2, cond_true] at hp0
  simp only [gw2, qqE, ↓reduceIte, qqA, qqL, qqD, qqM, ite_self]
  rw [hp0]
  exact ⟨_, _, _, rfl, rfl, .same _, hz _, libV_lt _ _⟩
 rw [h2, cond_false] at hp0
 simp only [gw2, qqE, ↓reduceIte, qqA, qqL, qqD, qqM, ite_self]
 refine waDefer TT_ok (an := anL [(7, 1)]) (rs := [.cell 8 30, .cell 9 31]) rfl [.ptr st.length 0, .ptr (st.length + 1) 0] ⟨_, Tryz.func14, by kernel_rfl, by kernel_rfl⟩ (by decide) rfl rfl fun d => ?_
 simp only [bz24, gw2, qqE, ↓reduceIte, qqA, qqL, qqD, qqM, ite_self, encS]
 have hWS : ∀ o : Lib', wS (st ++ [.box zLib, .box [.int .i64 0], .box [.int .i64 (wrongL [dt] 0 0).1, .int .i64 (wrongL [dt] 0 0).2], .gone, .gone, .gone, .gone]) w (st.length + 3) o = st ++ (.box zLib :: .box [.int .i64 0] :: [.box [.int .i64 (wrongL [dt] 0 0).1, .int .i64 (wrongL [dt] 0 0).2], .box (cellsW w (st.length + 3) o.name (rows2 o.exps) o.imps.length (o.body.map encD)), .tip 65 o.exps.length, .arr 69 6 (o.imps.map encSet), .tip 26 o.body.length]) := fun o => by
  unfold wS wR
  rw [List.set_append_right _ _ (by omega), List.set_append_right _ _ (by omega), List.set_append_right _ _ (by omega), List.set_append_right _ _ (by omega)]
  simp only [show st.length + 3 - st.length = 3 by omega, show st.length + 3 + 1 - st.length = 4 by omega, show st.length + 3 + 2 - st.length = 5 by omega, show st.length + 3 + 3 - st.length = 6 by omega, List.set_cons_succ, List.set_cons_zero]
 have hokE : ∀ (o : Lib') (e : Int), St.ok (st ++ (.box zLib :: .box [.int .i64 e] :: [.box [.int .i64 (wrongL [dt] 0 0).1, .int .i64 (wrongL [dt] 0 0).2], .box (cellsW w (st.length + 3) o.name (rows2 o.exps) o.imps.length (o.body.map encD)), .tip 65 o.exps.length, .arr 69 6 (o.imps.map encSet), .tip 26 o.body.length])) := fun o e => by
  refine ok_app hst ⟨by simp [zLib, Ent.lt, ltL, V.lt], by simp [Ent.lt, ltL, V.lt], by simp [Ent.lt, ltL, V.lt], ?_, trivial, ltRows_map fun s _ => encSet_lt _ _, trivial, trivial⟩
  simp only [List.length_cons, List.length_nil, Ent.lt, cellsW, ltL]
  refine ⟨?_, encS_lt _ _, encS_lt _ _, trivial, ?_, ?_, ?_, trivial, trivial⟩ <;> simp only [V.lt]
  ·exact ⟨fun e h => (by cases h), rows2_lt _ _⟩
  ·exact ⟨fun e h => (by cases h; omega), rows2_lt _ _⟩
  ·omega
  ·exact ⟨fun e h => (by cases h; omega), ltRows_map fun d _ => encD_lt _ _⟩
 have hb : st.length + 3 + 3 < (st ++ [Ent.box zLib, Ent.box [.int .i64 0], Ent.box [.int .i64 (wrongL [dt] 0 0).1, .int .i64 (wrongL [dt] 0 0).2], Ent.gone, Ent.gone, Ent.gone, Ent.gone]).length := by simp
 refine VCalls.more [65] (s0 := st ++ [.box [.str [], .nils, .nils, .nils], .box [.int .i64 0], .box [.int .i64 (wrongL [dt] 0 0).1, .int .i64 (wrongL [dt] 0 0).2], .box [.lst 2 none (rows2 w.files), .lst 1 none (w.feats.map fun s => [.str s]), .lst 1 none (w.libs.map fun s => [.str s]), .str [], .lst 2 (some (st.length + 4)) [], .nils, .nils, .int .i64 0]]) ?_ (wkL_refl _) ?_
 rotate_left
 ·refine (wkSt_refl _).append (wkSt_cons (Ent.wkp_refl _) (wkSt_cons (Ent.wkp_refl _) (wkSt_cons (Ent.wkp_refl _) (wkSt_cons (Ent.wk_box ?_) wkSt_nil))))
  exact wkL_cons (wk_refl _) (wkL_cons (wk_refl _) (wkL_cons (wk_refl _) (wkL_cons (wk_refl _) (wkL_cons (wk_tip _ (by simp [Tips])) (wkL_cons (wk_refl _) (wkL_cons (wk_refl _) (wkL_cons (wk_refl _) wkL_nil)))))))
 simp only [bz30, tips, List.map_cons, List.map_nil]
 refine VCalls.nilB (st.length + 3) 5 [.lst 2 none (rows2 w.files), .lst 1 none (w.feats.map fun s => [.str s]), .lst 1 none (w.libs.map fun s => [.str s]), .str [], .lst 2 (some (st.length + 4)) [], .nils, .nils, .int .i64 0] 69 (by simp) rfl ?_
 simp only [bz33, bz30, Nat.reduceAdd, List.set_cons_succ, List.set_cons_zero]
 rw [List.set_append_right _ _ (by omega)]
 simp only [show st.length + 3 - st.length = 3 by omega, List.set_cons_succ, List.set_cons_zero]
 have hT6 : (TT 69).size = 6 := rfl
 rw [hT6]
 refine VCalls.more [26] (s0 := st ++ [.box [.str [], .nils, .nils, .nils], .box [.int .i64 0], .box [.int .i64 (wrongL [dt] 0 0).1, .int .i64 (wrongL [dt] 0 0).2], .box [.lst 2 none (rows2 w.files), .lst 1 none (w.feats.map fun s => [.str s]), .lst 1 none (w.libs.map fun s => [.str s]), .str [], .lst 2 (some (st.length + 4)) [], .arr (st.length + 5) 0, .lst 6 (some (st.length + 6)) [], .int .i64 0], .tip 65 0, .arr 69 6 []]) ?_ (wkL_refl _) ?_
 rotate_left
 ·refine (wkSt_refl _).append (wkSt_cons (Ent.wkp_refl _) (wkSt_cons (Ent.wkp_refl _) (wkSt_cons (Ent.wkp_refl _) (wkSt_cons (Ent.wk_box ?_) (wkSt_cons (Ent.wkp_refl _) (wkSt_cons (Ent.wkp_refl _) wkSt_nil))))))
  exact wkL_cons (wk_refl _) (wkL_cons (wk_refl _) (wkL_cons (wk_refl _) (wkL_cons (wk_refl _) (wkL_cons (wk_refl _) (wkL_cons (wk_refl _) (wkL_cons (wk_tip _ (by simp [Tips])) (wkL_cons (wk_refl _) wkL_nil)))))))
 simp only [bz30, tips, List.map_cons, List.map_nil]
 have ht0 : topP w dt = thenE (listP 1 dt) noLib fun k => thenE (symP (k.getD 0 (.mk 0 0 [] 0 0 []))) noLib fun s =>
  bif decide (s = wLibrary) then thenE (listP 2 dt) noLib fun k2 => thenE (calledP (k2.getD 1 (.mk 0 0 [] 0 0 []))) noLib fun nm => declsL w (k.drop 2) { noLib with name := nm }
  else bif decide (s = wProgram) then declsL w (k.drop 1) noLib
  else (noLib, 2) := rfl
 have hpe : ∀ e : Int, (topP w dt).2 = e → e ≠ 0 → parseP w dt = (noLib, e) := fun e h1 h2 => by rw [hp0, h1, decide_eq_false h2]; rfl
 rcases (c_liblist dt 1 (wS (st ++ [.box zLib, .box [.int .i64 0], .box [.int .i64 (wrongL [dt] 0 0).1, .int .i64 (wrongL [dt] 0 0).2], .gone, .gone, .gone, .gone]) w (st.length + 3) noLib)).cases with ⟨he, hc⟩ | ⟨he, hc⟩
 ·rw [hWS] at hc
  refine hc.use (wkL_refl _) fun _ => ?_
  rw [thenE_ok he] at ht0
  have hm := listP_okM hok he
  obtain ⟨k, hk⟩ : ∃ k, (listP 1 dt).1 = k := ⟨_, rfl⟩
  rw [hk] at ht0 hm ⊢
  cases k with
  | nil => have := hm.2.2; simp at this
  | cons a r =>
   simp only [List.getD_cons_zero] at ht0
   simp only [bz25, bz29, gw2, qqE, ↓reduceIte, qqA, qqL, qqD, qqM, ite_self, lstD, show Int.toNat 0 = 0 from rfl, show Int.toNat 1 = 1 from rfl, show Int.toNat 2 = 2 from rfl, List.drop_succ_cons, List.drop_zero, List.length_cons, List.map_cons, Nat.le_add_left]
   refine ⟨⟨by omega, by omega⟩, ?_⟩
   rcases (c_libsym a (wS (st ++ [.box zLib, .box [.int .i64 0], .box [.int .i64 (wrongL [dt] 0 0).1, .int .i64 (wrongL [dt] 0 0).2], .gone, .gone, .gone, .gone]) w (st.length + 3) noLib)).cases with ⟨he2, hc2⟩ | ⟨he2, hc2⟩
   ·rw [hWS] at hc2
    refine hc2.use (wkL_refl _) fun _ => ?_
    rw [thenE_ok he2] at ht0
    generalize (symP a).1 = wd at ht0
    simp only [gw2, qqE, ↓reduceIte, qqA, qqL, qqD, qqM, ite_self]
    refine iK_split (fun h3 => ?_) (fun h3 => ?_)
    ·rw [show decide (wd = wLibrary) = true from h3, cond_true] at ht0
     simp only [bz24, gw2, qqE, ↓reduceIte, qqA, qqL, qqD, qqM, ite_self]
     rcases (c_liblist dt 2 (wS (st ++ [.box zLib, .box [.int .i64 0], .box [.int .i64 (wrongL [dt] 0 0).1, .int .i64 (wrongL [dt] 0 0).2], .gone, .gone, .gone, .gone]) w (st.length + 3) noLib)).cases with ⟨he4, hc4⟩ | ⟨he4, hc4⟩
     ·rw [hWS] at hc4
      refine hc4.use (wkL_refl _) fun _ => ?_
      rw [thenE_ok he4] at ht0
      have hm4 := listP_okM hok he4
      have hks : (listP 2 dt).1 = a :: r := by rw [← hk]; exact listP_same he he4
      rw [hks] at ht0 hm4 ⊢
      cases r with
      | nil => have := hm4.2.2; simp at this
      | cons y z =>
       simp only [bz29, List.drop_succ_cons, List.drop_zero] at ht0
       simp only [bz25, bz29, gw2, qqE, ↓reduceIte, qqA, qqL, qqD, qqM, ite_self, lstD, show Int.toNat 0 = 0 from rfl, show Int.toNat 1 = 1 from rfl, show Int.toNat 2 = 2 from rfl, List.drop_succ_cons, List.drop_zero, List.length_cons, List.map_cons, Nat.le_add_left]
       refine ⟨⟨by omega, by omega⟩, ?_⟩
       have hmy : okM y := okMs_mem hm4.1 (by simp)
       have hmz : okMs z := hm4.1.2.2
       have hzl : z.length + 2 ≤ 2000 := hm4.2.1
       rcases (c_libcalled y hmy (wS (st ++ [.box zLib, .box [.int .i64 0], .box [.int .i64 (wrongL [dt] 0 0).1, .int .i64 (wrongL [dt] 0 0).2], .gone, .gone, .gone, .gone]) w (st.length + 3) noLib)).cases with ⟨he5, hc5⟩ | ⟨he5, hc5⟩
       ·rw [hWS] at hc5
        refine hc5.use (wkL_refl _) fun _ => ?_
        rw [thenE_ok he5] at ht0
        generalize (calledP y).1 = nm at ht0
        simp only [bz29, gw2, qqE, ↓reduceIte, qqA, qqL, qqD, qqM, ite_self, cellsW, show Int.toNat 0 = 0 from rfl, show Int.toNat 1 = 1 from rfl, show Int.toNat 2 = 2 from rfl, List.drop_succ_cons, List.drop_zero, List.length_cons, List.length_map, List.map_cons, Nat.le_add_left]
        refine ⟨⟨by omega, by omega⟩, ?_⟩
        rcases (c_decls w z hmz (by omega) { noLib with name := nm } ⟨by simp [noLib], by simp [noLib], by simp [noLib]⟩ (st ++ [.box zLib, .box [.int .i64 0], .box [.int .i64 (wrongL [dt] 0 0).1, .int .i64 (wrongL [dt] 0 0).2], .gone, .gone, .gone, .gone]) (st.length + 3) hb).cases with ⟨he9, hc9⟩ | ⟨he9, hc9⟩
        ·rw [hWS, hWS] at hc9
         refine hc9.use (wkL_refl _) fun _ => ?_
         have hpok : parseP w dt = ((declsL w z { noLib with name := nm }).1, 0) := by rw [hp0, ht0, decide_eq_true he9, cond_true]; exact Prod.ext rfl he9
         generalize (declsL w z { noLib with name := nm }).1 = of at hpok ⊢
         simp only [gw2, qqE, ↓reduceIte, qqA, qqL, qqD, qqM, ite_self, cellsW, zLib]
         refine dQ_ret (d_libidle _ _ _) ?_
         simp only [gw2, qqE, ↓reduceIte, qqA, qqL, qqD, qqM, ite_self]
         rw [hpok]
         refine ⟨_, _, _, rfl, rfl, .tup (.cons (.agg (.cons (.same _) (.cons (.same _) (.cons (.arr (rows' := of.imps.map encSet) (e := 69) (by omega) (at_5 ..) (by simp) (ThawR.refl _)) (.cons (.same _) .nil))))) (.cons (.same _) .nil)), ?_, libV_lt _ _⟩
         exact wk_tup (wkL_cons (wk_agg (wkL_cons (wk_refl _) (wkL_cons (wk_tok _ _ _) (wkL_cons (wk_refl _) (wkL_cons (wk_tok _ _ _) wkL_nil))))) (wkL_cons (wk_refl _) wkL_nil))
        ·rw [hWS] at hc9
         rw [hWS] at hc9
         refine hc9.useP (wkL_refl _) ?_
         simp only [gw2, qqE, ↓reduceIte, qqA, qqL, qqD, qqM, ite_self]
         refine dQ_panic (y_libcaught st _ (declsL w z { noLib with name := nm }).2 0 (hokE (declsL w z { noLib with name := nm }).1 _)) ?_
         simp only [gw2, qqE, ↓reduceIte, qqA, qqL, qqD, qqM, ite_self, zLib]
         rw [hpe _ (by rw [ht0]) he9]
         exact ⟨_, _, _, rfl, rfl, .same _, hz _, libV_lt _ _⟩
       ·rw [thenE_bad he5] at ht0
        rw [hWS] at hc5
        refine hc5.useP (wkL_refl _) ?_
        simp only [gw2, qqE, ↓reduceIte, qqA, qqL, qqD, qqM, ite_self]
        refine dQ_panic (y_libcaught st _ (calledP y).2 0 (hokE noLib _)) ?_
        simp only [gw2, qqE, ↓reduceIte, qqA, qqL, qqD, qqM, ite_self, zLib]
        rw [hpe _ (by rw [ht0]) he5]
        exact ⟨_, _, _, rfl, rfl, .same _, hz _, libV_lt _ _⟩
     ·rw [thenE_bad he4] at ht0
      rw [hWS] at hc4
      refine hc4.useP (wkL_refl _) ?_
      simp only [gw2, qqE, ↓reduceIte, qqA, qqL, qqD, qqM, ite_self]
      refine dQ_panic (y_libcaught st _ (listP 2 dt).2 0 (hokE noLib _)) ?_
      simp only [gw2, qqE, ↓reduceIte, qqA, qqL, qqD, qqM, ite_self, zLib]
      rw [hpe _ (by rw [ht0]) he4]
      exact ⟨_, _, _, rfl, rfl, .same _, hz _, libV_lt _ _⟩
    ·rw [show decide (wd = wLibrary) = false from h3, cond_false] at ht0
     simp only [gw2, qqE, ↓reduceIte, qqA, qqL, qqD, qqM, ite_self]
     refine iK_split (fun h4 => ?_) (fun h4 => ?_)
     ·rw [show decide (wd = wProgram) = true from h4, cond_true] at ht0
      simp only [List.drop_succ_cons, List.drop_zero] at ht0
      have hmr : okMs r := hm.1.2
      have hrl : r.length + 1 ≤ 2000 := hm.2.1
      simp only [bz29, gw2, qqE, ↓reduceIte, qqA, qqL, qqD, qqM, ite_self, show Int.toNat 0 = 0 from rfl, show Int.toNat 1 = 1 from rfl, show Int.toNat 2 = 2 from rfl, List.drop_succ_cons, List.drop_zero, List.length_cons, List.length_map, List.map_cons, Nat.le_add_left]
      refine ⟨⟨by omega, by omega⟩, ?_⟩
      rcases (c_decls w r hmr (by omega) noLib ⟨by simp [noLib], by simp [noLib], by simp [noLib]⟩ (st ++ [.box zLib, .box [.int .i64 0], .box [.int .i64 (wrongL [dt] 0 0).1, .int .i64 (wrongL [dt] 0 0).2], .gone, .gone, .gone, .gone]) (st.length + 3) hb).cases with ⟨he9, hc9⟩ | ⟨he9, hc9⟩
      ·rw [hWS, hWS] at hc9
       refine hc9.use (wkL_refl _) fun _ => ?_
       have hpok : parseP w dt = ((declsL w r noLib).1, 0) := by rw [hp0, ht0, decide_eq_true he9, cond_true]; exact Prod.ext rfl he9
       generalize (declsL w r noLib).1 = of at hpok ⊢
       simp only [gw2, qqE, ↓reduceIte, qqA, qqL, qqD, qqM, ite_self, cellsW, zLib]
       refine dQ_ret (d_libidle _ _ _) ?_
       simp only [gw2, qqE, ↓reduceIte, qqA, qqL, qqD, qqM, ite_self]
       rw [hpok]
       refine ⟨_, _, _, rfl, rfl, .tup (.cons (.agg (.cons (.same _) (.cons (.same _) (.cons (.arr (rows' := of.imps.map encSet) (e := 69) (by omega) (at_5 ..) (by simp) (ThawR.refl _)) (.cons (.same _) .nil))))) (.cons (.same _) .nil)), ?_, libV_lt _ _⟩
       exact wk_tup (wkL_cons (wk_agg (wkL_cons (wk_refl _) (wkL_cons (wk_tok _ _ _) (wkL_cons (wk_refl _) (wkL_cons (wk_tok _ _ _) wkL_nil))))) (wkL_cons (wk_refl _) wkL_nil))
      ·rw [hWS] at hc9
       rw [hWS] at hc9
       refine hc9.useP (wkL_refl _) ?_
       simp only [gw2, qqE, ↓reduceIte, qqA, qqL, qqD, qqM, ite_self]
       refine dQ_panic (y_libcaught st _ (declsL w r noLib).2 0 (hokE (declsL w r noLib).1 _)) ?_
       simp only [gw2, qqE, ↓reduceIte, qqA, qqL, qqD, qqM, ite_self, zLib]
       rw [hpe _ (by rw [ht0]) he9]
       exact ⟨_, _, _, rfl, rfl, .same _, hz _, libV_lt _ _⟩
     ·rw [show decide (wd = wProgram) = false from h4, cond_false] at ht0
      simp only [gw2, qqE, ↓reduceIte, qqA, qqL, qqD, qqM, ite_self]
      refine (c_libfail _ 2).useP (wkL_refl _) ?_
      simp only [gw2, qqE, ↓reduceIte, qqA, qqL, qqD, qqM, ite_self]
      refine dQ_panic (y_libcaught st _ 2 0 (hokE noLib _)) ?_
      simp only [gw2, qqE, ↓reduceIte, qqA, qqL, qqD, qqM, ite_self, zLib]
      rw [hpe _ (by rw [ht0]) (show (2 : Int) ≠ 0 by decide)]
      exact ⟨_, _, _, rfl, rfl, .same _, hz _, libV_lt _ _⟩
   ·rw [thenE_bad he2] at ht0
    rw [hWS] at hc2
    refine hc2.useP (wkL_refl _) ?_
    simp only [gw2, qqE, ↓reduceIte, qqA, qqL, qqD, qqM, ite_self]
    refine dQ_panic (y_libcaught st _ (symP a).2 0 (hokE noLib _)) ?_
    simp only [gw2, qqE, ↓reduceIte, qqA, qqL, qqD, qqM, ite_self, zLib]
    rw [hpe _ (by rw [ht0]) he2]
    exact ⟨_, _, _, rfl, rfl, .same _, hz _, libV_lt _ _⟩
 ·rw [thenE_bad he] at ht0
  rw [hWS] at hc
  refine hc.useP (wkL_refl _) ?_
  simp only [gw2, qqE, ↓reduceIte, qqA, qqL, qqD, qqM, ite_self]
  refine dQ_panic (y_libcaught st _ (listP 1 dt).2 0 (hokE noLib _)) ?_
  simp only [gw2, qqE, ↓reduceIte, qqA, qqL, qqD, qqM, ite_self, zLib]
  rw [hpe _ (by rw [ht0]) he]
  exact ⟨_, _, _, rfl, rfl, .same _, hz _, libV_lt _ _⟩
end Go.Proofs.YtpllcpbhjglpaaaGreatDoor.Gx
open Nat renaming reduceEqDiff → qqE, reduceAdd → qqA, reduceLT → qqL, reduceLeDiff → qqD, reduceMul → qqM
namespace Go.Proofs.YtpllcpbhjglpaaaGreatDoor.Gx
open Go Go.Proofs.YtpllcpbhjglpaaaGreatDoor.Gw
set_option linter.unusedSimpArgs false
set_option linter.unusedVariables false
/-- What is wrong first is kept. -/
def stp (e x : Int) : Int := bif decide (e = 0) then x else e
theorem stp_0 (x : Int) : stp 0 x = x := rfl
theorem stp_no {e : Int} (h : e ≠ 0) (x : Int) : stp e x = e := by unfold stp; rw [decide_eq_false h]; rfl
/-- The walk: seven cells, and what is wrong. -/
def wE (c : List V) (e : Int) : Ent := .box [c.getD 0 .junk, c.getD 1 .junk, c.getD 2 .junk, c.getD 3 .junk, c.getD 4 .junk, c.getD 5 .junk, c.getD 6 .junk, .int .i64 e]
theorem wE_b0 {st : St} {b : Nat} (h : b < st.length) (c : List V) (e : Int) : (st.set b (wE c e))[b]? = some (.box [c.getD 0 .junk, c.getD 1 .junk, c.getD 2 .junk, c.getD 3 .junk, c.getD 4 .junk, c.getD 5 .junk, c.getD 6 .junk, .int .i64 e]) := by
 rw [List.getElem?_set_self h]; rfl
theorem wE_s0 (st : St) (b : Nat) (c : List V) (e e' : Int) : (st.set b (wE c e)).set b (.box [c.getD 0 .junk, c.getD 1 .junk, c.getD 2 .junk, c.getD 3 .junk, c.getD 4 .junk, c.getD 5 .junk, c.getD 6 .junk, .int .i64 e']) = st.set b (wE c e') := by
 rw [List.set_set]; rfl
theorem wE_k (st : St) (b : Nat) (c : List V) (e : Int) (ex : St) (k : Nat) : (st.set b (wE c e) ++ ex)[st.length + k]? = ex[k]? := by
 rw [List.getElem?_append_right (by simp), List.length_set]; simp
theorem wE_k0 (st : St) (b : Nat) (c : List V) (e : Int) (ex : St) : (st.set b (wE c e) ++ ex)[st.length]? = ex[0]? := wE_k st b c e ex 0
theorem wE_sk (st : St) (b : Nat) (c : List V) (e : Int) (ex : St) (k : Nat) (x : Ent) : (st.set b (wE c e) ++ ex).set (st.length + k) x = st.set b (wE c e) ++ ex.set k x := by
 rw [List.set_append_right _ _ (by simp), List.length_set]; simp
theorem wE_sk0 (st : St) (b : Nat) (c : List V) (e : Int) (ex : St) (x : Ent) : (st.set b (wE c e) ++ ex).set st.length x = st.set b (wE c e) ++ ex.set 0 x := wE_sk st b c e ex 0 x
theorem wE_len (st : St) (b : Nat) (c : List V) (e : Int) : (st.set b (wE c e)).length = st.length := List.length_set ..
theorem wE_ok {st : St} {b : Nat} {c : List V} {e : Int} (e' : Int) (hb : b < st.length) (h : St.ok (st.set b (wE c e))) : St.ok (st.set b (wE c e')) := by
 have hE : (wE c e).lt st.length := by
  have := h (wE c e) (List.mem_of_getElem? (List.getElem?_set_self hb))
  rwa [List.length_set] at this
 intro x hx
 rw [List.length_set]
 obtain ⟨i, hi⟩ := List.mem_iff_getElem?.1 hx
 by_cases hib : i = b
 ·subst hib
  rw [List.getElem?_set_self hb] at hi
  cases hi
  simp only [wE, Ent.lt, ltL, V.lt] at hE ⊢
  exact hE
 ·rw [List.getElem?_set_ne (Ne.symm hib)] at hi
  have := h x (List.mem_of_getElem? (i := i) (by rw [List.getElem?_set_ne (Ne.symm hib)]; exact hi))
  rwa [List.length_set] at this
/-- What a call comes to, frozen, where the state was turned. -/
theorem VCalls.freezeS {P : Program} {T : Nat → TI} {f : FuncId} {args : List V} {st0 st1 : St} {Q : VEnd → St → Prop} {X : V} (h : VCalls P T f args st0 Q) (hl : st0.length ≤ st1.length) (hok : St.ok st0 → St.ok st1)
  (hq : ∀ r st', Q r st' → ∃ v u ex, r = .ret v ∧ st' = st1 ++ ex ∧ Thaw st' st1.length v u ∧ wk u X ∧ X.lt st1.length) : VCalls P T f args st0 fun r s => r = .ret X ∧ s = st1 :=
 ⟨h.1, fun g w vals h1 h2 => (h.2 g w vals h1 h2).mono fun e w' ⟨r, s, g', k1, k2, k3, k4⟩ => by
  obtain ⟨v, u, ex, rfl, rfl, ht, hw, hlt⟩ := hq r s k1
  obtain ⟨val, rfl, hv⟩ := k2
  have hm := ht.simAll k3 val hv
  have hx := k4.trans (Ext.melt g' w' (Behind g' (st1 ++ ex) st1.length))
  exact ⟨.ret X, st1, (g'.melt (Behind g' (st1 ++ ex) st1.length)).cut st1.length, ⟨rfl, rfl⟩, ⟨val, rfl, (hw.sim (nil0_no _) hm).cut hlt⟩, k3.melt (k3.drop (hok h1.okSt)), hx.cut (by rw [h1.n]; exact hl)⟩⟩
def zD : Datum := .mk 0 0 [] 0 0 []
def zR : List V := [.int .i64 0, .int .i64 0, .str [], .int .i64 0, .int .i64 0, .nils]
theorem wk_zrow : wkL zR (encD zD) := by
 rw [zD, encD_mk]
 exact wkL_cons (wk_refl _) (wkL_cons (wk_refl _) (wkL_cons (wk_refl _) (wkL_cons (wk_refl _) (wkL_cons (wk_refl _) (wkL_cons (wk_nils _) wkL_nil)))))
theorem wk_zeros (n : Nat) : wk (.lst 6 none (List.replicate n [.int .i64 0, .int .i64 0, .str [], .int .i64 0, .int .i64 0, .nils])) (lstD (List.replicate n zD)) := by
 refine ⟨none, _, rfl, .inl rfl, ?_⟩
 rw [List.map_replicate]
 induction n with
 | zero => simp only [List.replicate_zero, wkRp]
 | succ n ih => exact ⟨_, _, rfl, wk_zrow, ih⟩
def needW (least : Nat) : Datum → Int → List Datum × Int
 | .mk k _ _ _ _ kids, e => bif !decide (k = 4) || decide (kids.length < least) then (List.replicate least zD, stp e 2) else (kids, e)
def wordW : Datum → Int → Str × Int
 | .mk k _ nm _ _ _, e => bif !decide (k = 3) then ([], stp e 2) else (nm, e)
def wordsW : List Datum → Int → List Str → List Str × Int
 | [], e, acc => (acc, e)
 | d :: r, e, acc => wordsW r (wordW d e).2 (acc ++ [(wordW d e).1])
def catW : List Datum → Int → Str → Str × Int
 | [], e, s => (s, e)
 | d :: r, e, s => catW r (wordW d e).2 ((s ++ [32]) ++ (wordW d e).1)
def nameW (d : Datum) (e : Int) : Str × Int :=
 ((catW (needW 1 d e).1 (needW 1 d e).2 []).1.drop 1, bif decide (61 < (catW (needW 1 d e).1 (needW 1 d e).2 []).1.length) then stp (catW (needW 1 d e).1 (needW 1 d e).2 []).2 4 else (catW (needW 1 d e).1 (needW 1 d e).2 []).2)
section
variable (c : List V) (st : St) (b : Nat) (hb : b < st.length)
include hb
theorem c_wstop (e x : Int) : VCalls Tryz.prog TT 25 [.ptr b 0, .int .i64 x] (st.set b (wE c e)) fun r st' => r = .ret (.tup []) ∧ st' = st.set b (wE c (stp e x)) := by
 refine vfun TT_ok (an := anL []) (L := [0, 1]) (rs := []) Tryz.func25 rfl (by kernel_rfl) rfl Tryz.ntmps25 rfl rfl (by simp) fun hst ha hf => ?_
 simp only [gw0, qqE, ↓reduceIte, qqA, qqL, qqD, qqM, wE_b0 hb]
 refine iK_split (fun h => ?_) (fun h => ?_)
 ·have he : e = 0 := by simpa using h
  subst he
  simp only [gw0, qqE, ↓reduceIte, qqA, qqL, qqD, qqM, wE_b0 hb, wE_s0]
  exact gives_self (by simp [V.lt, ltL]) (wE_ok _ hb hst)
 ·have he : e ≠ 0 := by simpa using h
  rw [stp_no he]
  simp only [gw0, qqE, ↓reduceIte, qqA, qqL, qqD, qqM]
  exact gives_self (by simp [V.lt, ltL]) hst
theorem c_wgood (e : Int) : VCalls Tryz.prog TT 23 [.ptr b 0] (st.set b (wE c e)) fun r st' => r = .ret (.bool (decide (e = 0))) ∧ st' = st.set b (wE c e) := by
 refine vfun TT_ok (an := anL []) (L := [0, 2]) (rs := [.tmp 2]) Tryz.func23 rfl (by kernel_rfl) rfl Tryz.ntmps23 rfl rfl (by simp) fun hst ha hf => ?_
 simp only [gw0, qqE, ↓reduceIte, qqA, qqL, qqD, qqM, wE_b0 hb]
 exact gives_self trivial hst
theorem c_wword (d : Datum) (e : Int) : VCalls Tryz.prog TT 22 [.ptr b 0, .agg (encD d)] (st.set b (wE c e)) fun r st' => r = .ret (.str (wordW d e).1) ∧ st' = st.set b (wE c (wordW d e).2) := by
 obtain ⟨k, n, nm, s, l, kids⟩ := d
 refine vfun TT_ok (an := anL [(3, 1)]) (L := [0, 1, 3, 4]) (rs := [.tmp 4]) Tryz.func22 rfl (by kernel_rfl) rfl Tryz.ntmps22 rfl rfl (by simp) fun hst ha hf => ?_
 simp only [encD_mk]
 simp only [gw0, qqE, ↓reduceIte, qqA, qqL, qqD, qqM]
 refine iK_split (fun h => ?_) (fun h => ?_)
 ·simp only [gw0, qqE, ↓reduceIte, qqA, qqL, qqD, qqM]
  refine (c_wstop c st b hb e 2).use (wkL_refl _) fun _ => ?_
  simp only [gw0, qqE, ↓reduceIte, qqA, qqL, qqD, qqM, wordW, h, cond_true]
  exact gives_self trivial (wE_ok _ hb hst)
 ·simp only [gw0, qqE, ↓reduceIte, qqA, qqL, qqD, qqM, wordW, h, cond_false]
  exact gives_self trivial hst
theorem c_wneed (d : Datum) (least : Nat) (hl : least ≤ 3) (e : Int) : VCalls Tryz.prog TT 21 [.ptr b 0, .agg (encD d), .int .i64 least] (st.set b (wE c e)) fun r st' => r = .ret (lstD (needW least d e).1) ∧ st' = st.set b (wE c (needW least d e).2) := by
 refine VCalls.freezeS (Q := fun r s' => ∃ v u ex, r = .ret v ∧ s' = st.set b (wE c (needW least d e).2) ++ ex ∧ Thaw s' (st.set b (wE c (needW least d e).2)).length v u ∧ wk u (lstD (needW least d e).1) ∧ (lstD (needW least d e).1).lt (st.set b (wE c (needW least d e).2)).length) ?_ (by simp) (wE_ok _ hb) (fun r s' h => h)
 obtain ⟨k, n, nm, s, l, kids⟩ := d
 refine vfunQ TT_ok (an := anL [(4, 1)]) (L := [0, 1, 2, 4, 6]) (rs := [.tmp 6]) Tryz.func21 rfl (by kernel_rfl) rfl Tryz.ntmps21 rfl rfl fun hst ha hf => ?_
 simp only [encD_mk]
 have e1 : decide ((kids.length : Int) < (least : Int)) = decide (kids.length < least) := by by_cases h : kids.length < least <;> simp [h] <;> omega
 simp only [gw0, qqE, ↓reduceIte, qqA, qqL, qqD, qqM, List.length_map, e1]
 refine iK_split (fun h => ?_) (fun h => ?_)
 ·simp only [gw0, qqE, ↓reduceIte, qqA, qqL, qqD, qqM]
  refine (c_wstop c st b hb e 2).use (wkL_refl _) fun _ => ?_
  simp only [gw0, qqE, ↓reduceIte, qqA, qqL, qqD, qqM, needW, h, cond_true]
  refine ⟨⟨by omega, by omega⟩, _, .lst 6 none (List.replicate least [.int .i64 0, .int .i64 0, .str [], .int .i64 0, .int .i64 0, .nils]), _, rfl, rfl, .arr (rows' := List.replicate least [.int .i64 0, .int .i64 0, .str [], .int .i64 0, .int .i64 0, .nils]) (e := 26) (Nat.le_refl _) (by simp) (by simp) (ThawR.refl _), ?_, lstD_lt _ _⟩
  exact wk_zeros least
 ·simp only [gw0, qqE, ↓reduceIte, qqA, qqL, qqD, qqM, needW, h, cond_false]
  exact ⟨_, _, [], rfl, (List.append_nil _).symm, .same _, wk_refl _, lstD_lt _ _⟩
theorem c_wwords (l : List Datum) (hl : l.length ≤ 1000000) (e : Int) : VCalls Tryz.prog TT 49 [.ptr b 0, lstD l] (st.set b (wE c e)) fun r st' => r = .ret (encS (wordsW l e []).1) ∧ st' = st.set b (wE c (wordsW l e []).2) := by
 refine vfun TT_ok (an := anL []) (L := [0, 1, 4, 5, 7, 8, 9, 10]) (rs := [.tmp 4]) Tryz.func49 rfl (by kernel_rfl) rfl Tryz.ntmps49 rfl rfl (by simp) fun hst ha hf => ?_
 have hll : l.length ≤ 9223372036854775807 := by omega
 have hc0 : ∀ e', St.ok (st.set b (wE c e')) := fun e' => wE_ok e' hb hst
 simp only [gw0, qqE, ↓reduceIte, qqA, qqL, qqD, qqM, lstD, List.length_map]
 refine vforT (σ := Nat × List Str × Int) [9] [0, 1, 4, 5, 8, 9, 10] (fun x => [(0, true, .ptr b 0), (1, true, lstD l), (4, true, .nils), (5, true, .lst 1 (some st.length) (x.2.1.map fun s => [V.str s])), (8, true, lstD l), (9, true, .int .i64 l.length), (10, true, .int .i64 x.1)]) (fun x => st.set b (wE c x.2.2) ++ [.tip 9 x.2.1.length]) (fun x => l.length - x.1) (fun x => x.1 ≤ l.length ∧ x.2.1.length = x.1 ∧ wordsW l e [] = wordsW (l.drop x.1) x.2.2 x.2.1) (0, [], e) rfl TT_ok ⟨Nat.zero_le _, rfl, rfl⟩ ?_ ?_ ?_
 ·simp only [gw0, qqE, ↓reduceIte, qqA, qqL, qqD, qqM, Env.keep]
  exact ⟨_, _, rfl, wk_refl _, _, _, rfl, wk_refl _, _, _, rfl, wk_refl _, _, _, rfl, wk_tip _ (by simp [Tips]), _, _, rfl, wk_refl _, _, _, rfl, wk_refl _, _, _, rfl, wk_refl _, rfl⟩
 ·exact ⟨_, wkSt_refl _, by simp only [bz35, gwL, tips]⟩
 rintro ⟨i, acc, e2⟩ ⟨hi, hacc, hI⟩
 simp only at hi hacc hI ⊢
 rw [hI]
 rcases at_or_end l i hi with ⟨rfl, hd⟩ | ⟨a, hlt, hget, hdr⟩
 ·rw [hd]
  simp only [gw0, qqE, ↓reduceIte, qqA, qqL, qqD, qqM, lt_no, lstD, wordsW]
  exact gives_of (wk_tok _ _ _) (wkSt_refl _) (encS_lt _ _) (hc0 _)
 ·rw [hdr]
  have hx := c_wword c (st ++ [.tip 9 acc.length, .box (encD a)]) b (by simp; omega) a e2
  rw [List.set_append_left _ _ hb, List.set_append_left _ _ hb] at hx
  simp only [bz25, gw0, qqE, ↓reduceIte, qqA, qqL, qqD, qqM, lt_yes hlt, lstD, getD_map hget, Int.ofNat_lt.mpr hlt, wordsW, wE_len, wE_k, wE_k0, wE_sk, wE_sk0]
  refine hx.use (wkL_refl _) fun _ => ?_
  simp only [gw0, qqE, ↓reduceIte, qqA, qqL, qqD, qqM, List.length_map, Env.keep, next_i64 hlt hll, Nat.le_refl, wE_len, wE_k, wE_k0, wE_sk, wE_sk0]
  refine ⟨by omega, (i + 1, acc ++ [(wordW a e2).1], (wordW a e2).2), ⟨?_, st.set b (wE c (wordW a e2).2) ++ [.tip 9 (acc.length + 1)], [.box (encD a)], by simp, by simp only [bz33]; exact wkSt_refl _, ?_, ok_app (hc0 _) ⟨trivial, trivial⟩, by simp⟩, by dsimp only; omega, hlt, by simp; omega, rfl⟩
  ·rw [encS_snoc]
   simp only [gw0, qqE, ↓reduceIte, qqA, qqL, qqD, qqM, Env.keep]
   exact wkE_refl _
  simp only [ltE, V.lt, gwL, wE_len]
  have hl2 := lstD_lt (st.length + 1) l
  simp only [lstD, V.lt] at hl2
  exact ⟨by omega, hl2, trivial, ⟨fun e h => by cases h; omega, ltRows_map fun x _ => ⟨trivial, trivial⟩⟩, hl2, trivial, trivial, trivial⟩
end
section
variable {st : St} {b : Nat} (hb : b < st.length) (c : List V) (ex : St) (e : Int)
include hb
theorem x_wstop (x : Int) : VCalls Tryz.prog TT 25 [.ptr b 0, .int .i64 x] (st.set b (wE c e) ++ ex) fun r st' => r = .ret (.tup []) ∧ st' = st.set b (wE c (stp e x)) ++ ex := by
 have h := c_wstop c (st ++ ex) b (by simp; omega) e x
 rwa [List.set_append_left _ _ hb, List.set_append_left _ _ hb] at h
theorem x_wgood : VCalls Tryz.prog TT 23 [.ptr b 0] (st.set b (wE c e) ++ ex) fun r st' => r = .ret (.bool (decide (e = 0))) ∧ st' = st.set b (wE c e) ++ ex := by
 have h := c_wgood c (st ++ ex) b (by simp; omega) e
 rwa [List.set_append_left _ _ hb] at h
theorem x_wword (d : Datum) : VCalls Tryz.prog TT 22 [.ptr b 0, .agg (encD d)] (st.set b (wE c e) ++ ex) fun r st' => r = .ret (.str (wordW d e).1) ∧ st' = st.set b (wE c (wordW d e).2) ++ ex := by
 have h := c_wword c (st ++ ex) b (by simp; omega) d e
 rwa [List.set_append_left _ _ hb, List.set_append_left _ _ hb] at h
theorem x_wneed (d : Datum) (least : Nat) (hl : least ≤ 3) : VCalls Tryz.prog TT 21 [.ptr b 0, .agg (encD d), .int .i64 least] (st.set b (wE c e) ++ ex) fun r st' => r = .ret (lstD (needW least d e).1) ∧ st' = st.set b (wE c (needW least d e).2) ++ ex := by
 have h := c_wneed c (st ++ ex) b (by simp; omega) d least hl e
 rwa [List.set_append_left _ _ hb, List.set_append_left _ _ hb] at h
theorem x_wwords (l : List Datum) (hl : l.length ≤ 1000000) : VCalls Tryz.prog TT 49 [.ptr b 0, lstD l] (st.set b (wE c e) ++ ex) fun r st' => r = .ret (encS (wordsW l e []).1) ∧ st' = st.set b (wE c (wordsW l e []).2) ++ ex := by
 have h := c_wwords c (st ++ ex) b (by simp; omega) l hl e
 rwa [List.set_append_left _ _ hb, List.set_append_left _ _ hb] at h
end
end Go.Proofs.YtpllcpbhjglpaaaGreatDoor.Gx
open Nat renaming reduceEqDiff → qqE, reduceAdd → qqA, reduceLT → qqL, reduceLeDiff → qqD, reduceMul → qqM
namespace Go.Proofs.YtpllcpbhjglpaaaGreatDoor.Gx
open Go Go.Proofs.YtpllcpbhjglpaaaGreatDoor.Gw
set_option linter.unusedSimpArgs false
set_option linter.unusedVariables false
theorem wordW_0 (d : Datum) : wordW d 0 = symP d := by
 obtain ⟨k, n, nm, s, l, kids⟩ := d
 simp only [wordW, symP, stp_0]
 cases decide (k = 3) <;> rfl
theorem wordW_no {e : Int} (h : e ≠ 0) (d : Datum) : (wordW d e).2 = e := by
 obtain ⟨k, n, nm, s, l, kids⟩ := d
 simp only [wordW, stp_no h]
 cases decide (k = 3) <;> rfl
theorem needW_0 (n : Nat) (d : Datum) : (needW n d 0).2 = (listP n d).2 ∧ ((listP n d).2 = 0 → (needW n d 0).1 = (listP n d).1) := by
 obtain ⟨k, m, nm, s, l, kids⟩ := d
 simp only [needW, listP, stp_0]
 cases !decide (k = 4) || decide (kids.length < n) <;> simp
theorem needW_no {e : Int} (h : e ≠ 0) (n : Nat) (d : Datum) : (needW n d e).2 = e := by
 obtain ⟨k, m, nm, s, l, kids⟩ := d
 simp only [needW, stp_no h]
 cases !decide (k = 4) || decide (kids.length < n) <;> rfl
theorem needW_len (n : Nat) (d : Datum) (e : Int) : n ≤ (needW n d e).1.length := by
 obtain ⟨k, m, nm, s, l, kids⟩ := d
 simp only [needW]
 cases h : !decide (k = 4) || decide (kids.length < n) with
 | true => simp
 | false => simp only [Bool.or_eq_false_iff, decide_eq_false_iff_not] at h; simp only [cond_false]; omega
theorem okM_zD : okM zD := by rw [zD, okM]; exact ⟨fun h => by omega, fun h => by omega⟩
theorem okMs_zeros : ∀ n : Nat, okMs (List.replicate n zD)
 | 0 => trivial
 | n + 1 => by rw [List.replicate_succ, okMs]; exact ⟨okM_zD, okMs_zeros n⟩
theorem needW_okM {n : Nat} {d : Datum} (e : Int) (hn : n ≤ 2000) (h : okM d) : okMs (needW n d e).1 ∧ (needW n d e).1.length ≤ 2000 := by
 obtain ⟨k, m, nm, s, l, kids⟩ := d
 rw [okM] at h
 simp only [needW]
 cases h2 : !decide (k = 4) || decide (kids.length < n) with
 | true => exact ⟨okMs_zeros n, by simpa using hn⟩
 | false =>
  simp only [Bool.or_eq_false_iff, Bool.not_eq_false', decide_eq_true_eq, decide_eq_false_iff_not] at h2
  exact ⟨(h.2 h2.1).2, (h.2 h2.1).1⟩
theorem wordW_short {d : Datum} (e : Int) (h : okM d) : (wordW d e).1.length ≤ 20 := by
 obtain ⟨k, n, nm, s, l, kids⟩ := d
 rw [okM] at h
 simp only [wordW]
 cases h2 : decide (k = 3) with
 | true => exact h.1 (of_decide_eq_true h2)
 | false => simp
theorem wordsW_no {e : Int} (h : e ≠ 0) : ∀ (l : List Datum) (acc : List Str), (wordsW l e acc).2 = e
 | [], acc => rfl
 | d :: r, acc => by rw [wordsW, wordW_no h]; exact wordsW_no h r _
theorem wordsW_0 : ∀ (l : List Datum) (acc : List Str), (wordsW l 0 acc).2 = (symsP l acc).2 ∧ ((symsP l acc).2 = 0 → (wordsW l 0 acc).1 = (symsP l acc).1)
 | [], acc => ⟨rfl, fun _ => rfl⟩
 | d :: r, acc => by
  rw [wordsW, symsP, wordW_0]
  cases h : decide ((symP d).2 = 0) with
  | true =>
   have h0 := of_decide_eq_true h
   rw [h0]
   exact wordsW_0 r _
  | false =>
   have h0 := of_decide_eq_false h
   rw [wordsW_no h0]
   exact ⟨rfl, fun h2 => absurd h2 h0⟩
theorem catW_no {e : Int} (h : e ≠ 0) : ∀ (l : List Datum) (s : Str), (catW l e s).2 = e
 | [], s => rfl
 | d :: r, s => by rw [catW, wordW_no h]; exact catW_no h r _
theorem catW_len : ∀ (l : List Datum) (e : Int) (s : Str), s.length + l.length ≤ (catW l e s).1.length
 | [], e, s => by simp [catW]
 | d :: r, e, s => by
  rw [catW]
  have := catW_len r (wordW d e).2 ((s ++ [32]) ++ (wordW d e).1)
  simp only [bz33] at this ⊢
  omega
def catS (l : List Str) : Str := l.flatMap fun s => 32 :: s
theorem catW_0 : ∀ (l : List Datum) (acc : List Str) (s : Str), ((symsP l acc).2 ≠ 0 → (catW l 0 s).2 = (symsP l acc).2) ∧ ((symsP l acc).2 = 0 → ∃ w, (symsP l acc).1 = acc ++ w ∧ w.length = l.length ∧ catW l 0 s = (s ++ catS w, 0))
 | [], acc, s => ⟨fun h => absurd rfl h, fun _ => ⟨[], by simp [symsP], rfl, by simp [catW, catS]⟩⟩
 | d :: r, acc, s => by
  rw [catW, symsP, wordW_0]
  cases h : decide ((symP d).2 = 0) with
  | true =>
   have h0 := of_decide_eq_true h
   rw [h0]
   obtain ⟨h1, h2⟩ := catW_0 r (acc ++ [(symP d).1]) ((s ++ [32]) ++ (symP d).1)
   refine ⟨h1, fun h3 => ?_⟩
   obtain ⟨w, k1, k2, k3⟩ := h2 h3
   refine ⟨(symP d).1 :: w, by simpa using k1, by simp [k2], ?_⟩
   rw [k3]
   simp [catS]
  | false =>
   have h0 := of_decide_eq_false h
   rw [catW_no h0]
   exact ⟨fun _ => rfl, fun h2 => absurd h2 h0⟩
theorem catS_join : ∀ w : List Str, w ≠ [] → catS w = 32 :: joinP w
 | [], h => absurd rfl h
 | [s], _ => by simp [catS, joinP]
 | s :: t :: r, _ => by
  have := catS_join (t :: r) (by simp)
  simp only [catS, List.flatMap_cons, joinP] at this ⊢
  rw [this]
  simp
theorem nameW_no {e : Int} (h : e ≠ 0) (d : Datum) : (nameW d e).2 = e := by
 simp only [nameW, needW_no h, catW_no h, stp_no h, Bool.cond_self]
theorem nameW_0 (d : Datum) : (nameW d 0).2 = (calledP d).2 ∧ ((calledP d).2 = 0 → (nameW d 0).1 = (calledP d).1) := by
 obtain ⟨h1, h2⟩ := needW_0 1 d
 simp only [nameW, calledP, h1]
 by_cases h3 : (listP 1 d).2 = 0
 ·rw [thenE_ok h3, h3, h2 h3]
  obtain ⟨k1, k2⟩ := catW_0 (listP 1 d).1 [] []
  by_cases h4 : (symsP (listP 1 d).1 []).2 = 0
  ·rw [thenE_ok h4]
   obtain ⟨w, j1, j2, j3⟩ := k2 h4
   rw [List.nil_append] at j1
   rw [j3, j1]
   have hw : w ≠ [] := by
    have := needW_len 1 d 0
    rw [h2 h3, ← j2] at this
    intro h; rw [h] at this; simp at this
   rw [catS_join w hw]
   simp only [List.nil_append, List.length_cons, List.drop_succ_cons, List.drop_zero]
   rw [show decide (61 < (joinP w).length + 1) = decide (60 < (joinP w).length) by by_cases h : 60 < (joinP w).length <;> simp [h] <;> omega]
   cases decide (60 < (joinP w).length) <;> simp [stp]
  ·rw [thenE_bad h4, k1 h4, stp_no h4]
   exact ⟨by rw [Bool.cond_self], fun h => absurd h h4⟩
 ·rw [thenE_bad h3, catW_no h3, stp_no h3]
  exact ⟨by rw [Bool.cond_self], fun h => absurd h h3⟩
section
variable (c : List V) (st : St) (b : Nat) (hb : b < st.length)
include hb
theorem c_wname (d : Datum) (hd : okM d) (e : Int) : VCalls Tryz.prog TT 24 [.ptr b 0, .agg (encD d)] (st.set b (wE c e)) fun r st' => r = .ret (.str (nameW d e).1) ∧ st' = st.set b (wE c (nameW d e).2) := by
 refine vfun TT_ok (an := anL [(3, 1)]) (L := [0, 1, 3, 4, 5, 7, 10, 11, 12]) (rs := [.tmp 4]) Tryz.func24 rfl (by kernel_rfl) rfl Tryz.ntmps24 rfl rfl (by simp) fun hst ha hf => ?_
 have hc0 : ∀ e', St.ok (st.set b (wE c e')) := fun e' => wE_ok e' hb hst
 simp only [bz24, gw0, qqE, ↓reduceIte, qqA, qqL, qqD, qqM]
 refine (c_wneed c st b hb d 1 (by omega) e).use (wkL_refl _) fun _ => ?_
 have hm := needW_okM e (by omega : 1 ≤ 2000) hd
 have hlen := needW_len 1 d e
 rw [nameW]
 generalize needW 1 d e = q at hm hlen ⊢
 obtain ⟨l, e1⟩ := q
 simp only at hm hlen ⊢
 have hll : l.length ≤ 9223372036854775807 := by omega
 simp only [gw0, qqE, ↓reduceIte, qqA, qqL, qqD, qqM, lstD, List.length_map]
 refine vforD (σ := Nat × Str × Int) [0, 1, 3, 4, 5, 10, 11, 12] (fun x => [(0, true, .ptr b 0), (1, true, .agg (encD d)), (3, true, .ref (encD d)), (4, true, .str []), (5, true, .str x.2.1), (10, true, lstD l), (11, true, .int .i64 l.length), (12, true, .int .i64 x.1)]) (fun x => st.set b (wE c x.2.2)) (fun x => l.length - x.1) (fun x => x.1 ≤ l.length ∧ x.2.1.length ≤ 21 * x.1 ∧ catW l e1 [] = catW (l.drop x.1) x.2.2 x.2.1) (0, [], e1) rfl TT_ok ⟨Nat.zero_le _, Nat.le_refl _, rfl⟩ (wkE_refl _) rfl ?_
 rintro ⟨i, s, e2⟩ ⟨hi, hs, hI⟩
 simp only at hi hs hI ⊢
 rcases at_or_end l i hi with ⟨rfl, hdd⟩ | ⟨a, hlt, hget, hdr⟩
 ·have hs1 : 1 ≤ s.length := by
   have := catW_len l e1 []
   rw [hI, hdd] at this
   simp only [catW, List.length_nil] at this; omega
  rw [hI, hdd, show catW [] e2 s = (s, e2) from rfl]
  have e3 : decide ((61 : Int) < (s.length : Int)) = decide (61 < s.length) := by by_cases h : 61 < s.length <;> simp [h] <;> omega
  simp only [gw0, qqE, ↓reduceIte, qqA, qqL, qqD, qqM, lt_no, lstD, e3]
  refine iK_split (fun h => ?_) (fun h => ?_)
  ·simp only [gw0, qqE, ↓reduceIte, qqA, qqL, qqD, qqM]
   refine (c_wstop c st b hb e2 4).use (wkL_refl _) fun _ => ?_
   simp only [gw0, qqE, ↓reduceIte, qqA, qqL, qqD, qqM, h, cond_true, show Int.toNat 1 = 1 from rfl]
   exact ⟨⟨by omega, by omega⟩, gives_self trivial (hc0 _)⟩
  ·simp only [gw0, qqE, ↓reduceIte, qqA, qqL, qqD, qqM, h, cond_false, show Int.toNat 1 = 1 from rfl]
   exact ⟨⟨by omega, by omega⟩, gives_self trivial (hc0 _)⟩
 ·have hma : okM a := okMs_mem hm.1 (List.mem_of_getElem? hget)
  have hws := wordW_short e2 hma
  simp only [bz25, gw0, qqE, ↓reduceIte, qqA, qqL, qqD, qqM, lt_yes hlt, lstD, getD_map hget, Int.ofNat_lt.mpr hlt, wE_len, wE_k, wE_k0, wE_sk, wE_sk0]
  refine ⟨by omega, ?_⟩
  refine (x_wword hb c [.box (encD a)] e2 a).use (wkL_refl _) fun _ => ?_
  simp only [gw0, qqE, ↓reduceIte, qqA, qqL, qqD, qqM, List.length_map, Env.keep, next_i64 hlt hll, Nat.le_refl, wE_len, wE_k, wE_k0, wE_sk, wE_sk0]
  refine ⟨by simp; omega, (i + 1, (s ++ [32]) ++ (wordW a e2).1, (wordW a e2).2), ⟨wkE_refl _, st.set b (wE c (wordW a e2).2), [.box (encD a)], rfl, wkSt_refl _, ?_, hc0 _, by simp⟩, by dsimp only; omega, hlt, by simp; omega, by rw [hI, hdr, catW]⟩
  simp only [ltE, V.lt, wE_len]
  have hl2 := lstD_lt st.length l
  have hl3 := encD_lt st.length d
  simp only [lstD, V.lt] at hl2
  exact ⟨by omega, hl3, hl3, trivial, trivial, hl2, trivial, trivial, trivial⟩
end
section
variable {st : St} {b : Nat} (hb : b < st.length) (c : List V) (ex : St) (e : Int)
include hb
theorem x_wname (d : Datum) (hd : okM d) : VCalls Tryz.prog TT 24 [.ptr b 0, .agg (encD d)] (st.set b (wE c e) ++ ex) fun r st' => r = .ret (.str (nameW d e).1) ∧ st' = st.set b (wE c (nameW d e).2) ++ ex := by
 have h := c_wname c (st ++ ex) b (by simp; omega) d hd e
 rwa [List.set_append_left _ _ hb, List.set_append_left _ _ hb] at h
end
end Go.Proofs.YtpllcpbhjglpaaaGreatDoor.Gx
namespace Go.Proofs.YtpllcpbhjglpaaaGreatDoor.Gx
open Go Go.Proofs.YtpllcpbhjglpaaaGreatDoor.Gw
open Nat renaming reduceEqDiff → qqE, reduceAdd → qqA, reduceLT → qqL, reduceLeDiff → qqD, reduceMul → qqM
set_option linter.unusedSimpArgs false
set_option linter.unusedVariables false
def kwOf (s : Str) : Int := bif decide (s = wOnly) then 2 else bif decide (s = wExcept) then 3 else bif decide (s = wPrefix) then 4 else bif decide (s = wRename) then 5 else 0
theorem idx_kw (s : Str) : (kwOf s ≠ 0 → idxOf s 0 [wOnly, wExcept, wPrefix, wRename] + 2 = kwOf s) ∧ (kwOf s = 0 → idxOf s 0 [wOnly, wExcept, wPrefix, wRename] + 2 < 2) := by
 by_cases h1 : s = wOnly
 ·subst h1; decide
 by_cases h2 : s = wExcept
 ·subst h2; decide
 by_cases h3 : s = wPrefix
 ·subst h3; decide
 by_cases h4 : s = wRename
 ·subst h4; decide
 simp only [idxOf, kwOf, decide_eq_false h1, decide_eq_false h2, decide_eq_false h3, decide_eq_false h4, cond_false]
 decide
def zSet : List V := [.int .i64 0, .str [], .nils, .nils, .str [], .nils]
theorem wk_zSet : wkL zSet (encSet noSet) := by
 rw [noSet, encSet_mk]
 exact wkL_cons (wk_refl _) (wkL_cons (wk_refl _) (wkL_cons (wk_nils _) (wkL_cons (wk_nils _) (wkL_cons (wk_refl _) (wkL_cons (wk_nils _) wkL_nil)))))
def kindW : List Datum → Int
 | a :: b :: _ => bif decide (kindOf a = 3) && decide (kindOf b = 4) then kwOf (nameOf a) else 0
 | _ => 0
def renW : List Datum → Int → List Str → List Str → (List Str × List Str) × Int
 | [], e, ns, az => ((ns, az), e)
 | p :: r, e, ns, az => bif !decide (e = 0) then ((ns, az), e) else match wordsW (needW 2 p e).1 (needW 2 p e).2 [] with
  | ([x, y], e2) => bif decide (e2 = 0) then renW r e2 (ns ++ [x]) (az ++ [y]) else renW r e2 ns az
  | (_, e2) => renW r (stp e2 2) ns az
def setB (k : Set' × Int) (K : Int) (l : List Datum) : Set' × Int :=
 bif decide (K = 4) then (bif !decide (l.length = 3) then (.mk 4 [] [] [] [] [k.1], stp k.2 2) else (.mk 4 [] [] [] (wordW (l.getD 2 zD) k.2).1 [k.1], (wordW (l.getD 2 zD) k.2).2))
 else bif decide (K = 5) then (.mk 5 [] (renW (l.drop 2) k.2 [] []).1.1 (renW (l.drop 2) k.2 [] []).1.2 [] [k.1], (renW (l.drop 2) k.2 [] []).2)
 else (.mk K [] (wordsW (l.drop 2) k.2 []).1 [] [] [k.1], (wordsW (l.drop 2) k.2 []).2)
def setF (rec : Datum → Set' × Int) (d : Datum) : Set' × Int :=
 bif decide (kindW (needW 1 d 0).1 = 0) then (.mk 1 (nameW d (needW 1 d 0).2).1 [] [] [] [], (nameW d (needW 1 d 0).2).2)
 else setB (rec ((needW 1 d 0).1.getD 1 zD)) (kindW (needW 1 d 0).1) (needW 1 d 0).1
def setW : Nat → Datum → Set' × Int
 | 0, _ => (noSet, 4)
 | f + 1, d => setF (setW f) d
theorem renW_no {e : Int} (h : e ≠ 0) (l : List Datum) (ns az : List Str) : renW l e ns az = ((ns, az), e) := by
 cases l with
 | nil => rfl
 | cons p r => rw [renW, decide_eq_false h]; rfl
theorem stp_2 (e : Int) : stp e 2 ≠ 0 := by
 unfold stp
 cases h : decide (e = 0) with
 | true => simp
 | false => exact of_decide_eq_false h
theorem renW_0 : ∀ (l : List Datum) (ns az : List Str), (renW l 0 ns az).2 = (renP l ns az).2 ∧ ((renP l ns az).2 = 0 → (renW l 0 ns az).1 = (renP l ns az).1)
 | [], ns, az => ⟨rfl, fun _ => rfl⟩
 | p :: r, ns, az => by
  rw [renW, renP, show (!decide ((0 : Int) = 0)) = false from rfl, cond_false]
  obtain ⟨h1, h2⟩ := needW_0 2 p
  by_cases h3 : (listP 2 p).2 = 0
  ·rw [thenE_ok h3, h1, h3, h2 h3]
   obtain ⟨k1, k2⟩ := wordsW_0 (listP 2 p).1 []
   by_cases h4 : (symsP (listP 2 p).1 []).2 = 0
   ·rw [thenE_ok h4]
    have hw : wordsW (listP 2 p).1 0 [] = ((symsP (listP 2 p).1 []).1, 0) := Prod.ext (k2 h4) (k1.trans h4)
    rw [hw]
    rcases (symsP (listP 2 p).1 []).1 with _ | ⟨x, _ | ⟨y, _ | ⟨z, t⟩⟩⟩
    ·simp only; rw [renW_no (stp_2 0)]; exact ⟨rfl, fun h => absurd h (by decide)⟩
    ·simp only; rw [renW_no (stp_2 0)]; exact ⟨rfl, fun h => absurd h (by decide)⟩
    ·exact renW_0 r _ _
    ·simp only; rw [renW_no (stp_2 0)]; exact ⟨rfl, fun h => absurd h (by decide)⟩
   ·rw [thenE_bad h4]
    have hw : wordsW (listP 2 p).1 0 [] = ((wordsW (listP 2 p).1 0 []).1, (symsP (listP 2 p).1 []).2) := Prod.ext rfl k1
    rw [hw]
    rcases (wordsW (listP 2 p).1 0 []).1 with _ | ⟨x, _ | ⟨y, _ | ⟨z, t⟩⟩⟩
    ·simp only [stp_no h4, renW_no h4]; exact ⟨trivial, fun h => absurd h h4⟩
    ·simp only [stp_no h4, renW_no h4]; exact ⟨trivial, fun h => absurd h h4⟩
    ·simp only [decide_eq_false h4, cond_false, renW_no h4]; exact ⟨trivial, fun h => absurd h h4⟩
    ·simp only [stp_no h4, renW_no h4]; exact ⟨trivial, fun h => absurd h h4⟩
  ·rw [thenE_bad h3, h1]
   have hw : wordsW (needW 2 p 0).1 (listP 2 p).2 [] = ((wordsW (needW 2 p 0).1 (listP 2 p).2 []).1, (listP 2 p).2) := Prod.ext rfl (wordsW_no h3 _ _)
   rw [hw]
   rcases (wordsW (needW 2 p 0).1 (listP 2 p).2 []).1 with _ | ⟨x, _ | ⟨y, _ | ⟨z, t⟩⟩⟩
   ·simp only [stp_no h3, renW_no h3]; exact ⟨trivial, fun h => absurd h h3⟩
   ·simp only [stp_no h3, renW_no h3]; exact ⟨trivial, fun h => absurd h h3⟩
   ·simp only [decide_eq_false h3, cond_false, renW_no h3]; exact ⟨trivial, fun h => absurd h h3⟩
   ·simp only [stp_no h3, renW_no h3]; exact ⟨trivial, fun h => absurd h h3⟩
theorem kwOf_cases (s : Str) : kwOf s = 0 ∨ kwOf s = 2 ∨ kwOf s = 3 ∨ kwOf s = 4 ∨ kwOf s = 5 := by
 simp only [kwOf]
 cases decide (s = wOnly) <;> cases decide (s = wExcept) <;> cases decide (s = wPrefix) <;> cases decide (s = wRename) <;> simp
theorem kindW_cases (l : List Datum) : kindW l = 0 ∨ kindW l = 2 ∨ kindW l = 3 ∨ kindW l = 4 ∨ kindW l = 5 := by
 rcases l with _ | ⟨a, _ | ⟨b, r⟩⟩
 ·exact .inl rfl
 ·exact .inl rfl
 ·simp only [kindW]
  cases decide (kindOf a = 3) && decide (kindOf b = 4) with
  | true => exact kwOf_cases _
  | false => exact .inl rfl
theorem kindW_set (l : List Datum) : (kindW l ≠ 0 → setKind l = kindW l) ∧ (kindW l = 0 → setKind l < 2) := by
 rcases l with _ | ⟨a, _ | ⟨b, r⟩⟩
 ·exact ⟨fun h => absurd rfl h, fun _ => show (0 : Int) < 2 by decide⟩
 ·exact ⟨fun h => absurd rfl h, fun _ => show (0 : Int) < 2 by decide⟩
 ·have e : setKind (a :: b :: r) = bif decide (kindOf b = 4) && decide (kindOf a = 3) then idxOf (nameOf a) 0 [wOnly, wExcept, wPrefix, wRename] + 2 else 0 := rfl
  have e2 : kindW (a :: b :: r) = bif decide (kindOf b = 4) && decide (kindOf a = 3) then kwOf (nameOf a) else 0 := by rw [Bool.and_comm]; rfl
  rw [e, e2]
  generalize (decide (kindOf b = 4) && decide (kindOf a = 3)) = t
  cases t with
  | true => exact idx_kw _
  | false => exact ⟨fun h => absurd rfl h, fun _ => show (0 : Int) < 2 by decide⟩
theorem setB_0 {k k2 : Set' × Int} {K : Int} {l : List Datum} (hk : k.2 = k2.2 ∧ (k2.2 = 0 → k.1 = k2.1)) (hK : K = 2 ∨ K = 3 ∨ K = 4 ∨ K = 5) :
  let G := thenE k2 noSet fun k => bif decide (K = 4) then (bif !decide (l.length = 3) then (noSet, 2) else thenE (symP (l.getD 2 (.mk 0 0 [] 0 0 []))) noSet fun p => (.mk K [] [] [] p [k], 0))
    else bif decide (K = 5) then thenE (renP (l.drop 2) [] []) noSet fun r => (.mk K [] r.1 r.2 [] [k], 0)
    else thenE (symsP (l.drop 2) []) noSet fun ns => (.mk K [] ns [] [] [k], 0)
  (setB k K l).2 = G.2 ∧ (G.2 = 0 → (setB k K l).1 = G.1) := by
 intro G
 obtain ⟨x, e⟩ := k
 obtain ⟨y, e2⟩ := k2
 simp only at hk
 obtain ⟨rfl, hxy⟩ := hk
 by_cases h0 : e = 0
 ·subst h0
  obtain rfl := hxy rfl
  simp only [G]
  rw [thenE_ok (by rfl)]
  simp only [setB]
  cases h4 : decide (K = 4) with
  | true =>
   have := of_decide_eq_true h4; subst this
   simp only [cond_true]
   cases h3 : !decide (l.length = 3) with
   | true => exact ⟨rfl, fun h => absurd h (show (2 : Int) ≠ 0 by decide)⟩
   | false =>
    simp only [cond_false, wordW_0, zD]
    by_cases h5 : (symP (l.getD 2 (.mk 0 0 [] 0 0 []))).2 = 0
    ·rw [thenE_ok h5]; exact ⟨h5, fun _ => rfl⟩
    ·rw [thenE_bad h5]; exact ⟨rfl, fun h => absurd h h5⟩
  | false =>
   simp only [cond_false]
   cases h5 : decide (K = 5) with
   | true =>
    have := of_decide_eq_true h5; subst this
    simp only [cond_true]
    obtain ⟨r1, r2⟩ := renW_0 (l.drop 2) [] []
    by_cases h6 : (renP (l.drop 2) [] []).2 = 0
    ·rw [thenE_ok h6, r2 h6]; exact ⟨r1.trans h6, fun _ => rfl⟩
    ·rw [thenE_bad h6]; exact ⟨r1, fun h => absurd h h6⟩
   | false =>
    simp only [cond_false]
    obtain ⟨r1, r2⟩ := wordsW_0 (l.drop 2) []
    by_cases h6 : (symsP (l.drop 2) []).2 = 0
    ·rw [thenE_ok h6, r2 h6]; exact ⟨r1.trans h6, fun _ => rfl⟩
    ·rw [thenE_bad h6]; exact ⟨r1, fun h => absurd h h6⟩
 ·simp only [G]
  rw [thenE_bad (by exact h0)]
  refine ⟨?_, fun h => absurd h h0⟩
  simp only [setB, wordW_no h0, renW_no h0, wordsW_no h0, stp_no h0]
  cases decide (K = 4) <;> cases decide (K = 5) <;> cases decide (l.length = 3) <;> rfl
theorem kindW_zD : kindW [zD] = 0 := rfl
theorem needW_bad {n : Nat} {d : Datum} (h : (listP n d).2 ≠ 0) : (needW n d 0).1 = List.replicate n zD := by
 obtain ⟨k, m, nm, s, l, kids⟩ := d
 simp only [needW, listP] at h ⊢
 cases h2 : !decide (k = 4) || decide (kids.length < n) with
 | true => rfl
 | false => rw [h2] at h; exact absurd rfl h
theorem setW_0 : ∀ (f : Nat) (d : Datum), (setW f d).2 = (setP f d).2 ∧ ((setP f d).2 = 0 → (setW f d).1 = (setP f d).1)
 | 0, d => ⟨rfl, fun h => absurd h (by simp [setP])⟩
 | f + 1, d => by
  have hs0 : setP (f + 1) d = thenE (listP 1 d) noSet fun l =>
   bif decide (setKind l < 2) then thenE (calledP d) noSet fun s => (.mk 1 s [] [] [] [], 0)
   else thenE (setP f (l.getD 1 (.mk 0 0 [] 0 0 []))) noSet fun k =>
    bif decide (setKind l = 4) then (bif !decide (l.length = 3) then (noSet, 2) else thenE (symP (l.getD 2 (.mk 0 0 [] 0 0 []))) noSet fun p => (.mk (setKind l) [] [] [] p [k], 0))
    else bif decide (setKind l = 5) then thenE (renP (l.drop 2) [] []) noSet fun r => (.mk (setKind l) [] r.1 r.2 [] [k], 0)
    else thenE (symsP (l.drop 2) []) noSet fun ns => (.mk (setKind l) [] ns [] [] [k], 0) := rfl
  rw [hs0]
  rw [show setW (f + 1) d = setF (setW f) d from rfl, setF]
  obtain ⟨n1, n2⟩ := needW_0 1 d
  by_cases h : (listP 1 d).2 = 0
  ·rw [thenE_ok h, n1, h, n2 h]
   obtain ⟨j1, j2⟩ := kindW_set (listP 1 d).1
   cases hk : decide (kindW (listP 1 d).1 = 0) with
   | true =>
    rw [decide_eq_true (j2 (of_decide_eq_true hk))]
    simp only [cond_true]
    obtain ⟨q1, q2⟩ := nameW_0 d
    by_cases h3 : (calledP d).2 = 0
    ·rw [thenE_ok h3]; exact ⟨q1.trans h3, fun _ => by rw [q2 h3]⟩
    ·rw [thenE_bad h3]; exact ⟨q1, fun h => absurd h h3⟩
   | false =>
    have hK := (kindW_cases (listP 1 d).1).resolve_left (of_decide_eq_false hk)
    rw [j1 (of_decide_eq_false hk)]
    have h2 : decide (kindW (listP 1 d).1 < 2) = false := decide_eq_false (by rcases hK with h | h | h | h <;> omega)
    rw [h2]
    simp only [cond_false]
    exact setB_0 (setW_0 f _) hK
  ·rw [thenE_bad h, n1, needW_bad h]
   simp only [List.replicate_succ, List.replicate_zero, kindW_zD, decide_true, cond_true]
   exact ⟨nameW_no h d, fun h2 => absurd h2 h⟩
theorem bz9 : type_of% @List.getD_cons_succ.{0} ∧ type_of% @List.getD_cons_zero.{0} ∧ type_of% @List.getD_nil.{0} ∧ type_of% @List.length_cons.{0} ∧ type_of% @List.length_map.{0,0} ∧ type_of% @List.length_nil.{0} ∧ type_of% @List.map_cons.{0,0} ∧ type_of% @List.map_nil.{0,0} ∧ type_of% @Nat.le_refl ∧ type_of% @encD_drop ∧ type_of% @encD_len ∧ type_of% @encD_mk ∧ type_of% @encD_take ∧ type_of% @encSet_len ∧ type_of% @encSet_take ∧ (Int.toNat 0 = 0) ∧ (Int.toNat 1 = 1) ∧ (Int.toNat 2 = 2) ∧ type_of% @wE_k ∧ type_of% @wE_k0 ∧ type_of% @wE_len ∧ type_of% @wE_sk ∧ type_of% @wE_sk0 := ⟨@List.getD_cons_succ.{0}, @List.getD_cons_zero.{0}, @List.getD_nil.{0}, @List.length_cons.{0}, @List.length_map.{0,0}, @List.length_nil.{0}, @List.map_cons.{0,0}, @List.map_nil.{0,0}, @Nat.le_refl, @encD_drop, @encD_len, @encD_mk, @encD_take, @encSet_len, @encSet_take, rfl, rfl, rfl, @wE_k, @wE_k0, @wE_len, @wE_sk, @wE_sk0⟩
theorem bz4 : type_of% @List.getD_cons_succ.{0} ∧ type_of% @List.getD_cons_zero.{0} ∧ type_of% @List.getD_nil.{0} ∧ type_of% @List.length_cons.{0} ∧ type_of% @List.length_map.{0,0} ∧ type_of% @List.length_nil.{0} ∧ type_of% @List.map_cons.{0,0} ∧ type_of% @List.map_nil.{0,0} ∧ type_of% @Nat.le_refl ∧ type_of% @encD_drop ∧ type_of% @encD_len ∧ type_of% @encD_mk ∧ type_of% @encD_take ∧ (Int.toNat 0 = 0) ∧ (Int.toNat 1 = 1) ∧ (Int.toNat 2 = 2) ∧ type_of% @wE_k ∧ type_of% @wE_k0 ∧ type_of% @wE_len ∧ type_of% @wE_sk ∧ type_of% @wE_sk0 := ⟨@List.getD_cons_succ.{0}, @List.getD_cons_zero.{0}, @List.getD_nil.{0}, @List.length_cons.{0}, @List.length_map.{0,0}, @List.length_nil.{0}, @List.map_cons.{0,0}, @List.map_nil.{0,0}, @Nat.le_refl, @encD_drop, @encD_len, @encD_mk, @encD_take, rfl, rfl, rfl, @wE_k, @wE_k0, @wE_len, @wE_sk, @wE_sk0⟩
set_option maxHeartbeats 4000000 in
theorem c_wset : ∀ (f : Nat) (d : Datum) (dp : Int), f ≤ 12 → dp = 13 - f → okM d → ∀ (c : List V) (st : St) (b : Nat), b < st.length → VCalls Tryz.prog TT 51 [.ptr b 0, .agg (encD d), .int .i64 dp] (st.set b (wE c 0)) fun r st' => r = .ret (.agg (encSet (setW f d).1)) ∧ st' = st.set b (wE c (setW f d).2)
 | 0, d, dp, hf, hdp, hd, c, st, b, hb => by
  refine vfun TT_ok (an := anL [(4, 1)]) (L := [0, 1, 2, 4, 6, 7, 8, 9, 11, 12, 90, 91, 92]) (rs := [.cell 6 69]) Tryz.func51 rfl (by kernel_rfl) rfl Tryz.ntmps51 rfl rfl (by simp) fun hst ha hf => ?_
  have hc0 : ∀ e', St.ok (st.set b (wE c e')) := fun e' => wE_ok e' hb hst
  have e1 : decide ((12 : Int) < dp) = true := decide_eq_true (by omega)
  simp only [gw2, qqE, ↓reduceIte, qqA, qqL, qqD, qqM, ite_self, e1, wE_len, wE_k, wE_k0, wE_sk, wE_sk0]
  refine (x_wstop hb c [.box zSet] 0 4).use (wkL_refl _) fun _ => ?_
  simp only [gw2, qqE, ↓reduceIte, qqA, qqL, qqD, qqM, ite_self]
  refine (x_wgood hb c [.box zSet] (stp 0 4)).use (wkL_refl _) fun _ => ?_
  simp only [gw2, qqE, ↓reduceIte, qqA, qqL, qqD, qqM, ite_self, show decide (stp 0 4 = 0) = false from rfl, Bool.not_false, wE_len, wE_k, wE_k0, wE_sk, wE_sk0, zSet]
  exact gives_of (wk_agg wk_zSet) (wkSt_refl _) (by simp only [V.lt]; exact encSet_lt _ _) (hc0 _)
 | f + 1, d, dp, hf, hdp, hd, c, st, b, hb => by
  refine vfun TT_ok (an := anL [(4, 1)]) (L := [0, 1, 2, 4, 6, 7, 8, 9, 11, 12, 90, 91, 92]) (rs := [.cell 6 69]) Tryz.func51 rfl (by kernel_rfl) rfl Tryz.ntmps51 rfl rfl (by simp) fun hst ha hf => ?_
  have hc0 : ∀ e', St.ok (st.set b (wE c e')) := fun e' => wE_ok e' hb hst
  have e1 : decide ((12 : Int) < dp) = false := decide_eq_false (by omega)
  rw [show setW (f + 1) d = setF (setW f) d from rfl, setF]
  simp only [gw2, qqE, ↓reduceIte, qqA, qqL, qqD, qqM, ite_self, e1, wE_len, wE_k, wE_k0, wE_sk, wE_sk0]
  refine (x_wgood hb c [.box zSet] 0).use (wkL_refl _) fun _ => ?_
  simp only [bz24, gw2, qqE, ↓reduceIte, qqA, qqL, qqD, qqM, ite_self, show decide ((0 : Int) = 0) = true from rfl, Bool.not_true, wE_len, wE_k, wE_k0, wE_sk, wE_sk0]
  refine (x_wneed hb c [.box zSet] 0 d 1 (by omega)).use (wkL_refl _) fun _ => ?_
  have hm := needW_okM 0 (by omega : 1 ≤ 2000) hd
  have hlen := needW_len 1 d 0
  have hq0 : kindW (needW 1 d 0).1 ≠ 0 → (needW 1 d 0).2 = 0 := fun h => by
   by_cases h2 : (listP 1 d).2 = 0
   ·rw [(needW_0 1 d).1, h2]
   ·rw [needW_bad h2] at h; exact absurd rfl h
  generalize needW 1 d 0 = q at hm hlen hq0 ⊢
  obtain ⟨l, e2⟩ := q
  simp only at hm hlen hq0 ⊢
  have w1 : ∀ s : Str, wkL [.int .i64 1, .str s, .nils, .nils, .str [], .nils] (encSet (.mk 1 s [] [] [] [])) := fun s => by
   rw [encSet_mk]
   exact wkL_cons (wk_refl _) (wkL_cons (wk_refl _) (wkL_cons (wk_nils _) (wkL_cons (wk_nils _) (wkL_cons (wk_refl _) (wkL_cons (wk_nils _) wkL_nil)))))
  have hKm : ups [114, 101, 110, 97, 109, 101] 5 (ups [112, 114, 101, 102, 105, 120] 4 (ups [101, 120, 99, 101, 112, 116] 3 (ups [111, 110, 108, 121] 2 ([] : List (Str × Int))))) = [(wOnly, 2), (wExcept, 3), (wPrefix, 4), (wRename, 5)] := by decide
  have hKa : ∀ nm : Str, (Option.map (V.int .i64) (asc nm [(wOnly, (2 : Int)), (wExcept, 3), (wPrefix, 4), (wRename, 5)])).getD (.int .i64 0) = .int .i64 (kwOf nm) := fun nm => by
   simp only [asc, kwOf]
   by_cases h1 : nm = wOnly
   ·rw [if_pos h1, decide_eq_true h1]; rfl
   by_cases h2 : nm = wExcept
   ·rw [if_neg h1, if_pos h2, decide_eq_false h1, decide_eq_true h2]; rfl
   by_cases h3 : nm = wPrefix
   ·rw [if_neg h1, if_neg h2, if_pos h3, decide_eq_false h1, decide_eq_false h2, decide_eq_true h3]; rfl
   by_cases h4 : nm = wRename
   ·rw [if_neg h1, if_neg h2, if_neg h3, if_pos h4, decide_eq_false h1, decide_eq_false h2, decide_eq_false h3, decide_eq_true h4]; rfl
   rw [if_neg h1, if_neg h2, if_neg h3, if_neg h4, decide_eq_false h1, decide_eq_false h2, decide_eq_false h3, decide_eq_false h4]; rfl
  have hS : ∀ (K : Int) (s nm : Str), V.lt (st.set b (wE c e2)).length (.agg (encSet (.mk 1 nm [] [] [] []))) := fun K s nm => by simp only [V.lt]; exact encSet_lt _ _
  rcases l with _ | ⟨⟨ka, na, nma, sa, la, kidsa⟩, _ | ⟨⟨kb, nb, nmb, sb, lb, kidsb⟩, r⟩⟩
  ·simp at hlen
  ·rw [show kindW [.mk ka na nma sa la kidsa] = 0 from rfl, show decide ((0 : Int) = 0) = true from rfl, cond_true]
   simp only [bz4, gw2, qqE, ↓reduceIte, qqA, qqL, qqD, qqM, ite_self, lstD, show decide ((2 : Int) ≤ ((1 : Nat) : Int)) = false from rfl]
   refine ⟨by decide, ?_⟩
   refine (x_wname hb c [.box zSet] e2 d hd).use (wkL_refl _) fun _ => ?_
   simp only [bz4, gw2, qqE, ↓reduceIte, qqA, qqL, qqD, qqM, ite_self, zSet, lstD]
   exact gives_of (wk_agg (w1 _)) (wkSt_refl _) (by simp only [V.lt]; exact encSet_lt _ _) (hc0 _)
  ·have e4 : decide ((2 : Int) ≤ ((r.length + 2 : Nat) : Int)) = true := decide_eq_true (by omega)
   simp only [bz4, gw2, qqE, ↓reduceIte, qqA, qqL, qqD, qqM, ite_self, lstD, e4]
   refine ⟨⟨by omega, by omega⟩, ⟨?_, ?_⟩⟩
   ·intro _; exact ⟨by omega, by omega⟩
   have hK : kindW (.mk ka na nma sa la kidsa :: .mk kb nb nmb sb lb kidsb :: r) = bif decide (ka = 3) && decide (kb = 4) then kwOf nma else 0 := rfl
   rw [hK] at hq0 ⊢
   refine iK_split (fun h => ?_) (fun h => ?_)
   ·rw [h, cond_true] at hq0 ⊢
    have hE0 : Ent.map 0 [] = mapE V.str (V.int .i64) ([] : List (Str × Int)) := rfl
    have hpt := fun (o : Nat) (n : Str) (a : Int) (st : St) (M : List (Str × Int)) => put_mapE (ev := V.int .i64) (keyP_str TT) o n a st M
    have hlk := fun (i : TI) (ok : Bool) (st : St) (n : Str) (M : List (Str × Int)) => look_mapE (ev := V.int .i64) (keyP_str TT) i ok n st M
    simp only [bz4, gw0, qqE, ↓reduceIte, qqA, qqL, qqD, qqM, mapLook, mapPut, mapRange, mapLen, makeMapE, keyOk, keyKind, keyGood, lookR, zeroV, entV, entS, nextV, nextS, beq_self_eq_true, cond_true, cond_false, lstD, hE0, hpt, hlk, hKm, hKa, Option.isSome]
    refine ⟨⟨by omega, by omega⟩, iK_split (fun h2 => ?_) (fun h2 => ?_)⟩
    ·rw [h2, cond_true]
     simp only [bz4, gw2, qqE, ↓reduceIte, qqA, qqL, qqD, qqM, ite_self, lstD]
     refine (x_wname hb c [.box zSet, mapE V.str (V.int .i64) [(wOnly, 2), (wExcept, 3), (wPrefix, 4), (wRename, 5)]] e2 d hd).use (wkL_refl _) fun _ => ?_
     simp only [bz4, gw2, qqE, ↓reduceIte, qqA, qqL, qqD, qqM, ite_self, zSet, lstD]
     exact gives_of (wk_agg (w1 _)) (wkSt_refl _) (by simp only [V.lt]; exact encSet_lt _ _) (hc0 _)
    have hK4 : kwOf nma = 2 ∨ kwOf nma = 3 ∨ kwOf nma = 4 ∨ kwOf nma = 5 := (kwOf_cases nma).resolve_left (of_decide_eq_false h2)
    obtain rfl := hq0 (of_decide_eq_false h2)
    rw [h2, cond_false]
    generalize kwOf nma = K at hK4 h2
    have hmb : okM (.mk kb nb nmb sb lb kidsb) := okMs_mem hm.1 (by simp)
    have hmr : okMs r := hm.1.2.2
    have hrl : r.length + 2 ≤ 2000 := hm.2
    have e6 : IntKind.i64.wrap (dp + 1) = dp + 1 := wrap_i64 (by omega) (by omega)
    simp only [bz4, gw2, qqE, ↓reduceIte, qqA, qqL, qqD, qqM, ite_self, e6, lstD]
    refine ⟨⟨by omega, by omega⟩, ?_⟩
    have ih := c_wset f (.mk kb nb nmb sb lb kidsb) (dp + 1) (by omega) (by omega) hmb c (st ++ [.box zSet, mapE V.str (V.int .i64) [(wOnly, 2), (wExcept, 3), (wPrefix, 4), (wRename, 5)]]) b (by simp; omega)
    rw [List.set_append_left _ _ hb, List.set_append_left _ _ hb] at ih
    refine ih.use (by rw [encD_mk]; exact wkL_refl _) fun _ => ?_
    generalize setW f (.mk kb nb nmb sb lb kidsb) = q
    obtain ⟨k, e⟩ := q
    simp only
    have wk3 : ∀ (K : Int) (ns az : List Str) (p : Str) (vn va : V), wk vn (encS ns) → wk va (encS az) → wkL [.int .i64 K, .str [], vn, va, .str p, .lst 6 none [encSet k]] (encSet (.mk K [] ns az p [k])) := fun K ns az p vn va h1 h2 => by
     rw [encSet_mk]
     exact wkL_cons (wk_refl _) (wkL_cons (wk_refl _) (wkL_cons h1 (wkL_cons h2 (wkL_cons (wk_refl _) (wkL_cons (wk_refl _) wkL_nil)))))
    simp only [bz9, gw2, qqE, ↓reduceIte, qqA, qqL, qqD, qqM, ite_self, lstD]
    have e8 : ∀ i : Int, decide (((r.length + 2 : Nat) : Int) = 3) = decide (r.length = 1) := fun _ => by by_cases h : r.length = 1 <;> simp [h] <;> omega
    have hLo : 2 ≤ r.length + 1 + 1 := by omega
    have hk23 : ∀ K : Int, K = 2 ∨ K = 3 → True := fun _ _ => trivial
    rcases hK4 with rfl | rfl | rfl | rfl
    ·rw [show setB (k, e) 2 (.mk ka na nma sa la kidsa :: .mk kb nb nmb sb lb kidsb :: r) = (.mk 2 [] (wordsW r e []).1 [] [] [k], (wordsW r e []).2) from rfl]
     simp only [bz4, gw2, qqE, ↓reduceIte, qqA, qqL, qqD, qqM, ite_self, lstD, show decide ((2 : Int) = 4) = false from rfl, show decide ((2 : Int) = 2) = true from rfl, show decide ((2 : Int) = 3) = false from rfl, show decide ((2 : Int) = 5) = false from rfl]
     refine ⟨⟨by omega, by omega⟩, ?_⟩
     have hx := x_wwords hb c [.box zSet, mapE V.str (V.int .i64) [(wOnly, 2), (wExcept, 3), (wPrefix, 4), (wRename, 5)], .box [.int .i64 2, .str [], .nils, .nils, .str [], .lst 6 none [encSet k]]] e r (by omega)
     simp only [lstD] at hx
     refine hx.use (wkL_refl _) fun _ => ?_
     have hwk := fun (ns : List Str) => wk3 2 ns [] [] (encS ns) .nils (wk_refl _) (wk_nils _)
     generalize wordsW r e [] = q2
     obtain ⟨ns, e9⟩ := q2
     simp only [encS] at hwk ⊢
     simp only [bz9, gw2, qqE, ↓reduceIte, qqA, qqL, qqD, qqM, ite_self, lstD, show decide ((2 : Int) = 4) = false from rfl, show decide ((2 : Int) = 2) = true from rfl, show decide ((2 : Int) = 3) = false from rfl, show decide ((2 : Int) = 5) = false from rfl]
     refine ⟨⟨by omega, by omega⟩, ?_⟩
     refine vfor (σ := Nat) [0, 6, 8, 9, 90, 91, 92] (fun x => [(0, true, .ptr b 0), (6, true, .ptr st.length 0), (8, true, .int .i64 2), (9, true, .ptr (st.length + 2) 0), (90, true, .lst 6 none (r.map encD)), (91, true, .int .i64 r.length), (92, true, .int .i64 0)]) (fun x => st.set b (wE c e9) ++ [.box zSet, mapE V.str (V.int .i64) [(wOnly, 2), (wExcept, 3), (wPrefix, 4), (wRename, 5)], .box [.int .i64 2, .str [], .lst 1 none (ns.map fun s => [.str s]), .nils, .str [], .lst 6 none [encSet k]]]) (fun x => 0) (fun x => x = 0) 0 rfl TT_ok rfl rfl rfl ?_
     rintro x -
     cases r with
     | nil =>
      simp only [bz9, gw2, qqE, ↓reduceIte, qqA, qqL, qqD, qqM, ite_self, lstD, show decide ((0 : Int) < ((0 : Nat) : Int)) = false from rfl, zSet]
      exact gives_of (wk_agg (hwk _)) (wkSt_refl _) (by simp only [V.lt]; exact encSet_lt _ _) (hc0 _)
     | cons p r' =>
      have e9' : decide ((0 : Int) < ((r'.length + 1 : Nat) : Int)) = true := decide_eq_true (by omega)
      simp only [bz4, gw2, qqE, ↓reduceIte, qqA, qqL, qqD, qqM, ite_self, lstD, e9', show decide ((2 : Int) = 4) = false from rfl, show decide ((2 : Int) = 2) = true from rfl, show decide ((2 : Int) = 3) = false from rfl, show decide ((2 : Int) = 5) = false from rfl, Bool.not_false, Bool.not_true]
      refine ⟨⟨by omega, by omega⟩, rK_not (.bool true) ?_⟩
      simp only [bz9, gw2, qqE, ↓reduceIte, qqA, qqL, qqD, qqM, ite_self, lstD, zSet]
      exact gives_of (wk_agg (hwk _)) (wkSt_refl _) (by simp only [V.lt]; exact encSet_lt _ _) (hc0 _)
    ·rw [show setB (k, e) 3 (.mk ka na nma sa la kidsa :: .mk kb nb nmb sb lb kidsb :: r) = (.mk 3 [] (wordsW r e []).1 [] [] [k], (wordsW r e []).2) from rfl]
     simp only [bz4, gw2, qqE, ↓reduceIte, qqA, qqL, qqD, qqM, ite_self, lstD, show decide ((3 : Int) = 4) = false from rfl, show decide ((3 : Int) = 2) = false from rfl, show decide ((3 : Int) = 3) = true from rfl, show decide ((3 : Int) = 5) = false from rfl]
     refine ⟨⟨by omega, by omega⟩, ?_⟩
     have hx := x_wwords hb c [.box zSet, mapE V.str (V.int .i64) [(wOnly, 2), (wExcept, 3), (wPrefix, 4), (wRename, 5)], .box [.int .i64 3, .str [], .nils, .nils, .str [], .lst 6 none [encSet k]]] e r (by omega)
     simp only [lstD] at hx
     refine hx.use (wkL_refl _) fun _ => ?_
     have hwk := fun (ns : List Str) => wk3 3 ns [] [] (encS ns) .nils (wk_refl _) (wk_nils _)
     generalize wordsW r e [] = q2
     obtain ⟨ns, e9⟩ := q2
     simp only [encS] at hwk ⊢
     simp only [bz9, gw2, qqE, ↓reduceIte, qqA, qqL, qqD, qqM, ite_self, lstD, show decide ((3 : Int) = 4) = false from rfl, show decide ((3 : Int) = 2) = false from rfl, show decide ((3 : Int) = 3) = true from rfl, show decide ((3 : Int) = 5) = false from rfl]
     refine ⟨⟨by omega, by omega⟩, ?_⟩
     refine vfor (σ := Nat) [0, 6, 8, 9, 90, 91, 92] (fun x => [(0, true, .ptr b 0), (6, true, .ptr st.length 0), (8, true, .int .i64 3), (9, true, .ptr (st.length + 2) 0), (90, true, .lst 6 none (r.map encD)), (91, true, .int .i64 r.length), (92, true, .int .i64 0)]) (fun x => st.set b (wE c e9) ++ [.box zSet, mapE V.str (V.int .i64) [(wOnly, 2), (wExcept, 3), (wPrefix, 4), (wRename, 5)], .box [.int .i64 3, .str [], .lst 1 none (ns.map fun s => [.str s]), .nils, .str [], .lst 6 none [encSet k]]]) (fun x => 0) (fun x => x = 0) 0 rfl TT_ok rfl rfl rfl ?_
     rintro x -
     cases r with
     | nil =>
      simp only [bz9, gw2, qqE, ↓reduceIte, qqA, qqL, qqD, qqM, ite_self, lstD, show decide ((0 : Int) < ((0 : Nat) : Int)) = false from rfl, zSet]
      exact gives_of (wk_agg (hwk _)) (wkSt_refl _) (by simp only [V.lt]; exact encSet_lt _ _) (hc0 _)
     | cons p r' =>
      have e9' : decide ((0 : Int) < ((r'.length + 1 : Nat) : Int)) = true := decide_eq_true (by omega)
      simp only [bz4, gw2, qqE, ↓reduceIte, qqA, qqL, qqD, qqM, ite_self, lstD, e9', show decide ((3 : Int) = 4) = false from rfl, show decide ((3 : Int) = 2) = false from rfl, show decide ((3 : Int) = 3) = true from rfl, show decide ((3 : Int) = 5) = false from rfl, Bool.not_false, Bool.not_true]
      refine ⟨⟨by omega, by omega⟩, rK_not (.bool true) ?_⟩
      simp only [bz9, gw2, qqE, ↓reduceIte, qqA, qqL, qqD, qqM, ite_self, lstD, zSet]
      exact gives_of (wk_agg (hwk _)) (wkSt_refl _) (by simp only [V.lt]; exact encSet_lt _ _) (hc0 _)
    ·rw [show setB (k, e) 4 (.mk ka na nma sa la kidsa :: .mk kb nb nmb sb lb kidsb :: r) = bif !decide (r.length = 1) then (.mk 4 [] [] [] [] [k], stp e 2) else (.mk 4 [] [] [] (wordW (r.getD 0 zD) e).1 [k], (wordW (r.getD 0 zD) e).2) by
      rw [setB, List.length_cons, List.length_cons, show decide (r.length + 1 + 1 = 3) = decide (r.length = 1) by by_cases h : r.length = 1 <;> simp [h]]; rfl]
     simp only [bz4, gw2, qqE, ↓reduceIte, qqA, qqL, qqD, qqM, ite_self, lstD, show decide ((4 : Int) = 4) = true from rfl, show decide ((4 : Int) = 2) = false from rfl, show decide ((4 : Int) = 3) = false from rfl, show decide ((4 : Int) = 5) = false from rfl, e8 0]
     refine iK_split (fun h3 => ?_) (fun h3 => ?_)
     ·rw [h3, cond_true]
      simp only [bz4, gw2, qqE, ↓reduceIte, qqA, qqL, qqD, qqM, ite_self, lstD]
      refine (x_wstop hb c [.box zSet, mapE V.str (V.int .i64) [(wOnly, 2), (wExcept, 3), (wPrefix, 4), (wRename, 5)], .box [.int .i64 4, .str [], .nils, .nils, .str [], .lst 6 none [encSet k]]] e 2).use (wkL_refl _) fun _ => ?_
      simp only [bz9, gw2, qqE, ↓reduceIte, qqA, qqL, qqD, qqM, ite_self, lstD, zSet]
      exact gives_of (wk_agg (wk3 4 [] [] [] _ _ (wk_nils _) (wk_nils _))) (wkSt_refl _) (by simp only [V.lt]; exact encSet_lt _ _) (hc0 _)
     ·rw [h3, cond_false]
      obtain ⟨p, rfl⟩ : ∃ p, r = [p] := by
       cases r with
       | nil => simp at h3
       | cons p t =>
        cases t with
        | nil => exact ⟨p, rfl⟩
        | cons y z => simp at h3
      simp only [bz4, gw2, qqE, ↓reduceIte, qqA, qqL, qqD, qqM, ite_self, lstD]
      refine ⟨by decide, ?_⟩
      refine (x_wword hb c [.box zSet, mapE V.str (V.int .i64) [(wOnly, 2), (wExcept, 3), (wPrefix, 4), (wRename, 5)], .box [.int .i64 4, .str [], .nils, .nils, .str [], .lst 6 none [encSet k]]] e p).use (wkL_refl _) fun _ => ?_
      have hwk := fun (w : Str) => wk3 4 [] [] w .nils .nils (wk_nils _) (wk_nils _)
      generalize wordW p e = q2
      obtain ⟨w, e9⟩ := q2
      simp only [bz9, gw2, qqE, ↓reduceIte, qqA, qqL, qqD, qqM, ite_self, lstD, show decide ((4 : Int) = 4) = true from rfl, show decide ((4 : Int) = 2) = false from rfl, show decide ((4 : Int) = 3) = false from rfl, show decide ((4 : Int) = 5) = false from rfl]
      refine ⟨by decide, ?_⟩
      refine vfor (σ := Nat) [0, 6, 8, 9, 90, 91, 92] (fun x => [(0, true, .ptr b 0), (6, true, .ptr st.length 0), (8, true, .int .i64 4), (9, true, .ptr (st.length + 2) 0), (90, true, .lst 6 none [encD p]), (91, true, .int .i64 (1 : Nat)), (92, true, .int .i64 0)]) (fun x => st.set b (wE c e9) ++ [.box zSet, mapE V.str (V.int .i64) [(wOnly, 2), (wExcept, 3), (wPrefix, 4), (wRename, 5)], .box [.int .i64 4, .str [], .nils, .nils, .str w, .lst 6 none [encSet k]]]) (fun x => 0) (fun x => x = 0) 0 rfl TT_ok rfl rfl rfl ?_
      rintro x -
      simp only [bz4, gw2, qqE, ↓reduceIte, qqA, qqL, qqD, qqM, ite_self, lstD, show decide ((0 : Int) < ((1 : Nat) : Int)) = true from rfl, show decide ((4 : Int) = 4) = true from rfl, show decide ((4 : Int) = 2) = false from rfl, show decide ((4 : Int) = 3) = false from rfl, show decide ((4 : Int) = 5) = false from rfl, Bool.not_false, Bool.not_true]
      refine ⟨by decide, rK_not (.bool true) ?_⟩
      simp only [bz9, gw2, qqE, ↓reduceIte, qqA, qqL, qqD, qqM, ite_self, lstD, zSet]
      exact gives_of (wk_agg (hwk _)) (wkSt_refl _) (by simp only [V.lt]; exact encSet_lt _ _) (hc0 _)
    ·rw [show setB (k, e) 5 (.mk ka na nma sa la kidsa :: .mk kb nb nmb sb lb kidsb :: r) = (.mk 5 [] (renW r e [] []).1.1 (renW r e [] []).1.2 [] [k], (renW r e [] []).2) from rfl]
     simp only [bz4, gw2, qqE, ↓reduceIte, qqA, qqL, qqD, qqM, ite_self, lstD, show decide ((5 : Int) = 4) = false from rfl, show decide ((5 : Int) = 2) = false from rfl, show decide ((5 : Int) = 3) = false from rfl, show decide ((5 : Int) = 5) = true from rfl]
     refine ⟨⟨by omega, by omega⟩, ?_⟩
     refine vforT (σ := Nat × List Str × List Str × Int) [9, 9] [0, 6, 8, 9, 90, 91, 92] (fun x => [(0, true, .ptr b 0), (6, true, .ptr st.length 0), (8, true, .int .i64 5), (9, true, .ptr (st.length + 2) 0), (90, true, .lst 6 none (r.map encD)), (91, true, .int .i64 r.length), (92, true, .int .i64 x.1)]) (fun x => st.set b (wE c x.2.2.2) ++ [.box zSet, mapE V.str (V.int .i64) [(wOnly, 2), (wExcept, 3), (wPrefix, 4), (wRename, 5)], .box [.int .i64 5, .str [], .lst 1 (some (st.length + 3)) (x.2.1.map fun s => [V.str s]), .lst 1 (some (st.length + 4)) (x.2.2.1.map fun s => [V.str s]), .str [], .lst 6 none [encSet k]], .tip 9 x.2.1.length, .tip 9 x.2.2.1.length]) (fun x => r.length - x.1) (fun x => x.1 ≤ r.length ∧ x.2.1.length ≤ x.1 ∧ x.2.2.1.length ≤ x.1 ∧ renW r e [] [] = renW (r.drop x.1) x.2.2.2 x.2.1 x.2.2.1) (0, [], [], e) rfl TT_ok ⟨Nat.zero_le _, Nat.le_refl _, Nat.le_refl _, rfl⟩ ?_ ?_ ?_
     ·exact wkE_refl _
     ·refine ⟨st.set b (wE c e) ++ [.box zSet, mapE V.str (V.int .i64) [(wOnly, 2), (wExcept, 3), (wPrefix, 4), (wRename, 5)], .box [.int .i64 5, .str [], .lst 1 (some (st.length + 3)) [], .lst 1 (some (st.length + 4)) [], .str [], .lst 6 none [encSet k]]], ?_, by simp only [bz30, bz35, gwL, tips]⟩
      refine (wkSt_refl _).append (wkSt_cons (Ent.wkp_refl _) (wkSt_cons (Ent.wkp_refl _) (wkSt_cons (Ent.wk_box ?_) wkSt_nil)))
      exact wkL_cons (wk_refl _) (wkL_cons (wk_refl _) (wkL_cons (wk_tip _ (by simp [Tips])) (wkL_cons (wk_tip _ (by simp [Tips])) (wkL_cons (wk_refl _) (wkL_cons (wk_refl _) wkL_nil)))))
     rintro ⟨i, ns, az, e9⟩ ⟨hi, hns, haz, hI⟩
     simp only at hi hns haz hI ⊢
     have hok5 : ∀ (ns az : List Str) (e9 : Int), St.ok (st.set b (wE c e9) ++ [.box zSet, mapE V.str (V.int .i64) [(wOnly, 2), (wExcept, 3), (wPrefix, 4), (wRename, 5)], .box [.int .i64 5, .str [], .lst 1 (some (st.length + 3)) (ns.map fun s => [V.str s]), .lst 1 (some (st.length + 4)) (az.map fun s => [V.str s]), .str [], .lst 6 none [encSet k]], .tip 9 ns.length, .tip 9 az.length]) := fun ns az e9 => by
      refine ok_app (hc0 _) ⟨by simp [Ent.lt, ltL, V.lt, zSet], mapE_lt (fun _ => trivial) (fun _ => trivial), ?_, trivial, trivial, trivial⟩
      simp only [Ent.lt, ltL, V.lt, true_and, and_true, wE_len]
      refine ⟨⟨fun e h => (by cases h; simp), ltRows_map fun x _ => ⟨trivial, trivial⟩⟩, ⟨fun e h => (by cases h; simp), ltRows_map fun x _ => ⟨trivial, trivial⟩⟩, fun e h => (by cases h), ?_⟩
      exact ⟨encSet_lt _ _, trivial⟩
     have hlE : ∀ (i : Nat), ltE (st.length + 5) [(0, true, .ptr b 0), (6, true, .ptr st.length 0), (8, true, .int .i64 5), (9, true, .ptr (st.length + 2) 0), (90, true, .lst 6 none (r.map encD)), (91, true, .int .i64 r.length), (92, true, .int .i64 i)] := fun i => by
      have hlr := lstD_lt (st.length + 5) r
      simp only [lstD, V.lt] at hlr
      simp only [ltE, V.lt]
      exact ⟨by omega, by omega, trivial, by omega, hlr, trivial, trivial, trivial⟩
     have hfin : ∀ (i' : Nat) (ns' az' : List Str) (e' : Int) (bx : Ent), i' = i + 1 → i < r.length → ns'.length ≤ i' → az'.length ≤ i' → renW r e [] [] = renW (r.drop i') e' ns' az' → True := fun _ _ _ _ _ _ _ _ _ _ => trivial
     rcases at_or_end r i hi with ⟨rfl, hdd⟩ | ⟨p, hlt, hget, hdr⟩
     ·rw [hI, hdd, show renW [] e9 ns az = ((ns, az), e9) from rfl]
      simp only [bz9, gw2, qqE, ↓reduceIte, qqA, qqL, qqD, qqM, ite_self, lt_no, lstD, zSet]
      exact gives_of (wk_agg (wk3 5 ns az [] _ _ (wk_tok _ _ _) (wk_tok _ _ _))) (wkSt_refl _) (by simp only [V.lt]; exact encSet_lt _ _) (hc0 _)
     ·rw [hdr] at hI
      have hmp : okM p := okMs_mem hmr (List.mem_of_getElem? hget)
      simp only [bz4, gw2, qqE, ↓reduceIte, qqA, qqL, qqD, qqM, ite_self, lt_yes hlt, lstD, getD_map hget, Int.ofNat_lt.mpr hlt, show decide ((5 : Int) = 4) = false from rfl, show decide ((5 : Int) = 2) = false from rfl, show decide ((5 : Int) = 3) = false from rfl, show decide ((5 : Int) = 5) = true from rfl, Bool.not_true, Bool.not_false]
      refine rK_made (x_wgood hb c ([.box zSet, mapE V.str (V.int .i64) [(wOnly, 2), (wExcept, 3), (wPrefix, 4), (wRename, 5)], .box [.int .i64 5, .str [], .lst 1 (some (st.length + 3)) (ns.map fun s => [V.str s]), .lst 1 (some (st.length + 4)) (az.map fun s => [V.str s]), .str [], .lst 6 none [encSet k]], .tip 9 ns.length, .tip 9 az.length] ++ [.box (encD p)]) e9) (wkL_refl _) ?_
      simp only [gw2, qqE, ↓reduceIte, qqA, qqL, qqD, qqM, ite_self]
      refine iK_split (fun h3 => ?_) (fun h3 => ?_)
      ·have h3' : e9 ≠ 0 := by simpa using h3
       rw [hI, renW_no h3']
       simp only [bz9, gw2, qqE, ↓reduceIte, qqA, qqL, qqD, qqM, ite_self, lstD, zSet]
       exact gives_of (wk_agg (wk3 5 ns az [] _ _ (wk_tok _ _ _) (wk_tok _ _ _))) (wkSt_refl _) (by simp only [V.lt]; exact encSet_lt _ _) (hc0 _)
      ·have h3' : e9 = 0 := by simpa using h3
       subst h3'
       rw [renW, show (!decide ((0 : Int) = 0)) = false from rfl, cond_false] at hI
       simp only [bz4, gw2, qqE, ↓reduceIte, qqA, qqL, qqD, qqM, ite_self, lstD]
       refine (x_wneed hb c ([.box zSet, mapE V.str (V.int .i64) [(wOnly, 2), (wExcept, 3), (wPrefix, 4), (wRename, 5)], .box [.int .i64 5, .str [], .lst 1 (some (st.length + 3)) (ns.map fun s => [V.str s]), .lst 1 (some (st.length + 4)) (az.map fun s => [V.str s]), .str [], .lst 6 none [encSet k]], .tip 9 ns.length, .tip 9 az.length] ++ [.box (encD p)]) 0 p 2 (by omega)).use (wkL_refl _) fun _ => ?_
       have hm2 := needW_okM 0 (by omega : 2 ≤ 2000) hmp
       generalize needW 2 p 0 = q3 at hI hm2 ⊢
       obtain ⟨l3, e3⟩ := q3
       simp only [gw2, qqE, ↓reduceIte, qqA, qqL, qqD, qqM, ite_self]
       refine (x_wwords hb c ([.box zSet, mapE V.str (V.int .i64) [(wOnly, 2), (wExcept, 3), (wPrefix, 4), (wRename, 5)], .box [.int .i64 5, .str [], .lst 1 (some (st.length + 3)) (ns.map fun s => [V.str s]), .lst 1 (some (st.length + 4)) (az.map fun s => [V.str s]), .str [], .lst 6 none [encSet k]], .tip 9 ns.length, .tip 9 az.length] ++ [.box (encD p)]) e3 l3 (by have := hm2.2; simp only at this; omega)).use (wkL_refl _) fun _ => ?_
       simp only at hI
       generalize wordsW l3 e3 [] = q4 at hI ⊢
       obtain ⟨tw, e4'⟩ := q4
       simp only at hI ⊢
       have e10 : decide ((tw.length : Int) = 2) = decide (tw.length = 2) := by by_cases h : tw.length = 2 <;> simp [h] <;> omega
       simp only [gw2, qqE, ↓reduceIte, qqA, qqL, qqD, qqM, ite_self, encS, List.length_map, e10]
       have hok6 : ∀ (ns az : List Str) (e9 : Int), St.ok (st.set b (wE c e9) ++ [.box zSet, mapE V.str (V.int .i64) [(wOnly, 2), (wExcept, 3), (wPrefix, 4), (wRename, 5)], .box [.int .i64 5, .str [], .lst 1 (some (st.length + 3)) (ns.map fun s => [V.str s]), .lst 1 (some (st.length + 4)) (az.map fun s => [V.str s]), .str [], .lst 6 none [encSet k]], .tip 9 ns.length, .tip 9 az.length]) := hok5
       refine iK_split (fun h6 => ?_) (fun h6 => ?_)
       ·have hI2 : renW r e [] [] = renW (r.drop (i + 1)) (stp e4' 2) ns az := by
         rw [hI]
         rcases tw with _ | ⟨x, _ | ⟨y, _ | ⟨z, t⟩⟩⟩
         ·rfl
         ·rfl
         ·simp at h6
         ·rfl
        simp only [gw2, qqE, ↓reduceIte, qqA, qqL, qqD, qqM, ite_self]
        refine (x_wstop hb c ([.box zSet, mapE V.str (V.int .i64) [(wOnly, 2), (wExcept, 3), (wPrefix, 4), (wRename, 5)], .box [.int .i64 5, .str [], .lst 1 (some (st.length + 3)) (ns.map fun s => [V.str s]), .lst 1 (some (st.length + 4)) (az.map fun s => [V.str s]), .str [], .lst 6 none [encSet k]], .tip 9 ns.length, .tip 9 az.length] ++ [.box (encD p)]) e4' 2).use (wkL_refl _) fun _ => ?_
        simp only [gw2, qqE, ↓reduceIte, qqA, qqL, qqD, qqM, ite_self]
        refine (x_wgood hb c ([.box zSet, mapE V.str (V.int .i64) [(wOnly, 2), (wExcept, 3), (wPrefix, 4), (wRename, 5)], .box [.int .i64 5, .str [], .lst 1 (some (st.length + 3)) (ns.map fun s => [V.str s]), .lst 1 (some (st.length + 4)) (az.map fun s => [V.str s]), .str [], .lst 6 none [encSet k]], .tip 9 ns.length, .tip 9 az.length] ++ [.box (encD p)]) (stp e4' 2)).use (wkL_refl _) fun _ => ?_
        simp only [gw2, qqE, ↓reduceIte, qqA, qqL, qqD, qqM, ite_self, decide_eq_false (stp_2 e4'), Env.keep, next_i64 hlt (by omega), wE_len]
        refine ⟨(i + 1, ns, az, stp e4' 2), ⟨wkE_refl _, st.set b (wE c (stp e4' 2)) ++ [.box zSet, mapE V.str (V.int .i64) [(wOnly, 2), (wExcept, 3), (wPrefix, 4), (wRename, 5)], .box [.int .i64 5, .str [], .lst 1 (some (st.length + 3)) (ns.map fun s => [V.str s]), .lst 1 (some (st.length + 4)) (az.map fun s => [V.str s]), .str [], .lst 6 none [encSet k]], .tip 9 ns.length, .tip 9 az.length], [.box (encD p)], by simp, wkSt_refl _, ?_, hok6 ns az _, by simp⟩, by dsimp only; omega, hlt, by dsimp only; omega, by dsimp only; omega, hI2⟩
        have := hlE (i + 1)
        simpa using this
       ·obtain ⟨x, y, rfl⟩ : ∃ x y, tw = [x, y] := by
         rcases tw with _ | ⟨x, _ | ⟨y, _ | ⟨z, t⟩⟩⟩
         ·simp at h6
         ·simp at h6
         ·exact ⟨x, y, rfl⟩
         ·simp at h6
        simp only at hI
        simp only [gw2, qqE, ↓reduceIte, qqA, qqL, qqD, qqM, ite_self]
        refine (x_wgood hb c ([.box zSet, mapE V.str (V.int .i64) [(wOnly, 2), (wExcept, 3), (wPrefix, 4), (wRename, 5)], .box [.int .i64 5, .str [], .lst 1 (some (st.length + 3)) (ns.map fun s => [V.str s]), .lst 1 (some (st.length + 4)) (az.map fun s => [V.str s]), .str [], .lst 6 none [encSet k]], .tip 9 ns.length, .tip 9 az.length] ++ [.box (encD p)]) e4').use (wkL_refl _) fun _ => ?_
        simp only [gw2, qqE, ↓reduceIte, qqA, qqL, qqD, qqM, ite_self]
        refine iK_split (fun h7 => ?_) (fun h7 => ?_)
        ·rw [h7, cond_true] at hI
         simp only [gw2, qqE, ↓reduceIte, qqA, qqL, qqD, qqM, ite_self]
         refine vdraw TT_ok TT_mixed [0, 1, 0, 0, 0, 0, 2, 0, 2] (by kernel_rfl) ?_
         simp only [bz4, gw2, qqE, ↓reduceIte, qqA, qqL, qqD, qqM, ite_self, lstD]
         refine ⟨⟨by omega, by omega⟩, by omega, ?_⟩
         refine vdraw TT_ok TT_mixed [0, 1, 0, 0, 0, 0, 2, 0, 2] (by kernel_rfl) ?_
         simp only [bz4, gw2, qqE, ↓reduceIte, qqA, qqL, qqD, qqM, ite_self, lstD]
         refine ⟨⟨by omega, by omega⟩, by omega, ?_⟩
         simp only [gw2, qqE, ↓reduceIte, qqA, qqL, qqD, qqM, ite_self, Env.keep, next_i64 hlt (by omega), wE_len]
         refine ⟨(i + 1, ns ++ [x], az ++ [y], e4'), ⟨wkE_refl _, st.set b (wE c e4') ++ [.box zSet, mapE V.str (V.int .i64) [(wOnly, 2), (wExcept, 3), (wPrefix, 4), (wRename, 5)], .box [.int .i64 5, .str [], .lst 1 (some (st.length + 3)) ((ns ++ [x]).map fun s => [V.str s]), .lst 1 (some (st.length + 4)) ((az ++ [y]).map fun s => [V.str s]), .str [], .lst 6 none [encSet k]], .tip 9 (ns ++ [x]).length, .tip 9 (az ++ [y]).length], [.box (encD p)], by simp, wkSt_refl _, ?_, hok6 _ _ _, by simp⟩, by dsimp only; omega, hlt, by simp; omega, by simp; omega, hI⟩
         have := hlE (i + 1)
         simpa using this
        ·rw [h7, cond_false] at hI
         simp only [gw2, qqE, ↓reduceIte, qqA, qqL, qqD, qqM, ite_self, Env.keep, next_i64 hlt (by omega), wE_len]
         refine ⟨(i + 1, ns, az, e4'), ⟨wkE_refl _, st.set b (wE c e4') ++ [.box zSet, mapE V.str (V.int .i64) [(wOnly, 2), (wExcept, 3), (wPrefix, 4), (wRename, 5)], .box [.int .i64 5, .str [], .lst 1 (some (st.length + 3)) (ns.map fun s => [V.str s]), .lst 1 (some (st.length + 4)) (az.map fun s => [V.str s]), .str [], .lst 6 none [encSet k]], .tip 9 ns.length, .tip 9 az.length], [.box (encD p)], by simp, wkSt_refl _, ?_, hok6 ns az _, by simp⟩, by dsimp only; omega, hlt, by dsimp only; omega, by dsimp only; omega, hI⟩
         have := hlE (i + 1)
         simpa using this
   ·rw [h, cond_false, show decide ((0 : Int) = 0) = true from rfl, cond_true]
    simp only [bz4, gw2, qqE, ↓reduceIte, qqA, qqL, qqD, qqM, ite_self, lstD, show decide ((0 : Int) = 0) = true from rfl]
    refine (x_wname hb c [.box zSet] e2 d hd).use (wkL_refl _) fun _ => ?_
    simp only [bz4, gw2, qqE, ↓reduceIte, qqA, qqL, qqD, qqM, ite_self, zSet, lstD]
    exact gives_of (wk_agg (w1 _)) (wkSt_refl _) (by simp only [V.lt]; exact encSet_lt _ _) (hc0 _)
end Go.Proofs.YtpllcpbhjglpaaaGreatDoor.Gx
open Nat renaming reduceEqDiff → qqE, reduceAdd → qqA, reduceLT → qqL, reduceLeDiff → qqD, reduceMul → qqM
namespace Go.Proofs.YtpllcpbhjglpaaaGreatDoor.Gx
open Go Go.Proofs.YtpllcpbhjglpaaaGreatDoor.Gw
set_option linter.unusedSimpArgs false
set_option linter.unusedVariables false
def cQ (w : Wd) (b : Nat) (o : Lib') : List V := [.lst 2 none (rows2 w.files), encS w.feats, encS w.libs, .str o.name, .lst 2 (some (b + 1)) (rows2 o.exps), .arr (b + 2) o.imps.length, .lst 6 none (o.body.map encD)]
/-- The rows of what is brought out and in, as they lie. -/
def uQ (st : St) (b : Nat) (o : Lib') : St := (st.set (b + 1) (.tip 65 o.exps.length)).set (b + 2) (.arr 69 6 (o.imps.map encSet))
/-- The state with a library as far as it is made. -/
def wQ (st : St) (w : Wd) (b : Nat) (o : Lib') (e : Int) : St := (uQ st b o).set b (wE (cQ w b o) e)
theorem uQ_len (st : St) (b : Nat) (o : Lib') : (uQ st b o).length = st.length := by simp [uQ]
theorem wQ_len (st : St) (w : Wd) (b : Nat) (o : Lib') (e : Int) : (wQ st w b o e).length = st.length := by simp [wQ, uQ]
section
variable {st : St} {b : Nat} (h : b + 2 < st.length) (w : Wd) (o o' : Lib') (e e' : Int) (ex : St)
include h
theorem wQ_app : wQ (st ++ ex) w b o e = wQ st w b o e ++ ex := by
 unfold wQ uQ
 rw [List.set_append_left _ _ (by omega), List.set_append_left _ _ (by simp; omega), List.set_append_left _ _ (by simp; omega)]
theorem wQ_b0 : (wQ st w b o e)[b]? = some (.box [.lst 2 none (rows2 w.files), encS w.feats, encS w.libs, .str o.name, .lst 2 (some (b + 1)) (rows2 o.exps), .arr (b + 2) o.imps.length, .lst 6 none (o.body.map encD), .int .i64 e]) := by
 unfold wQ
 rw [List.getElem?_set_self (by rw [uQ_len]; omega)]; rfl
theorem wQ_20 : (wQ st w b o e)[b + 2]? = some (.arr 69 6 (o.imps.map encSet)) := by
 unfold wQ uQ
 rw [List.getElem?_set_ne (by omega), List.getElem?_set_self (by simp; omega)]
theorem wQ_b : (wQ st w b o e ++ ex)[b]? = some (.box [.lst 2 none (rows2 w.files), encS w.feats, encS w.libs, .str o.name, .lst 2 (some (b + 1)) (rows2 o.exps), .arr (b + 2) o.imps.length, .lst 6 none (o.body.map encD), .int .i64 e]) := left_at (wQ_b0 h w o e)
theorem wQ_2 : (wQ st w b o e ++ ex)[b + 2]? = some (.arr 69 6 (o.imps.map encSet)) := left_at (wQ_20 h w o e)
/-- What is laid in its three places. -/
theorem wQ_put : (((wQ st w b o e).set (b + 1) (.tip 65 o'.exps.length)).set (b + 2) (.arr 69 6 (o'.imps.map encSet))).set b (wE (cQ w b o') e') = wQ st w b o' e' := by
 have _ := h
 unfold wQ uQ
 rw [set_sw _ b (b + 1) _ _ (by omega), set_sw _ (b + 2) (b + 1) _ _ (by omega), List.set_set, set_sw _ b (b + 2) _ _ (by omega), List.set_set, List.set_set]
end
theorem wQ_k (st : St) (w : Wd) (b : Nat) (o : Lib') (e : Int) (ex : St) (k : Nat) : (wQ st w b o e ++ ex)[st.length + k]? = ex[k]? := by
 rw [List.getElem?_append_right (by rw [wQ_len]; omega), wQ_len]; simp
theorem wQ_k0 (st : St) (w : Wd) (b : Nat) (o : Lib') (e : Int) (ex : St) : (wQ st w b o e ++ ex)[st.length]? = ex[0]? := wQ_k st w b o e ex 0
theorem wQ_sk (st : St) (w : Wd) (b : Nat) (o : Lib') (e : Int) (ex : St) (k : Nat) (x : Ent) : (wQ st w b o e ++ ex).set (st.length + k) x = wQ st w b o e ++ ex.set k x := by
 rw [List.set_append_right _ _ (by rw [wQ_len]; omega), wQ_len]; simp
theorem wQ_sk0 (st : St) (w : Wd) (b : Nat) (o : Lib') (e : Int) (ex : St) (x : Ent) : (wQ st w b o e ++ ex).set st.length x = wQ st w b o e ++ ex.set 0 x := wQ_sk st w b o e ex 0 x
theorem wQ_ok {st : St} {w : Wd} {b : Nat} {o : Lib'} {e : Int} (h : b + 2 < st.length) (o' : Lib') (e' : Int) (hs : St.ok (wQ st w b o e)) : St.ok (wQ st w b o' e') := by
 rw [← wQ_put h w o o' e e']
 have hl := wQ_len st w b o e
 have hb : ∀ s : St, s.length = st.length → St.ok s → ∀ (j : Nat) (x : Ent), x.lt st.length → St.ok (s.set j x) := fun s hs1 hs2 j x hx y hy => by
  rw [List.length_set]
  rcases List.mem_or_eq_of_mem_set hy with h' | rfl
  ·exact hs2 y h'
  ·rw [hs1]; exact hx
 refine hb _ (by simp [hl]) (hb _ (by simp [hl]) (hb _ hl hs _ (.tip _ _) trivial) _ (.arr _ 6 (o'.imps.map encSet)) (ltRows_map fun s _ => encSet_lt _ s)) _ _ ?_
 have h2 : (V.lst 2 none (rows2 w.files)).lt st.length := by simp only [V.lt]; exact ⟨fun e h => (by cases h), rows2_lt _ _⟩
 have h3 : (V.lst 2 (some (b + 1)) (rows2 o'.exps)).lt st.length := by simp only [V.lt]; exact ⟨fun e h => (by cases h; omega), rows2_lt _ _⟩
 have h4 : (V.lst 6 none (o'.body.map encD)).lt st.length := by simp only [V.lt]; exact ⟨fun e h => (by cases h), ltRows_map fun d _ => encD_lt _ _⟩
 have h5 : (V.arr (b + 2) o'.imps.length).lt st.length := by simp only [V.lt]; omega
 exact ⟨h2, encS_lt _ _, encS_lt _ _, trivial, h3, h5, h4, trivial, trivial⟩
theorem wQ_body {st : St} {b : Nat} (h : b + 2 < st.length) (w : Wd) (o : Lib') (e : Int) (B : List Datum) (e' : Int) (ex : St) : wQ st w b { o with body := B } e' ++ ex = (wQ st w b o e ++ ex).set b (wE (cQ w b { o with body := B }) e') := by
 rw [List.set_append_left _ _ (by rw [wQ_len]; omega)]
 unfold wQ
 rw [List.set_set]
 rfl
section
variable {st : St} {b : Nat} (hb : b + 2 < st.length) (w : Wd) (o : Lib') (e : Int) (ex : St)
include hb
theorem q_stop (x : Int) : VCalls Tryz.prog TT 25 [.ptr b 0, .int .i64 x] (wQ st w b o e ++ ex) fun r st' => r = .ret (.tup []) ∧ st' = wQ st w b o (stp e x) ++ ex := x_wstop (by rw [uQ_len]; omega) _ _ _ _
theorem q_good : VCalls Tryz.prog TT 23 [.ptr b 0] (wQ st w b o e ++ ex) fun r st' => r = .ret (.bool (decide (e = 0))) ∧ st' = wQ st w b o e ++ ex := x_wgood (by rw [uQ_len]; omega) _ _ _
theorem q_word (d : Datum) : VCalls Tryz.prog TT 22 [.ptr b 0, .agg (encD d)] (wQ st w b o e ++ ex) fun r st' => r = .ret (.str (wordW d e).1) ∧ st' = wQ st w b o (wordW d e).2 ++ ex := x_wword (by rw [uQ_len]; omega) _ _ _ _
theorem q_need (d : Datum) (least : Nat) (hl : least ≤ 3) : VCalls Tryz.prog TT 21 [.ptr b 0, .agg (encD d), .int .i64 least] (wQ st w b o e ++ ex) fun r st' => r = .ret (lstD (needW least d e).1) ∧ st' = wQ st w b o (needW least d e).2 ++ ex := x_wneed (by rw [uQ_len]; omega) _ _ _ _ _ hl
theorem q_words (l : List Datum) (hl : l.length ≤ 1000000) : VCalls Tryz.prog TT 49 [.ptr b 0, lstD l] (wQ st w b o e ++ ex) fun r st' => r = .ret (encS (wordsW l e []).1) ∧ st' = wQ st w b o (wordsW l e []).2 ++ ex := x_wwords (by rw [uQ_len]; omega) _ _ _ _ hl
theorem q_name (d : Datum) (hd : okM d) : VCalls Tryz.prog TT 24 [.ptr b 0, .agg (encD d)] (wQ st w b o e ++ ex) fun r st' => r = .ret (.str (nameW d e).1) ∧ st' = wQ st w b o (nameW d e).2 ++ ex := x_wname (by rw [uQ_len]; omega) _ _ _ _ hd
theorem q_set (d : Datum) (hd : okM d) : VCalls Tryz.prog TT 51 [.ptr b 0, .agg (encD d), .int .i64 1] (wQ st w b o 0 ++ ex) fun r st' => r = .ret (.agg (encSet (setW 12 d).1)) ∧ st' = wQ st w b o (setW 12 d).2 ++ ex := by
 have h := c_wset 12 d 1 (by omega) rfl hd (cQ w b o) (uQ st b o ++ ex) b (by simp [uQ_len]; omega)
 rwa [List.set_append_left _ _ (by rw [uQ_len]; omega), List.set_append_left _ _ (by rw [uQ_len]; omega)] at h
end
theorem stp_x {x : Int} (hx : x ≠ 0) (e : Int) : stp e x ≠ 0 := by
 unfold stp
 cases h : decide (e = 0) with
 | true => exact hx
 | false => exact of_decide_eq_false h
theorem stp_5 (e : Int) : stp e 5 ≠ 0 := stp_x (by decide) e
def bodyW (l : List Datum) (o : Lib') (e : Int) : Lib' × Int :=
 bif decide ((bif decide (200 < l.length + o.body.length) then stp e 5 else e) = 0) then ({ o with body := o.body ++ l }, 0)
 else (o, bif decide (200 < l.length + o.body.length) then stp e 5 else e)
theorem c_wbody (w : Wd) (l : List Datum) (o : Lib') (e : Int) (ho : e = 0 → o.body.length ≤ 200) (hob : o.body.length ≤ 1000000) (hl : l.length ≤ 1000000) (st : St) (b : Nat) (hb : b + 2 < st.length) (ex : St) :
  VCalls Tryz.prog TT 52 [.ptr b 0, lstD l] (wQ st w b o e ++ ex) fun r st' => r = .ret (.tup []) ∧ st' = wQ st w b (bodyW l o e).1 (bodyW l o e).2 ++ ex := by
 refine vfun TT_ok (an := anL [(19, 1)]) (L := [0, 1]) (rs := []) Tryz.func52 rfl (by kernel_rfl) rfl Tryz.ntmps52 rfl rfl (by simp [wQ_len]) fun hst ha hf => ?_
 have hE : ∀ o' e', St.ok (wQ st w b o' e' ++ ex) := fun o' e' => by
  intro x hx
  have h0 : St.ok (wQ (st ++ ex) w b o' e') := wQ_ok (o := o) (e := e) (by simp; omega) o' e' (by rw [wQ_app hb]; exact hst)
  rw [wQ_app hb] at h0
  exact h0 x hx
 have e1 : IntKind.i64.wrap ((l.length : Int) + (o.body.length : Int)) = ((l.length + o.body.length : Nat) : Int) := by rw [wrap_i64 (by omega) (by omega)]; omega
 have e2 : decide ((200 : Int) < ((l.length + o.body.length : Nat) : Int)) = decide (200 < l.length + o.body.length) := by by_cases h : 200 < l.length + o.body.length <;> simp [h] <;> omega
 simp only [gw2, qqE, ↓reduceIte, qqA, qqL, qqD, qqM, ite_self, lstD, wQ_b hb, List.length_map, e1, e2]
 simp only [bodyW]
 have hgo : ∀ e3, e3 = (bif decide (200 < l.length + o.body.length) then stp e 5 else e) → True := fun _ _ => trivial
 refine iK_split (fun h => ?_) (fun h => ?_)
 ·rw [h, cond_true]
  simp only [gw2, qqE, ↓reduceIte, qqA, qqL, qqD, qqM, ite_self]
  refine (q_stop hb w o e ex 5).use (wkL_refl _) fun _ => ?_
  simp only [gw2, qqE, ↓reduceIte, qqA, qqL, qqD, qqM, ite_self]
  refine (q_good hb w o (stp e 5) ex).use (wkL_refl _) fun _ => ?_
  simp only [gw2, qqE, ↓reduceIte, qqA, qqL, qqD, qqM, ite_self, decide_eq_false (stp_5 e)]
  exact gives_self trivial (hE _ _)
 ·rw [h, cond_false]
  simp only [gw2, qqE, ↓reduceIte, qqA, qqL, qqD, qqM, ite_self]
  refine (q_good hb w o e ex).use (wkL_refl _) fun _ => ?_
  simp only [gw2, qqE, ↓reduceIte, qqA, qqL, qqD, qqM, ite_self]
  refine iK_split (fun h3 => ?_) (fun h3 => ?_)
  ·rw [h3, cond_true]
   obtain rfl := of_decide_eq_true h3
   have ho' := ho rfl
   simp only [gw2, qqE, ↓reduceIte, qqA, qqL, qqD, qqM, ite_self, lstD, wQ_b hb, wQ_len, List.length_map, wQ_k, wQ_sk]
   refine ⟨by omega, by omega, ?_⟩
   rw [← List.append_assoc, List.set_append_left _ _ (by simp [wQ_len]; omega)]
   refine gives_of (wk_refl _) ?_ trivial (hE _ _)
   rw [wQ_body hb w o 0 (o.body ++ l) 0 ex]
   refine (wkSt_refl _).set (Ent.wk_box ?_)
   simp only [bz29, cQ, List.map_append]
   exact wkL_cons (wk_refl _) (wkL_cons (wk_refl _) (wkL_cons (wk_refl _) (wkL_cons (wk_refl _) (wkL_cons (wk_refl _) (wkL_cons (wk_refl _) (wkL_cons (wk_tok _ _ _) (wkL_cons (wk_refl _) wkL_nil)))))))
  ·rw [h3, cond_false]
   simp only [gw2, qqE, ↓reduceIte, qqA, qqL, qqD, qqM, ite_self]
   exact gives_self trivial (hE _ _)
theorem c_win (l : List Str) (s : Str) (st : St) : VCalls Tryz.prog TT 71 [encS l, .str s] st fun r st' => r = .ret (.bool (decide (s ∈ l))) ∧ st' = st := by
 refine vfun TT_ok (an := anL []) (L := [0, 1, 4, 6, 7, 8, 9]) (rs := [.tmp 4]) Tryz.func71 rfl (by kernel_rfl) rfl Tryz.ntmps71 rfl rfl (Nat.le_refl _) fun hst ha hf => ?_
 have hll : l.length ≤ 9223372036854775807 := by
  simp only [fitL, V.fit, encS, List.length_map] at hf; omega
 simp only [gw0, qqE, ↓reduceIte, qqA, qqL, qqD, qqM, encS, List.length_map]
 refine vfor (σ := Nat) [0, 1, 4, 7, 8, 9] (fun x => [(0, true, encS l), (1, true, .str s), (4, true, .bool false), (7, true, encS l), (8, true, .int .i64 l.length), (9, true, .int .i64 x)]) (fun x => st) (fun x => l.length - x) (fun x => x ≤ l.length ∧ (s ∈ l ↔ s ∈ l.drop x)) 0 rfl TT_ok ⟨Nat.zero_le _, Iff.rfl⟩ rfl rfl ?_
 rintro i ⟨hi, hI⟩
 rcases at_or_end l i hi with ⟨rfl, hd⟩ | ⟨a, hlt, hget, hdr⟩
 ·rw [hd] at hI
  simp only [gw0, qqE, ↓reduceIte, qqA, qqL, qqD, qqM, lt_no, encS]
  exact gives_bool (by simp [hI]) hst
 ·rw [hdr] at hI
  simp only [gw0, qqE, ↓reduceIte, qqA, qqL, qqD, qqM, lt_yes hlt, encS, List.length_map, getD_map hget, Int.ofNat_lt.mpr hlt]
  refine iK_split (fun h => ?_) (fun h => ?_)
  ·simp only [gw0, qqE, ↓reduceIte, qqA, qqL, qqD, qqM]
   have : a = s := by simpa using h
   exact gives_bool (by rw [decide_eq_true]; exact hI.2 (by simp [this])) hst
  ·have hne : a ≠ s := by simpa using h
   simp only [gw0, qqE, ↓reduceIte, qqA, qqL, qqD, qqM, Env.keep, next_i64 hlt hll]
   exact ⟨i + 1, rfl, by omega, hlt, by rw [hI]; simp [Ne.symm hne]⟩
mutual
/-- Whether a requirement holds, as the document tells it; and what it says where something is wrong. -/
def holdsW (w : Wd) : Datum → Bool × Int
 | .mk k _ nm _ _ kids => bif decide (k = 3) then (decide (nm ∈ w.feats), 0)
  else bif !decide (k = 4) then (false, 2)
  else match kids with
   | [] => (false, 2)
   | h :: t => bif !decide ((symP h).2 = 0) then (false, (symP h).2)
    else bif decide ((symP h).1 = wAnd) || decide ((symP h).1 = wOr) then holdsWL w (decide ((symP h).1 = wAnd)) t
    else bif !decide ((symP h).1 = wNot) && !decide ((symP h).1 = wLibrary) then (false, 2)
    else match t with
     | [x] => bif decide ((symP h).1 = wNot) then (!(holdsW w x).1, (holdsW w x).2) else (decide ((nameW x 0).1 ∈ w.libs), (nameW x 0).2)
     | _ => (false, 2)
def holdsWL (w : Wd) (b : Bool) : List Datum → Bool × Int
 | [] => (b, 0)
 | d :: r => bif !decide ((holdsW w d).2 = 0) || (holdsW w d).1 != b then holdsW w d else holdsWL w b r
end
theorem holdsW_nil (w : Wd) (k n : Int) (nm : Str) (s l : Int) : holdsW w (.mk k n nm s l []) = bif decide (k = 3) then (decide (nm ∈ w.feats), 0) else (false, 2) := by
 rw [holdsW]
 cases decide (k = 3) <;> cases decide (k = 4) <;> rfl
theorem holdsW_eq (w : Wd) (k n : Int) (nm : Str) (s l : Int) (h : Datum) (t : List Datum) : holdsW w (.mk k n nm s l (h :: t)) = bif decide (k = 3) then (decide (nm ∈ w.feats), 0)
  else bif !decide (k = 4) then (false, 2)
  else bif !decide ((symP h).2 = 0) then (false, (symP h).2)
    else bif decide ((symP h).1 = wAnd) || decide ((symP h).1 = wOr) then holdsWL w (decide ((symP h).1 = wAnd)) t
    else bif !decide ((symP h).1 = wNot) && !decide ((symP h).1 = wLibrary) then (false, 2)
    else match t with
     | [x] => bif decide ((symP h).1 = wNot) then (!(holdsW w x).1, (holdsW w x).2) else (decide ((nameW x 0).1 ∈ w.libs), (nameW x 0).2)
     | _ => (false, 2) := by
 rcases t with _ | ⟨x, _ | ⟨y, z⟩⟩ <;> rw [holdsW] <;> simp
theorem holdsWL_cons (w : Wd) (b : Bool) (d : Datum) (r : List Datum) : holdsWL w b (d :: r) = bif !decide ((holdsW w d).2 = 0) || (holdsW w d).1 != b then holdsW w d else holdsWL w b r := by rw [holdsWL]
theorem wAndOr {s : Str} (h : s = wAnd) : s ≠ wOr := by rw [h]; decide
mutual
theorem holdsW_0 (w : Wd) : ∀ d : Datum, (holdsW w d).2 = (holdsD w d).2 ∧ ((holdsD w d).2 = 0 → (holdsW w d).1 = (holdsD w d).1)
 | .mk k n nm s l [] => by
  rw [holdsW_nil, holdsD_nil]
  cases decide (k = 3) with
  | true => exact ⟨rfl, fun _ => rfl⟩
  | false => exact ⟨rfl, fun h => absurd h (show (2 : Int) ≠ 0 by decide)⟩
 | .mk k n nm s l (h :: t) => by
  rw [holdsW_eq, holdsD_eq]
  cases decide (k = 3) with
  | true => exact ⟨rfl, fun _ => rfl⟩
  | false =>
   simp only [cond_false]
   cases !decide (k = 4) with
   | true => exact ⟨rfl, fun h => absurd h (show (2 : Int) ≠ 0 by decide)⟩
   | false =>
    simp only [cond_false]
    cases h1 : !decide ((symP h).2 = 0) with
    | true => exact ⟨rfl, fun h2 => by simp only [cond_true] at h2; rw [h2] at h1; simp at h1⟩
    | false =>
     simp only [cond_false]
     by_cases hL : (symP h).1 = wLibrary
     ·rw [hL, show decide (wLibrary = wAnd) = false by decide, show decide (wLibrary = wOr) = false by decide, show decide (wLibrary = wNot) = false by decide, decide_eq_true (rfl : wLibrary = wLibrary)]
      simp only [cond_true, cond_false, Bool.or_false, Bool.not_true, Bool.and_false]
      rcases t with _ | ⟨x, _ | ⟨y, z⟩⟩
      ·exact ⟨rfl, fun h => absurd h (show (2 : Int) ≠ 0 by decide)⟩
      ·simp only
       obtain ⟨q1, q2⟩ := nameW_0 x
       by_cases h3 : (calledP x).2 = 0
       ·rw [thenE_ok h3, q2 h3]; exact ⟨q1.trans h3, fun _ => rfl⟩
       ·rw [thenE_bad h3]; exact ⟨q1, fun h => absurd h h3⟩
      ·exact ⟨rfl, fun h => absurd h (show (2 : Int) ≠ 0 by decide)⟩
     ·rw [decide_eq_false hL]
      simp only [cond_false]
      cases h2 : decide ((symP h).1 = wAnd) || decide ((symP h).1 = wOr) with
      | true =>
       simp only [cond_true]
       have hbo : decide ((symP h).1 = wOr) = !decide ((symP h).1 = wAnd) := by
        by_cases hA : (symP h).1 = wAnd
        ·rw [decide_eq_true hA, decide_eq_false (wAndOr hA)]; rfl
        ·rw [decide_eq_false hA, Bool.false_or] at h2; rw [decide_eq_false hA, h2]; rfl
       rw [hbo]
       exact holdsWL_0 w _ t
      | false =>
       simp only [cond_false, Bool.not_false, Bool.and_true]
       by_cases hN : (symP h).1 = wNot
       ·rw [decide_eq_true hN]
        simp only [Bool.not_true, cond_false, cond_true]
        rcases t with _ | ⟨x, _ | ⟨y, z⟩⟩
        ·exact ⟨rfl, fun h => absurd h (show (2 : Int) ≠ 0 by decide)⟩
        ·obtain ⟨q1, q2⟩ := holdsW_0 w x
         exact ⟨q1, fun h => by simp only at h ⊢; rw [q2 h]⟩
        ·exact ⟨rfl, fun h => absurd h (show (2 : Int) ≠ 0 by decide)⟩
       ·rw [decide_eq_false hN]
        exact ⟨rfl, fun h => absurd h (show (2 : Int) ≠ 0 by decide)⟩
theorem holdsWL_0 (w : Wd) (b : Bool) : ∀ t : List Datum, (holdsWL w b t).2 = (holdsL w (!b) t).2 ∧ ((holdsL w (!b) t).2 = 0 → (holdsWL w b t).1 = (holdsL w (!b) t).1)
 | [] => by simp [holdsWL, holdsL]
 | d :: r => by
  rw [holdsWL_cons, holdsL_cons]
  obtain ⟨q1, q2⟩ := holdsW_0 w d
  rw [q1]
  by_cases h : (holdsD w d).2 = 0
  ·rw [decide_eq_true h, q2 h]
   simp only [Bool.not_true, Bool.false_or, cond_false]
   cases hb : (holdsD w d).1 != b with
   | true =>
    have : (holdsD w d).1 = !b := by simp only [bne_iff_ne, ne_eq] at hb; revert hb; cases (holdsD w d).1 <;> cases b <;> simp
    rw [this, decide_eq_true rfl]
    simp only [cond_true]
    exact ⟨q1.trans h, fun _ => by rw [q2 h, this]⟩
   | false =>
    have : (holdsD w d).1 ≠ !b := by simp only [bne_eq_false_iff_eq] at hb; rw [hb]; cases b <;> simp
    rw [decide_eq_false this]
    simp only [cond_false]
    exact holdsWL_0 w b r
  ·rw [decide_eq_false h]
   simp only [Bool.not_false, Bool.true_or, cond_true]
   exact ⟨q1, fun h2 => absurd h2 h⟩
end
end Go.Proofs.YtpllcpbhjglpaaaGreatDoor.Gx
namespace Go.Proofs.YtpllcpbhjglpaaaGreatDoor.Gx
open Go Go.Proofs.YtpllcpbhjglpaaaGreatDoor.Gw
open Nat renaming reduceEqDiff → qqE, reduceAdd → qqA, reduceLT → qqL, reduceLeDiff → qqD, reduceMul → qqM
set_option linter.unusedSimpArgs false
set_option linter.unusedVariables false
theorem wQ_okX {st : St} {w : Wd} {b : Nat} {o : Lib'} {e : Int} {ex : St} (hb : b + 2 < st.length) (o' : Lib') (e' : Int) (hst : St.ok (wQ st w b o e ++ ex)) : St.ok (wQ st w b o' e' ++ ex) := by
 rw [← wQ_app hb] at hst ⊢
 exact wQ_ok (by simp; omega) o' e' hst
theorem bz26 : type_of% @Bool.not_false ∧ (decide ((2 : Int) = 0) = false) := ⟨@Bool.not_false, rfl⟩
theorem bz14 : type_of% @List.drop_succ_cons.{0} ∧ type_of% @List.drop_zero.{0} ∧ type_of% @List.getD_cons_succ.{0} ∧ type_of% @List.getD_cons_zero.{0} ∧ type_of% @List.length_cons.{0} ∧ type_of% @List.length_map.{0,0} ∧ type_of% @List.length_nil.{0} ∧ type_of% @List.map_cons.{0,0} ∧ type_of% @List.map_nil.{0,0} ∧ type_of% @Nat.le_refl ∧ type_of% @encD_drop ∧ type_of% @encD_len ∧ type_of% @encD_take ∧ (Int.toNat 0 = 0) ∧ (Int.toNat 1 = 1) := ⟨@List.drop_succ_cons.{0}, @List.drop_zero.{0}, @List.getD_cons_succ.{0}, @List.getD_cons_zero.{0}, @List.length_cons.{0}, @List.length_map.{0,0}, @List.length_nil.{0}, @List.map_cons.{0,0}, @List.map_nil.{0,0}, @Nat.le_refl, @encD_drop, @encD_len, @encD_take, rfl, rfl⟩
set_option maxHeartbeats 4000000 in
theorem c_wholds (w : Wd) (o : Lib') (b : Nat) : ∀ (N : Nat) (d : Datum), SizeOf.sizeOf d < N → okM d → ∀ (st : St) (ex : St), b + 2 < st.length →
  VCalls Tryz.prog TT 54 [.ptr b 0, .agg (encD d)] (wQ st w b o 0 ++ ex) fun r st' => r = .ret (.bool (holdsW w d).1) ∧ st' = wQ st w b o (holdsW w d).2 ++ ex
 | 0, d, hsz, hd, st, ex, hb => by omega
 | N + 1, .mk k n nm sk sl kids, hsz, hd, st, ex, hb => by
  refine vfun TT_ok (an := anL [(3, 1)]) (L := [0, 1, 3, 4, 5, 6, 7, 9, 10, 40, 41, 42]) (rs := [.tmp 4]) Tryz.func54 rfl (by kernel_rfl) rfl Tryz.ntmps54 rfl rfl (by simp [wQ_len]) fun hst ha hf => ?_
  have hE := fun e' => wQ_okX hb o e' hst
  have hkids : k = 4 → kids.length ≤ 2000 ∧ okMs kids := by rw [okM] at hd; exact hd.2
  simp only [bz24, gw2, qqE, ↓reduceIte, qqA, qqL, qqD, qqM, ite_self, encD_mk]
  refine iK_split (fun h => ?_) (fun h => ?_)
  ·have hv : holdsW w (.mk k n nm sk sl kids) = (decide (nm ∈ w.feats), 0) := by cases kids <;> simp only [holdsW_nil, holdsW_eq, h, cond_true]
   rw [hv]
   simp only [gw2, qqE, ↓reduceIte, qqA, qqL, qqD, qqM, ite_self]
   refine vdraw TT_ok TT_mixed [0, 0, 0, 0, 1, 0, 0, 0, 0] (by kernel_rfl) ?_
   simp only [gw2, qqE, ↓reduceIte, qqA, qqL, qqD, qqM, ite_self, wQ_b hb]
   refine eK_free (fun s => c_win w.feats nm s) (wkL_refl _) ?_
   simp only [gw2, qqE, ↓reduceIte, qqA, qqL, qqD, qqM, ite_self]
   exact gives_self trivial (hE _)
  simp only [bz24, gw2, qqE, ↓reduceIte, qqA, qqL, qqD, qqM, ite_self, encD_mk]
  refine (q_need hb w o 0 ex (.mk k n nm sk sl kids) 1 (by omega)).use (by rw [encD_mk]; exact wkL_refl _) fun _ => ?_
  have hbad : (listP 1 (.mk k n nm sk sl kids)).2 ≠ 0 → holdsW w (.mk k n nm sk sl kids) = (false, 2) := by
   simp only [listP]
   intro h2
   cases kids with
   | nil => rw [holdsW_nil, h, cond_false]
   | cons x t =>
    rw [holdsW_eq, h, cond_false]
    cases h4 : decide (k = 4) with
    | false => rfl
    | true => rw [h4] at h2; simp at h2
  have hn0 := needW_0 1 (.mk k n nm sk sl kids)
  by_cases hl : (listP 1 (.mk k n nm sk sl kids)).2 = 0
  rotate_left
  ·rw [hbad hl]
   have h2 : (listP 1 (.mk k n nm sk sl kids)).2 = 2 := by
    simp only [listP] at hl ⊢
    cases e : !decide (k = 4) || decide (kids.length < 1) with
    | true => rfl
    | false => rw [e] at hl; exact absurd rfl hl
   rw [show needW 1 (.mk k n nm sk sl kids) 0 = ([zD], 2) from Prod.ext (needW_bad hl) (hn0.1.trans h2)]
   simp only [bz14, gw2, qqE, ↓reduceIte, qqA, qqL, qqD, qqM, ite_self, lstD]
   refine ⟨⟨by omega, by decide⟩, ?_⟩
   refine (q_word hb w o 2 ex zD).use (wkL_refl _) fun _ => ?_
   rw [show wordW zD 2 = ([], 2) from rfl]
   simp only [gw2, qqE, ↓reduceIte, qqA, qqL, qqD, qqM, ite_self]
   refine (q_good hb w o 2 ex).use (wkL_refl _) fun _ => ?_
   simp only [bz26, gw2, qqE, ↓reduceIte, qqA, qqL, qqD, qqM, ite_self]
   exact gives_self trivial (hE _)
  have hk4 : k = 4 ∧ kids ≠ [] ∧ (listP 1 (.mk k n nm sk sl kids)).1 = kids := by
   simp only [listP] at hl ⊢
   cases e : !decide (k = 4) || decide (kids.length < 1) with
   | true => rw [e] at hl; simp at hl
   | false =>
    simp only [Bool.or_eq_false_iff, Bool.not_eq_false', decide_eq_true_eq, decide_eq_false_iff_not] at e
    exact ⟨e.1, fun h => by rw [h] at e; simp at e, rfl⟩
  obtain ⟨hk4, hne, hkk⟩ := hk4
  obtain ⟨hkl, hks⟩ := hkids hk4
  rw [show needW 1 (.mk k n nm sk sl kids) 0 = (kids, 0) from Prod.ext ((hn0.2 hl).trans hkk) (hn0.1.trans hl)]
  cases kids with
  | nil => exact absurd rfl hne
  | cons hh t =>
   have hkl2 : t.length + 1 ≤ 2000 := hkl
   have hG := holdsW_eq w k n nm sk sl hh t
   rw [h, decide_eq_true hk4, Bool.not_true, cond_false, cond_false] at hG
   generalize holdsW w (.mk k n nm sk sl (hh :: t)) = G at hG
   have hrec : ∀ x ∈ t, ∀ (st : St) (ex : St), b + 2 < st.length → VCalls Tryz.prog TT 54 [.ptr b 0, .agg (encD x)] (wQ st w b o 0 ++ ex) fun r st' => r = .ret (.bool (holdsW w x).1) ∧ st' = wQ st w b o (holdsW w x).2 ++ ex := fun x hx st ex hb => by
    have g1 := size_mem hx
    have g2 := size_kids k n nm sk sl (hh :: t)
    have g3 : SizeOf.sizeOf t < SizeOf.sizeOf (hh :: t) := by simp; omega
    exact c_wholds w o b N x (by omega) (okMs_mem hks (by simp [hx])) st ex hb
   simp only [bz14, gw2, qqE, ↓reduceIte, qqA, qqL, qqD, qqM, ite_self, lstD]
   refine ⟨⟨by omega, by omega⟩, ?_⟩
   refine (q_word hb w o 0 ex hh).use (wkL_refl _) fun _ => ?_
   rw [wordW_0]
   simp only [gw2, qqE, ↓reduceIte, qqA, qqL, qqD, qqM, ite_self]
   refine (q_good hb w o _ ex).use (wkL_refl _) fun _ => ?_
   simp only [gw2, qqE, ↓reduceIte, qqA, qqL, qqD, qqM, ite_self]
   refine iK_split (fun h1 => ?_) (fun h1 => ?_)
   ·rw [h1, cond_true] at hG
    simp only [gw2, qqE, ↓reduceIte, qqA, qqL, qqD, qqM, ite_self]
    rw [hG]
    exact gives_self trivial (hE _)
   rw [h1, cond_false] at hG
   have h1' : (symP hh).2 = 0 := by simpa using h1
   rw [h1']
   generalize (symP hh).1 = wd at hG
   simp only [gw2, qqE, ↓reduceIte, qqA, qqL, qqD, qqM, ite_self]
   refine iK_split (fun h2 => ?_) (fun h2 => ?_)
   ·rw [show (decide (wd = wAnd) || decide (wd = wOr)) = true from h2, cond_true] at hG
    simp only [bz14, gw2, qqE, ↓reduceIte, qqA, qqL, qqD, qqM, ite_self, lstD]
    refine ⟨⟨by omega, by omega⟩, ?_⟩
    refine vforD (σ := Nat) [0, 7, 40, 41, 42] (fun i => [(0, true, .ptr b 0), (7, true, .str wd), (40, true, lstD t), (41, true, .int .i64 t.length), (42, true, .int .i64 i)]) (fun i => wQ st w b o 0 ++ ex) (fun i => t.length - i) (fun i => i ≤ t.length ∧ holdsWL w (decide (wd = wAnd)) t = holdsWL w (decide (wd = wAnd)) (t.drop i)) 0 rfl TT_ok ⟨Nat.zero_le _, rfl⟩ (wkE_refl _) rfl ?_
    rintro i ⟨hi, hI⟩
    rw [hI] at hG
    rcases at_or_end t i hi with ⟨rfl, hdd⟩ | ⟨a, hlt, hget, hdr⟩
    ·rw [hdd, holdsWL] at hG
     simp only [gw2, qqE, ↓reduceIte, qqA, qqL, qqD, qqM, ite_self, lt_no, lstD]
     rw [hG]
     exact gives_self trivial (hE _)
    ·rw [hdr, holdsWL_cons] at hG
     simp only [bz25, gw2, qqE, ↓reduceIte, qqA, qqL, qqD, qqM, ite_self, lt_yes hlt, lstD, getD_map hget, Int.ofNat_lt.mpr hlt, wQ_len, wQ_k, wQ_sk]
     have hx := hrec a (List.mem_of_getElem? hget) st (ex ++ [.box (encD a)]) hb
     refine hx.use (wkL_refl _) fun _ => ?_
     simp only [gw2, qqE, ↓reduceIte, qqA, qqL, qqD, qqM, ite_self]
     refine (q_good hb w o _ (ex ++ [.box (encD a)])).use (wkL_refl _) fun _ => ?_
     simp only [gw2, qqE, ↓reduceIte, qqA, qqL, qqD, qqM, ite_self]
     refine iK_split (fun h4 => ?_) (fun h4 => ?_)
     ·rw [show (!decide ((holdsW w a).2 = 0) || (holdsW w a).1 != decide (wd = wAnd)) = true from h4, cond_true] at hG
      simp only [gw2, qqE, ↓reduceIte, qqA, qqL, qqD, qqM, ite_self]
      rw [hG, ← List.append_assoc]
      exact gives_of (wk_refl _) (wkSt_refl _) trivial (hE _)
     ·rw [show (!decide ((holdsW w a).2 = 0) || (holdsW w a).1 != decide (wd = wAnd)) = false from h4, cond_false] at hG
      have h5 : (holdsW w a).2 = 0 := by
       have := (Bool.or_eq_false_iff.1 h4).1
       simpa using this
      rw [h5]
      simp only [gw2, qqE, ↓reduceIte, qqA, qqL, qqD, qqM, ite_self, Env.keep, next_i64 hlt (by omega)]
      refine ⟨i + 1, ⟨wkE_refl _, wQ st w b o 0 ++ ex, [.box (encD a)], by simp, wkSt_refl _, ?_, hE _, by simp [wQ_len]⟩, by omega, hlt, ?_⟩
      ·have q3 := lstD_lt (wQ st w b o 0 ++ ex).length t
       simp only [lstD, V.lt] at q3
       simp only [ltE, V.lt]
       exact ⟨by simp [wQ_len]; omega, trivial, q3, trivial, trivial, trivial⟩
      ·rw [hI, hdr, holdsWL_cons, show (!decide ((holdsW w a).2 = 0) || (holdsW w a).1 != decide (wd = wAnd)) = false from h4]; rfl
   ·rw [show (decide (wd = wAnd) || decide (wd = wOr)) = false from h2, cond_false] at hG
    simp only [bz14, gw2, qqE, ↓reduceIte, qqA, qqL, qqD, qqM, ite_self, lstD]
    have e2 : decide (((t.length + 1 : Nat) : Int) = 2) = decide (t.length = 1) := by by_cases h : t.length = 1 <;> simp [h] <;> omega
    rw [e2]
    refine iK_split (fun h3 => ?_) (fun h3 => ?_)
    ·have hv : G = (false, 2) := by
      rw [hG]
      cases h4 : !decide (wd = wNot) && !decide (wd = wLibrary) with
      | true => rfl
      | false =>
       rw [show (!decide (wd = wNot) && !decide (wd = wLibrary)) = (!decide (wd = [110, 111, 116]) && !decide (wd = [108, 105, 98, 114, 97, 114, 121])) from rfl] at h4
       rw [h4] at h3
       rcases t with _ | ⟨x, _ | ⟨y, z⟩⟩
       ·rfl
       ·simp at h3
       ·rfl
     simp only [gw2, qqE, ↓reduceIte, qqA, qqL, qqD, qqM, ite_self]
     refine (q_stop hb w o 0 ex 2).use (wkL_refl _) fun _ => ?_
     simp only [gw2, qqE, ↓reduceIte, qqA, qqL, qqD, qqM, ite_self]
     rw [hv]
     exact gives_self trivial (hE _)
    ·obtain ⟨h4, h5⟩ := Bool.or_eq_false_iff.1 h3
     rw [show (!decide (wd = wNot) && !decide (wd = wLibrary)) = false from h4, cond_false] at hG
     obtain ⟨x, rfl⟩ : ∃ x, t = [x] := by
      rcases t with _ | ⟨x, _ | ⟨y, z⟩⟩
      ·simp at h5
      ·exact ⟨x, rfl⟩
      ·simp at h5
     simp only at hG
     have hmx : okM x := okMs_mem hks (by simp)
     simp only [bz14, gw2, qqE, ↓reduceIte, qqA, qqL, qqD, qqM, ite_self, lstD]
     refine iK_split (fun h6 => ?_) (fun h6 => ?_)
     ·rw [show decide (wd = wNot) = true from h6, cond_true] at hG
      simp only [bz14, gw2, qqE, ↓reduceIte, qqA, qqL, qqD, qqM, ite_self, lstD]
      refine ⟨⟨by omega, by decide⟩, ?_⟩
      refine (hrec x (by simp) st ex hb).use (wkL_refl _) fun _ => ?_
      simp only [gw2, qqE, ↓reduceIte, qqA, qqL, qqD, qqM, ite_self]
      rw [hG]
      exact gives_self trivial (hE _)
     ·rw [show decide (wd = wNot) = false from h6, cond_false] at hG
      simp only [gw2, qqE, ↓reduceIte, qqA, qqL, qqD, qqM, ite_self]
      have hN := q_name hb w o 0 ex x hmx
      refine vstage TT_ok TT_mixed (σ := Unit) [wQ st w b o 0 ++ ex, wQ st w b o (nameW x 0).2 ++ ex] [0, 0, 0, 0, 3, 0, 0, 0, 0, 4, 0, 0] [0,1,2,3,4,5,6,7,8,9,10,11] [] [] 1000 1001 [4] (fun _x => [(4, true, .bool (decide ((nameW x 0).1 ∈ w.libs)))]) (fun _x => wQ st w b o (nameW x 0).2 ++ ex) (fun _x => True) rfl (by kernel_rfl) ?_ ?_
      ·simp only [bz14, gw2, qqE, ↓reduceIte, qqA, qqL, qqD, qqM, ite_self, wQ_b hb, lstD]
       refine ⟨⟨by omega, by decide⟩, eK3_loud hN (wkL_refl _) (by simp) (by simp) ?_⟩
       simp only [gw2, qqE, ↓reduceIte, qqA, qqL, qqD, qqM, ite_self]
       refine eK3_free (fun s => c_win w.libs (nameW x 0).1 s) (wkL_refl _) ?_
       simp only [gw2, qqE, ↓reduceIte, qqA, qqL, qqD, qqM, ite_self]
       refine stage2_of ?_ ?_
       ·simp only [gw2, qqE, ↓reduceIte, qqA, qqL, qqD, qqM, ite_self]
        exact ⟨rfl, rfl, (), rfl, rfl, trivial⟩
       ·simp only [gw2, qqE, ↓reduceIte, qqA, qqL, qqD, qqM, ite_self]
        exact ⟨rfl, rfl, (), rfl, rfl, trivial⟩
      ·rintro - -
       simp only [gw2, qqE, ↓reduceIte, qqA, qqL, qqD, qqM, ite_self]
       rw [hG]
       exact gives_self trivial (hE _)
end Go.Proofs.YtpllcpbhjglpaaaGreatDoor.Gx
