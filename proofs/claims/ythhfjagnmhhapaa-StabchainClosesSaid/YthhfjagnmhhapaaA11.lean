
import Derived.Test.YthhfjagnmhhapaaA01
import Derived.Test.YthhfjagnmhhapaaA02
import Derived.Test.YthhfjagnmhhapaaA03
import Derived.Test.YthhfjagnmhhapaaA04
import Derived.Test.YthhfjagnmhhapaaA05
import Derived.Test.YthhfjagnmhhapaaA06
import Derived.Test.YthhfjagnmhhapaaA07
import Derived.Test.YthhfjagnmhhapaaA08
import Derived.Test.YthhfjagnmhhapaaA09
import Derived.Test.YthhfjagnmhhapaaA10

namespace Go.W
theorem Own.baPos {w : World} {lo T s n cap : Nat} {a : Option Addr} {vs : List Value} (h : Own w lo T s a n cap vs) (hn : 0 < n) : ∃ g, a = some ⟨g, 0, none⟩ := by
  obtain ⟨m, rfl⟩ : ∃ m, n = m + 1 := ⟨n - 1, by omega⟩
  exact h.ba
end Go.W
namespace Go.Proofs.Ythhfjagnmhhapaa
open Go.W Go.PM
/-- a chain of which level x may be spoiled -/
structure ChBut (w : World) (n : Nat) (c : CH) (ls : List Lv) (x : Nat) : Prop where
  str : Blk w c.cb 100 (chL n ls.length c)
  st : c.st < 18446744073709551616
  map : MapAt w c.mb c.m
  mok : MapOK c.m ls.length (fun i => (c.hs i).blk)
  dv : Own w 0 152 1 c.va ls.length c.vc ((List.range ls.length).map fun i => dvV (c.hs i))
  lv : ∀ i, i < ls.length → i ≠ x → LvAt w n (c.hs i) (ls.getD i lv0)
  cmb : c.cb ≠ c.mb
  vne : ∀ ad, c.va = some ad → ad.block ≠ c.cb ∧ ad.block ≠ c.mb
  fne : ∀ i, i < ls.length → i ≠ x → ∀ q, q ∈ (c.hs i).F ∨ q ∈ (c.hs i).im → q ≠ c.cb ∧ q ≠ c.mb ∧ ∀ ad, c.va = some ad → ad.block ≠ q
  dis : ∀ i j, i < ls.length → j < ls.length → i ≠ x → j ≠ x → i ≠ j → ∀ q, q ∈ (c.hs i).F → q ∉ (c.hs j).F
  imd : ∀ i j, i < ls.length → j < ls.length → i ≠ x → j ≠ x → ∀ q, q ∈ (c.hs i).F → q ∉ (c.hs j).im
theorem ChAt.but {F : Nat → Prop} {w w' : World} {n : Nat} {c : CH} {ls : List Lv} (hC : ChAt w n c ls) (x : Nat) (f : Fr F w w') (hF : ∀ q, c.own q → ¬ F q) (hL : ∀ i, i < ls.length → i ≠ x → ∀ q, q ∈ (c.hs i).F ∨ q ∈ (c.hs i).im → ¬ F q) : ChBut w' n c ls x :=
  ⟨hC.str.fr f (hF _ (.inl rfl)), hC.st, hC.map.fr f (hF _ (.inr (.inl rfl))), hC.mok, hC.dv.fr f (fun ad e => hF _ (.inr (.inr ⟨ad, e, rfl⟩))), fun i hi hx => (hC.lv i hi).fr f (fun q hq => hL i hi hx q (.inl hq)) (fun q hq => hL i hi hx q (.inr hq)),
    hC.cmb, hC.vne, fun i hi _ => hC.fne i hi, fun i j hi hj _ _ => hC.dis i j hi hj, fun i j hi hj _ _ => hC.imd i j hi hj⟩
structure Fits (c : CH) (k i : Nat) (h : LH) : Prop where
  own : ∀ q, q ∈ h.F ∨ q ∈ h.im → ¬ c.own q
  d1 : ∀ j, j < k → j ≠ i → ∀ q, q ∈ h.F → q ∉ (c.hs j).F ∧ q ∉ (c.hs j).im
  d2 : ∀ j, j < k → j ≠ i → ∀ q, q ∈ (c.hs j).F → q ∉ h.im
theorem mapT : Try.prog.underlying 97 = some (.map 3 96) := by kernel_rfl
theorem intT : Try.prog.underlying 3 = some (.int .i64) := by kernel_rfl
/-- what is left to show of a chain after a put -/
theorem put_ok {w w' : World} {n i : Nat} {c : CH} {ls : List Lv} {h : LH} {l : Lv} {va' : Option Addr} {vc' : Nat} {m' : List (Int × Value)} (hC : ChBut w n c ls i) (hi : i ≤ ls.length) (hL : LvAt w n h l) (hf : Fits c ls.length i h)
    (hfr : Fr c.own w w') (hva : va' = c.va ∨ ∀ ad, va' = some ad → w.heap.size ≤ ad.block)
    (hstr : Blk w' c.cb 100 (chL n (putL ls i l).length { c with va := va', vc := vc', m := m', hs := fun j => if j = i then h else c.hs j })) (hmap : MapAt w' c.mb m')
    (hmk : MapOK m' (putL ls i l).length (fun j => if j = i then h.blk else (c.hs j).blk))
    (hdv : Own w' 0 152 1 va' (putL ls i l).length vc' ((List.range (putL ls i l).length).map fun j => dvV (if j = i then h else c.hs j))) :
    ChAt w' n { c with va := va', vc := vc', m := m', hs := fun j => if j = i then h else c.hs j } (putL ls i l) := by
  have hlen : ∀ j, j < (putL ls i l).length → j ≠ i → j < ls.length := fun j hj hne => by rw [putL_len hi] at hj; split at hj <;> omega
  have hlt : ∀ q, q ∈ h.F ∨ q ∈ h.im → q < w.heap.size := fun q hq => hq.elim (hL.lt q) (hL.imlt q)
  have hltj : ∀ j, j < ls.length → j ≠ i → ∀ q, q ∈ (c.hs j).F ∨ q ∈ (c.hs j).im → q < w.heap.size := fun j hj hx q hq => hq.elim ((hC.lv j hj hx).lt q) ((hC.lv j hj hx).imlt q)
  have hnown : ∀ j, j < ls.length → j ≠ i → ∀ q, q ∈ (c.hs j).F ∨ q ∈ (c.hs j).im → ¬ c.own q := fun j hj hx q hq ho => by
    obtain ⟨h1, h2, h3⟩ := hC.fne j hj hx q hq
    rcases ho with ho | ho | ⟨ad, h4, h5⟩
    · exact h1 ho
    · exact h2 ho
    · exact h3 ad h4 h5
  have hsz := hfr.size
  have hne3 : ∀ q, q < w.heap.size → ¬ c.own q → q ≠ c.cb ∧ q ≠ c.mb ∧ ∀ ad, va' = some ad → ad.block ≠ q := fun q hq ho => by
    refine ⟨fun e => ho (.inl e), fun e => ho (.inr (.inl e)), fun ad e e' => ?_⟩
    rcases hva with rfl | hva
    · exact ho (.inr (.inr ⟨ad, e, e'⟩))
    · have := hva ad e; omega
  refine ⟨hstr, hC.st, hmap, ?_, hdv, fun j hj => ?_, hC.cmb, fun ad e => ?_, fun j hj q hq => ?_, fun j k hj hk hne q hq => ?_, fun j k hj hk q hq => ?_⟩
  · have e : (fun j => (if j = i then h else c.hs j).blk) = fun j => if j = i then h.blk else (c.hs j).blk := by funext j; split <;> rfl
    show MapOK m' _ (fun j => (if j = i then h else c.hs j).blk)
    rw [e]; exact hmk
  · rw [putL_getD hi]
    simp only
    by_cases e : j = i
    · rw [if_pos e, if_pos e]; exact hL.fr hfr (fun q hq => hf.own q (.inl hq)) (fun q hq => hf.own q (.inr hq))
    · rw [if_neg e, if_neg e]; exact (hC.lv j (hlen j hj e) e).fr hfr (fun q hq => hnown j (hlen j hj e) e q (.inl hq)) (fun q hq => hnown j (hlen j hj e) e q (.inr hq))
  · rcases hva with rfl | hva
    · exact hC.vne ad e
    · have h1 := hva ad e
      have h2 := hC.str.lt
      have h3 := hC.map.lt
      exact ⟨by simp only; omega, by simp only; omega⟩
  · simp only at hq ⊢
    by_cases e : j = i
    · rw [if_pos e] at hq; exact hne3 q (hlt q hq) (hf.own q hq)
    · rw [if_neg e] at hq; exact hne3 q (hltj j (hlen j hj e) e q hq) (hnown j (hlen j hj e) e q hq)
  · simp only at hq ⊢
    by_cases e : j = i
    · rw [if_pos e] at hq; rw [if_neg (by omega)]; exact (hf.d1 k (hlen k hk (by omega)) (by omega) q hq).1
    · rw [if_neg e] at hq
      by_cases e' : k = i
      · rw [if_pos e']; exact fun hq' => (hf.d1 j (hlen j hj e) e q hq').1 hq
      · rw [if_neg e']; exact hC.dis j k (hlen j hj e) (hlen k hk e') e e' hne q hq
  · simp only at hq ⊢
    by_cases e : j = i
    · rw [if_pos e] at hq
      by_cases e' : k = i
      · rw [if_pos e']; exact hL.dis q hq
      · rw [if_neg e']; exact (hf.d1 k (hlen k hk e') e' q hq).2
    · rw [if_neg e] at hq
      by_cases e' : k = i
      · rw [if_pos e']; exact hf.d2 j (hlen j hj e) e q hq
      · rw [if_neg e']; exact hC.imd j k (hlen j hj e) (hlen k hk e') e e' q hq
theorem put_spec {w : World} {n i : Nat} {c : CH} {ls : List Lv} {h : LH} {l : Lv} (hC : ChBut w n c ls i) (hi : i ≤ ls.length) (hL : LvAt w n h l) (hf : Fits c ls.length i h) (hk : ls.length ≤ 1000000000000) :
    CallsR Try.prog 83 #[.pointer (some ⟨c.cb, 0, none⟩), .int .i64 (i : Int), .pointer (some ⟨h.blk, 0, none⟩)] w fun v w' => v = .tuple #[] ∧ ∃ va' vc' m', ChAt w' n { c with va := va', vc := vc', m := m', hs := fun j => if j = i then h else c.hs j } (putL ls i l) ∧ Fr c.own w w' ∧ (va' = c.va ∨ ∀ ad, va' = some ad → w.heap.size ≤ ad.block) := by
  refine callsR_of (args := [_, _, _]) Try.func83 rfl rfl ?_
  have hstr := hC.str
  have own1 : c.own c.cb := .inl rfl
  have own2 : c.own c.mb := .inr (.inl rfl)
  by_cases hik : i < ls.length
  · obtain ⟨j, hj, hfd, hjm⟩ := hC.mok.find hik
    obtain ⟨hmk, hmne⟩ := hC.mok.put hik hjm h.blk
    obtain ⟨vg, hvg⟩ := hC.dv.baPos (by omega)
    have hvne := hC.vne _ hvg
    simp only at hvne
    have hdv := hC.dv
    have own3 : c.own vg := .inr (.inr ⟨_, hvg, rfl⟩)
    rw [hvg] at hdv
    have hstr' : Blk w c.cb 100 [.int .i64 (n : Int), .map (some c.mb), .slice (some ⟨vg, 0, none⟩) ls.length c.vc, .int .u64 (c.st : Int)] := by unfold chL at hstr; rw [hvg] at hstr; exact hstr
    have hpl : (putL ls i l).length = ls.length := by rw [putL_len hi, if_neg (by omega)]
    repeat' (first | (refine k_loadC rfl hstr' rfl ?_) | (refine k_mapDel mapT intT rfl rfl hC.map hfd hj (fun w1 hc1 hm1 => ⟨fun _ _ => trivial, ?_⟩)) | (refine k_pure rfl ?_) | (refine then_normal ?_) | (refine cw_seq ?_) | (refine cw_region rfl ?_) | (refine rr_nil ?_) | (refine k_fieldAddr rfl ?_))
    have str1 := hstr'.chg hc1 hC.cmb
    repeat' (first | (refine k_loadC rfl str1 rfl ?_) | (refine k_mapNew (v := .pointer (some ⟨h.blk, 0, none⟩)) mapT intT rfl rfl rfl hm1 hmne (fun w2 hc2 hm2 => ⟨fun _ _ => trivial, ?_⟩)) | (refine k_pure rfl ?_) | (refine then_normal ?_) | (refine cw_seq ?_) | (refine cw_region rfl ?_) | (refine rr_nil ?_) | (refine k_fieldAddr rfl ?_))
    have str2 := str1.chg hc2 hC.cmb
    have dv2 := (hdv.chg hc1 (by rintro _ ⟨⟩; exact hvne.2)).chg hc2 (by rintro _ ⟨⟩; exact hvne.2)
    repeat' (first | (refine k_loadC rfl str2 rfl ?_) | (refine k_pure rfl ?_) | (refine then_normal ?_) | (refine cw_region rfl ?_) | (refine rr_nil ?_) | (refine k_len rfl ?_) | (refine k_fieldAddr rfl ?_) | (refine cw_cond_dec rfl (fun hc => ?_) (fun hc => ?_)) | (refine cw_skip ?_))
    · omega
    · repeat' (first | (refine k_mkFunc ?_) | (refine k_indexN (j := i) rfl rfl ⟨_, _, rfl⟩ hik ?_) | (refine k_storeOwn (v := dvV h) rfl rfl rfl dv2 (by simp; omega) (fun g w3 hg _ hc3 ho3 => ⟨fun _ _ => trivial, ?_⟩)) | (refine rr_nil ?_))
      obtain rfl : vg = g := by injection hg with e; injection e
      have str3 := str2.chg hc3 (Ne.symm hvne.1)
      have e := range_set (k := ls.length) (i := i) (fun j => dvV (c.hs j)) (fun j => dvV (if j = i then h else c.hs j)) (fun j hj => by simp only [if_neg hj])
      simp only [ite_true] at e
      rw [e] at ho3
      have hfr : Fr c.own w w3 := (hc1.fr own2).trans ((hc2.fr own2).trans (hc3.fr own3))
      refine end0 rfl ⟨rfl, c.va, c.vc, _, put_ok hC hi hL hf hfr (.inl rfl) ?_ (hm2.chg hc3 (Ne.symm hvne.2)) ?_ ?_, hfr, .inl rfl⟩
      · rw [hpl]; unfold chL; simp only [hvg]; exact str3
      · rw [hpl]; exact hmk
      · rw [hpl, hvg]; exact ho3
  · obtain rfl : i = ls.length := by omega
    obtain ⟨hmk, hmne⟩ := hC.mok.add h.blk
    have hpl : (putL ls ls.length l).length = ls.length + 1 := by rw [putL_len hi, if_pos rfl]
    have hdv := hC.dv
    unfold chL at hstr
    repeat' (first | (refine k_loadC rfl hstr rfl ?_) | (refine k_mapDel0 mapT intT rfl rfl hC.map hmne (fun w1 hc1 hm1 => ⟨fun _ _ => trivial, ?_⟩)) | (refine k_pure rfl ?_) | (refine then_normal ?_) | (refine cw_seq ?_) | (refine cw_region rfl ?_) | (refine rr_nil ?_) | (refine k_fieldAddr rfl ?_))
    have str1 := hstr.chg hc1 hC.cmb
    repeat' (first | (refine k_loadC rfl str1 rfl ?_) | (refine k_mapNew (v := .pointer (some ⟨h.blk, 0, none⟩)) mapT intT rfl rfl rfl hm1 hmne (fun w2 hc2 hm2 => ⟨fun _ _ => trivial, ?_⟩)) | (refine k_pure rfl ?_) | (refine then_normal ?_) | (refine cw_seq ?_) | (refine cw_region rfl ?_) | (refine rr_nil ?_) | (refine k_fieldAddr rfl ?_))
    have str2 := str1.chg hc2 hC.cmb
    have dv2 := (hdv.chg hc1 (fun ad e => (hC.vne ad e).2)).chg hc2 (fun ad e => (hC.vne ad e).2)
    have f12 : Fr c.own w w2 := (hc1.fr own2).trans (hc2.fr own2)
    repeat' (first | (refine k_loadC rfl str2 rfl ?_) | (refine k_pure rfl ?_) | (refine then_normal ?_) | (refine cw_region rfl ?_) | (refine rr_nil ?_) | (refine k_len rfl ?_) | (refine k_fieldAddr rfl ?_) | (refine cw_cond_dec rfl (fun hc => ?_) (fun hc => ?_)) | (refine cw_skip ?_))
    · refine k_app1 (v := .nilFunc) rfl rfl rfl rfl rfl rfl dv2 (by omega) (by omega) (Nat.zero_le _) (fun gx a3 c3 w3 ho3 hg3 hA3 => ?_)
      have hvown : ∀ q, (Value.slice c.va ls.length c.vc).ownBlock = some q → c.own q := fun q e => by
        cases hv : c.va with
        | none => rw [hv] at e; simp [Value.ownBlock] at e
        | some ad => rw [hv] at e; simp [Value.ownBlock] at e; exact .inr (.inr ⟨ad, hv, e⟩)
      have f23 : Fr c.own w2 w3 := grown_fr hg3 hvown
      have hvnc : (Value.slice c.va ls.length c.vc).ownBlock ≠ some c.cb ∧ (Value.slice c.va ls.length c.vc).ownBlock ≠ some c.mb := by
        cases hv : c.va with
        | none => simp [Value.ownBlock]
        | some ad => have := hC.vne ad hv; simp [Value.ownBlock]; exact this
      obtain ⟨v3, rfl⟩ := Own.ba ho3
      have str3 := str2.gb hg3 hvnc.1
      have sz2 := f12.size
      have hv3 : v3 ≠ c.cb ∧ v3 ≠ c.mb := by
        rcases hA3 with e | e
        · have := hC.vne _ e.symm; exact this
        · have := e _ rfl; have h1 := str2.lt; have h2 := hm2.lt; simp only at this; omega
      repeat' (first | (refine k_storeC rfl rfl rfl str3 rfl (fun w4 hc4 hs4 => ⟨fun _ _ => trivial, ?_⟩)) | (refine k_pure rfl ?_) | (refine then_normal ?_) | (refine cw_region rfl ?_) | (refine rr_nil ?_) | (refine k_fieldAddr rfl ?_))
      have dv4 := ho3.chg hc4 (by rintro _ ⟨⟩; exact hv3.1)
      repeat' (first | (refine k_loadC rfl hs4 rfl ?_) | (refine k_mkFunc ?_) | (refine k_indexN (j := ls.length) rfl rfl ⟨_, _, rfl⟩ (by omega) ?_) | (refine k_storeOwn (v := dvV h) rfl rfl rfl dv4 (by simp [Value.cells]) (fun g w5 hg _ hc5 ho5 => ⟨fun _ _ => trivial, ?_⟩)) | (refine k_pure rfl ?_) | (refine rr_nil ?_))
      obtain rfl : v3 = g := by injection hg with e; injection e
      have str5 := hs4.chg hc5 (Ne.symm hv3.1)
      have hm5 : MapAt w5 c.mb _ := ((hm2.of_block (hg3.block _ hm2.lt (Ne.symm hvnc.2))).chg hc4 (Ne.symm hC.cmb)).chg hc5 (Ne.symm hv3.2)
      have e := range_add (k := ls.length) (fun j => dvV (c.hs j)) (fun j => dvV (if j = ls.length then h else c.hs j)) Value.nilFunc (fun j hj => by simp only [if_neg hj])
      simp only [ite_true] at e
      have ho5' : Own w5 0 152 1 (some ⟨v3, 0, none⟩) (ls.length + 1) c3 (((List.range ls.length).map (fun j => dvV (c.hs j)) ++ [Value.nilFunc]).set ls.length (dvV h)) := ho5
      rw [e] at ho5'
      have hva : (some ⟨v3, 0, none⟩ : Option Addr) = c.va ∨ ∀ ad : Addr, (some ⟨v3, 0, none⟩ : Option Addr) = some ad → w.heap.size ≤ ad.block := hA3.imp id fun f ad e => Nat.le_trans sz2 (f ad e)
      have hfr : Fr c.own w w5 := by
        refine (f12.trans (f23.trans (hc4.fr own1))).then (f1C hc5) ?_
        rintro q hq rfl
        rcases hva with e | e
        · exact .inr (.inr ⟨_, e.symm, rfl⟩)
        · have := e _ rfl; exact absurd this (by simp only; omega)
      refine end0 rfl ⟨rfl, some ⟨v3, 0, none⟩, c3, _, put_ok hC hi hL hf hfr hva ?_ hm5 ?_ ?_, hfr, hva⟩
      · rw [hpl]; exact str5
      · rw [hpl]; exact hmk
      · rw [hpl]; exact ho5'
    · omega
end Go.Proofs.Ythhfjagnmhhapaa

namespace Go.Proofs.Ythhfjagnmhhapaa
open Go.W Go.PM
theorem ChAt.fr {F : Nat → Prop} {w w' : World} {n : Nat} {c : CH} {ls : List Lv} (hC : ChAt w n c ls) (f : Fr F w w') (hF : ∀ q, c.foot ls.length q → ¬ F q) (hI : ∀ q, c.imm ls.length q → ¬ F q) : ChAt w' n c ls :=
  ⟨hC.str.fr f (hF _ (.inl (.inl rfl))), hC.st, hC.map.fr f (hF _ (.inl (.inr (.inl rfl)))), hC.mok, hC.dv.fr f (fun ad e => hF _ (.inl (.inr (.inr ⟨ad, e, rfl⟩)))), fun i hi => (hC.lv i hi).fr f (fun q hq => hF q (.inr ⟨i, hi, hq⟩)) (fun q hq => hI q ⟨i, hi, hq⟩),
    hC.cmb, hC.vne, hC.fne, hC.dis, hC.imd⟩
theorem ChAt.drew {w : World} {n : Nat} {c : CH} {ls : List Lv} (hC : ChAt w n c ls) : ChAt w.drew n c ls := hC.fr (F := fun _ => False) ((Ex.refl w).drew.fr) (fun _ _ h => h) (fun _ _ h => h)
theorem ChAt.ext {w w' : World} {n : Nat} {c : CH} {ls : List Lv} (hC : ChAt w n c ls) (e : Ex w w') : ChAt w' n c ls := hC.fr (F := fun _ => False) e.fr (fun _ _ h => h) (fun _ _ h => h)
theorem ChAt.footlt {w : World} {n : Nat} {c : CH} {ls : List Lv} (hC : ChAt w n c ls) {q : Nat} (h : c.foot ls.length q) : q < w.heap.size := by
  rcases h with (h | h | ⟨ad, h1, h2⟩) | ⟨i, hi, hq⟩
  · rw [h]; exact hC.str.lt
  · rw [h]; exact hC.map.lt
  · rw [← h2]; exact (hC.dv.lo ad h1).2
  · exact (hC.lv i hi).lt q hq
theorem ChAt.immlt {w : World} {n : Nat} {c : CH} {ls : List Lv} (hC : ChAt w n c ls) {q : Nat} (h : c.imm ls.length q) : q < w.heap.size := by
  obtain ⟨i, hi, hq⟩ := h; exact (hC.lv i hi).imlt q hq
theorem ChAt.fresh {w : World} {n : Nat} {c : CH} {ls : List Lv} (hC : ChAt w n c ls) {q : Nat} (h : w.heap.size ≤ q) : ¬ c.foot ls.length q ∧ ¬ c.imm ls.length q :=
  ⟨fun hf => by have := hC.footlt hf; omega, fun hf => by have := hC.immlt hf; omega⟩
theorem drop_cons {ls : List Lv} {i : Nat} (h : i < ls.length) : ls.drop i = ls.getD i lv0 :: ls.drop (i + 1) := by
  rw [List.drop_eq_getElem_cons h, List.getD_eq_getElem?_getD, List.getElem?_eq_getElem h]; rfl
theorem csift_spec {w : World} {n first : Nat} {c : CH} {ls : List Lv} {p : List Int} {pb cap : Nat} (hC : ChAt w n c ls) (hok : ∀ i, first ≤ i → i < ls.length → LvOK n (ls.getD i lv0)) (hfi : first ≤ ls.length) (pp : PermN n p)
    (hp : Own w 0 129 1 (ba pb) n cap (u16L p)) (hF : ¬ c.foot ls.length pb) (hI : ¬ c.imm ls.length pb) (hk : ls.length ≤ 1000000000000) :
    CallsR Try.prog 96 #[.pointer (some ⟨c.cb, 0, none⟩), .int .i64 (first : Int), .slice (ba pb) n cap] w fun v w' => v = .int .i64 ((first + (siftL (ls.drop first) p).2 : Nat) : Int) ∧ Chg pb w w' ∧
      Own w' 0 129 1 (ba pb) n cap (u16L (siftL (ls.drop first) p).1) := by
  refine callsR_of (args := [_, _, _]) Try.func96 rfl rfl ?_
  repeat' (first | (refine k_pure rfl ?_) | (refine then_normal ?_) | (refine cw_seq ?_) | (refine cw_region rfl ?_) | (refine rr_nil ?_) | (refine cw_block ?_))
  refine cw_loop (ι := Nat × List Int) [6, 7, 9, 10, 11, 12, 13, 14, 15, 16, 17, 18, 19, 20, 21, 22, 23, 24, 25, 26, 27, 28] (fun s => [(7, .int .i64 (s.1 : Int))]) (fun s w' => first ≤ s.1 ∧ s.1 ≤ ls.length ∧ Chg pb w w' ∧ PermN n s.2 ∧ Own w' 0 129 1 (ba pb) n cap (u16L s.2) ∧ siftL (ls.drop first) p = ((siftL (ls.drop s.1) s.2).1, (siftL (ls.drop s.1) s.2).2 + (s.1 - first))) (fun s => ls.length - s.1)
    (first, p) ⟨rfl, trivial⟩ ⟨Nat.le_refl _, hfi, Chg.refl _ _, pp, hp, by simp⟩ ?_
  rintro ⟨i, q⟩ ξ w1 ⟨h1, h2, hc1, pq, ho1, he⟩
  simp only at h1 h2 pq ho1 he
  show CW _ _ _ _ (over [(7, .int .i64 (i : Int))] _) w1
  have hC1 := hC.fr (f1C hc1) (fun q hq e => hF (e ▸ hq)) (fun q hq e => hI (e ▸ hq))
  have hstr := hC1.str
  unfold chL at hstr
  repeat' (first | (refine k_loadC rfl hstr rfl ?_) | (refine k_pure rfl ?_) | (refine then_normal ?_) | (refine cw_seq ?_) | (refine cw_region rfl ?_) | (refine rr_nil ?_) | (refine k_len rfl ?_) | (refine k_fieldAddr rfl ?_) | (refine cw_cond_dec rfl (fun hc => ?_) (fun hc => ?_)) | (refine cw_block ?_) | (refine cw_exit ?_) | (refine then_exit ?_) | (refine in_exit ?_) | (refine cw_ret ?_) | (refine cw_skip ?_))
  · have hi : i < ls.length := by omega
    obtain ⟨vg, hvg⟩ := hC1.dv.baPos (by omega)
    have hdv := hC1.dv.sl
    have hgi : ((List.range ls.length).map fun i => dvV (c.hs i))[i]? = some (dvV (c.hs i)) := by rw [List.getElem?_map, List.getElem?_range hi]; rfl
    have ok := hok i h1 hi
    have hdrop := drop_cons hi
    repeat' (first | (refine k_indexN (j := i) rfl rfl ⟨_, _, hvg⟩ hi ?_) | (refine k_loadL rfl hdv hgi ?_) | (refine k_pure rfl ?_))
    refine k_callV (f := 108) (first := #[.pointer (some ⟨(c.hs i).blk, 0, none⟩)]) (cap := #[]) rfl (divide_spec (hC1.lv i hi) ok pq ho1 (fun hq => hF (.inr ⟨i, hi, hq⟩)) (fun hq => hI ⟨i, hi, hq⟩)) ?_ ?_
    · rfl
    rintro v w2 ⟨rfl, hc2, ho2⟩
    refine ⟨fun _ _ => trivial, ?_⟩
    by_cases hm : ap q (ls.getD i lv0).pt ∈ (ls.getD i lv0).orb
    · rw [decide_eq_true hm]
      rw [if_pos hm] at ho2
      have hq2 := pq.mul (ok.grp.perm _ (ok.to_in hm))
      rw [hdrop, siftL, if_pos hm] at he
      repeat' (first | (refine k_pure rfl ?_) | (refine then_normal ?_) | (refine cw_region rfl ?_) | (refine rr_nil ?_) | (refine k_addI rfl rfl (by omega) (by omega) ?_) | (refine cw_cond_false rfl ?_) | (refine in_normal ?_) | (refine cw_skip ?_))
      refine ⟨⟨(i + 1, mulP q ((ls.getD i lv0).to (ap q (ls.getD i lv0).pt))), ⟨by simp only; omega, by simp only; omega, hc1.trans hc2, hq2, ho2, ?_⟩, by simp only; omega, rfl, trivial⟩, (by (repeat (first | exact agree_mask _ _ _ | refine agree_upd rfl ?_ | refine agree_updO rfl ?_ | refine agree_overIn rfl ?_ | refine agree_maskIn rfl ?_)))⟩
      rw [he]
      simp only
      rw [show i + 1 - first = 1 + (i - first) by omega, Nat.add_assoc]
    · rw [decide_eq_false hm]
      rw [if_neg hm] at ho2
      rw [hdrop, siftL, if_neg hm] at he
      repeat' (first | (refine k_pure rfl ?_) | (refine then_normal ?_) | (refine cw_seq ?_) | (refine cw_region rfl ?_) | (refine rr_nil ?_) | (refine cw_cond_true rfl ?_) | (refine cw_ret ?_) | (refine then_ret ?_) | (refine in_ret ?_))
      refine ret1 rfl (rt rfl) ⟨?_, hc1.trans hc2, ?_⟩
      · rw [he]; simp only; rw [show first + (0 + (i - first)) = i by omega]; rfl
      · rw [he]; exact ho2
  · obtain rfl : i = ls.length := by omega
    have hd : ls.drop ls.length = [] := by simp
    rw [hd, siftL] at he
    skip
    refine ret1 rfl (rt rfl) ⟨?_, hc1, ?_⟩
    · rw [he]; simp only; rw [show first + (0 + (ls.length - first)) = ls.length by omega]; rfl
    · rw [he]; exact ho1
end Go.Proofs.Ythhfjagnmhhapaa

namespace Go.PM
theorem ins_one {n : Nat} {p : List Int} (d0 : Lv) : ∀ (d : Nat) (A B : List Lv), d < A.length → B.length = A.length → (∀ j, j ≤ d → LvExt n p (A.getD j d0) (B.getD j d0)) → (∀ j, d < j → B.getD j d0 = A.getD j d0) → Ins n p d A B
  | _, [], _, h, _, _, _ => absurd h (by simp)
  | _, _ :: _, [], _, h, _, _ => absurd h (by simp)
  | 0, a :: A, b :: B, _, hl, h1, h2 => by
    have e : B = A := by
      simp only [List.length_cons, Nat.succ.injEq] at hl
      apply List.ext_getElem? ; intro i
      have := h2 (i + 1) (by omega)
      simp only [List.getD_cons_succ] at this
      by_cases hi : i < A.length
      · rw [List.getD_eq_getElem?_getD, List.getD_eq_getElem?_getD, List.getElem?_eq_getElem hi, List.getElem?_eq_getElem (by omega)] at this
        rw [List.getElem?_eq_getElem hi, List.getElem?_eq_getElem (by omega)]
        simpa using this
      · rw [List.getElem?_eq_none (by omega), List.getElem?_eq_none (by omega)]
    subst e
    exact .last (h1 0 (Nat.le_refl _))
  | d + 1, a :: A, b :: B, h, hl, h1, h2 => .cons (h1 0 (by omega)) (ins_one d0 d A B (by simpa using h) (by simpa using hl) (fun j hj => by have := h1 (j + 1) (by omega); simpa using this) (fun j hj => by have := h2 (j + 1) (by omega); simpa using this))
theorem ins_two {n : Nat} {p : List Int} (d0 : Lv) : ∀ (A B : List Lv), B.length = A.length + 1 → (∀ j, j < A.length → LvExt n p (A.getD j d0) (B.getD j d0)) → LvNew n p (B.getD A.length d0) → Ins n p A.length A B
  | [], [], h, _, _ => absurd h (by simp)
  | [], [b], _, _, h => .new (by simpa using h)
  | [], _ :: _ :: _, h, _, _ => absurd h (by simp)
  | _ :: _, [], h, _, _ => absurd h (by simp)
  | a :: A, b :: B, hl, h1, h2 => .cons (h1 0 (by simp)) (ins_two d0 A B (by simpa using hl) (fun j hj => by have := h1 (j + 1) (by simpa using hj); simpa using this) (by simpa using h2))
end Go.PM
namespace Go.Proofs.Ythhfjagnmhhapaa
open Go.W Go.PM
theorem getD_drop {ls : List Lv} {f j : Nat} : (ls.drop f).getD j lv0 = ls.getD (f + j) lv0 := by
  rw [List.getD_eq_getElem?_getD, List.getElem?_drop, ← List.getD_eq_getElem?_getD]
/-- how the blocks of a chain may have changed -/
structure CStep (w : World) (pb : Nat) (c c' : CH) (k k' : Nat) : Prop where
  cb : c'.cb = c.cb
  mb : c'.mb = c.mb
  st : c'.st = c.st
  foot : ∀ q, c'.foot k' q → c.foot k q ∨ w.heap.size ≤ q
  imm : ∀ q, c'.imm k' q → c.imm k q ∨ q = pb ∨ w.heap.size ≤ q
theorem CStep.refl (w : World) (pb : Nat) (c : CH) (k : Nat) : CStep w pb c c k k := ⟨rfl, rfl, rfl, fun _ h => .inl h, fun _ h => .inl h⟩
structure InsJ (w : World) (n : Nat) (c : CH) (ls : List Lv) (p : List Int) (pb first : Nat) (i : Nat) (c1 : CH) (ls1 : List Lv) (w1 : World) : Prop where
  ch : ChAt w1 n c1 ls1
  len : ls1.length = if i = ls.length + 1 then ls.length + 1 else ls.length
  ext : ∀ j, first ≤ j → j < i → j < ls.length → LvExt n p (ls.getD j lv0) (ls1.getD j lv0)
  new : i = ls.length + 1 → LvNew n p (ls1.getD ls.length lv0)
  same : ∀ j, (j < first ∨ i ≤ j) → ls1.getD j lv0 = ls.getD j lv0
  fr : Fr (c.foot ls.length) w w1
  step : CStep w pb c c1 ls.length ls1.length
theorem InsJ.put {w w1 w2 w3 : World} {n : Nat} {c c1 : CH} {ls ls1 : List Lv} {p : List Int} {pb first i : Nat} (hJ : InsJ w n c ls p pb first i c1 ls1 w1) (hfi : first ≤ i) (hi : i ≤ ls.length) {F : Nat → Prop} (hF : ∀ q, q < w1.heap.size → F q → c1.foot ls1.length q) (f2 : Fr F w1 w2)
    {h : LH} {l : Lv} (hext : i < ls.length → LvExt n p (ls.getD i lv0) l) (hnew : i = ls.length → LvNew n p l)
    (hhF : ∀ q, q ∈ h.F → (i < ls1.length ∧ q ∈ (c1.hs i).F) ∨ w1.heap.size ≤ q) (hhI : ∀ q, q ∈ h.im → (i < ls1.length ∧ q ∈ (c1.hs i).im) ∨ q = pb ∨ w1.heap.size ≤ q)
    {va' : Option Addr} {vc' : Nat} {m' : List (Int × Value)} (hC' : ChAt w3 n { c1 with va := va', vc := vc', m := m', hs := fun j => if j = i then h else c1.hs j } (putL ls1 i l)) (f3 : Fr c1.own w2 w3) (hva : va' = c1.va ∨ ∀ ad, va' = some ad → w2.heap.size ≤ ad.block) :
    InsJ w n c ls p pb first (i + 1) { c1 with va := va', vc := vc', m := m', hs := fun j => if j = i then h else c1.hs j } (putL ls1 i l) w3 := by
  have hl1 : ls1.length = ls.length := by rw [hJ.len, if_neg (by omega)]
  have hpl := putL_len (ls := ls1) (l := l) (show i ≤ ls1.length by omega)
  have s1 := hJ.fr.size
  have s2 := f2.size
  have s3 := f3.size
  have hfoot : ∀ q, c1.foot ls1.length q → q < w.heap.size → c.foot ls.length q := fun q hq hlt => (hJ.step.foot q hq).resolve_right (by omega)
  have hlen : ∀ j, j < (putL ls1 i l).length → j ≠ i → j < ls1.length := fun j hj hne => by rw [hpl] at hj; split at hj <;> omega
  refine ⟨hC', ?_, fun j h1 h2 h3 => ?_, fun e => ?_, fun j hj => ?_, ?_, ⟨hJ.step.cb, hJ.step.mb, hJ.step.st, fun q hq => ?_, fun q hq => ?_⟩⟩
  · rw [hpl, hl1]; split <;> split <;> omega
  · rw [putL_getD (by omega)]
    by_cases e : j = i
    · subst e; rw [if_pos rfl]; exact hext h3
    · rw [if_neg e]; exact hJ.ext j h1 (by omega) h3
  · rw [putL_getD (by omega), if_pos (by omega)]; exact hnew (by omega)
  · rw [putL_getD (by omega), if_neg (by omega)]; exact hJ.same j (by omega)
  · refine (hJ.fr.then f2 fun q hq hf => hfoot q (hF q (by omega) hf) hq).then f3 fun q hq hf => hfoot q (.inl hf) hq
  · rcases hq with (hq | hq | ⟨ad, h1, h2⟩) | ⟨j, hj, hq⟩
    · exact hJ.step.foot q (.inl (.inl hq))
    · exact hJ.step.foot q (.inl (.inr (.inl hq)))
    · rcases hva with e | e
      · simp only at h1; rw [e] at h1; exact hJ.step.foot q (.inl (.inr (.inr ⟨ad, h1, h2⟩)))
      · have := e ad h1; exact .inr (by omega)
    · simp only at hq
      by_cases e : j = i
      · rw [if_pos e] at hq
        rcases hhF q hq with ⟨h1, h2⟩ | h1
        · exact hJ.step.foot q (.inr ⟨i, h1, h2⟩)
        · exact .inr (by omega)
      · rw [if_neg e] at hq; exact hJ.step.foot q (.inr ⟨j, hlen j hj e, hq⟩)
  · obtain ⟨j, hj, hq⟩ := hq
    simp only at hq
    by_cases e : j = i
    · rw [if_pos e] at hq
      rcases hhI q hq with ⟨h1, h2⟩ | h1 | h1
      · exact hJ.step.imm q ⟨i, h1, h2⟩
      · exact .inr (.inl h1)
      · exact .inr (.inr (by omega))
    · rw [if_neg e] at hq; exact hJ.step.imm q ⟨j, hlen j hj e, hq⟩
theorem InsJ.ins {w w1 : World} {n : Nat} {c c1 : CH} {ls ls1 : List Lv} {p : List Int} {pb first last : Nat} (hJ : InsJ w n c ls p pb first (last + 1) c1 ls1 w1) (hfl : first ≤ last) (hl : last ≤ ls.length) : Ins n p (last - first) (ls.drop first) (ls1.drop first) ∧ ls1.take first = ls.take first := by
  have hlen := hJ.len
  constructor
  · by_cases e : last = ls.length
    · subst e
      rw [if_pos rfl] at hlen
      have hd : (ls.drop first).length = ls.length - first := List.length_drop ..
      have h1 := ins_two (n := n) (p := p) lv0 (ls.drop first) (ls1.drop first) (by rw [List.length_drop, List.length_drop]; omega) (fun j hj => by
        rw [List.length_drop] at hj
        rw [getD_drop, getD_drop]; exact hJ.ext _ (by omega) (by omega) (by omega)) (by
        rw [getD_drop, hd, show first + (ls.length - first) = ls.length by omega]; exact hJ.new rfl)
      rw [hd] at h1; exact h1
    · rw [if_neg (by omega)] at hlen
      refine ins_one lv0 _ _ _ (by rw [List.length_drop]; omega) (by rw [List.length_drop, List.length_drop]; omega) (fun j hj => ?_) (fun j hj => ?_)
      · rw [getD_drop, getD_drop]; exact hJ.ext _ (by omega) (by omega) (by omega)
      · rw [getD_drop, getD_drop]; exact hJ.same _ (by omega)
  · have hle : ls.length ≤ ls1.length := by rw [hlen]; split <;> omega
    apply List.ext_getElem?
    intro i
    rw [List.getElem?_take, List.getElem?_take]
    split
    · have := hJ.same i (by omega)
      rw [List.getD_eq_getElem?_getD, List.getD_eq_getElem?_getD, List.getElem?_eq_getElem (by omega), List.getElem?_eq_getElem (by omega)] at this
      rw [List.getElem?_eq_getElem (by omega), List.getElem?_eq_getElem (by omega)]
      simpa using this
    · rfl
end Go.Proofs.Ythhfjagnmhhapaa

namespace Go.Proofs.Ythhfjagnmhhapaa
open Go.W Go.PM
theorem insert_spec {w : World} {n first last : Nat} {c : CH} {ls : List Lv} {p : List Int} {pb cap : Nat} (hC : ChAt w n c ls) (hok : ∀ i, first ≤ i → i < ls.length → LvOK n (ls.getD i lv0)) (hfl : first ≤ last) (hll : last ≤ ls.length) (pp : PermN n p) (hpi : p ≠ idList n)
    (hp : Sl w (ba pb) (u16L p)) (hF : ¬ c.foot ls.length pb) (hk : ls.length < 1000000000000) (hgl : ∀ i, i < ls.length → (ls.getD i lv0).gens.length < 1000000000000) :
    CallsR Try.prog 111 #[.pointer (some ⟨c.cb, 0, none⟩), .int .i64 (first : Int), .int .i64 (last : Int), .slice (ba pb) n cap] w fun v w' => v = .tuple #[] ∧ ∃ c' ls', InsJ w n c ls p pb first (last + 1) c' ls' w' := by
  refine callsR_of (args := [_, _, _, _]) Try.func111 rfl rfl ?_
  have hn := pp.n1
  have hpl : p.length = n := pp.2
  have hpb : pb < w.heap.size := hp.lt (by simp; omega) _ rfl
  repeat' (first | (refine k_pure rfl ?_) | (refine then_normal ?_) | (refine cw_seq ?_) | (refine cw_region rfl ?_) | (refine rr_nil ?_) | (refine cw_block ?_))
  refine cw_loop (ι := Nat × CH × List Lv) [8, 10, 11, 12, 13, 14, 15, 16, 17, 18, 19, 20, 21, 22, 23, 24, 25, 26, 27, 28, 29, 30, 31, 32, 33, 34, 35, 36, 37, 38, 39, 40, 41, 42, 43, 44] (fun s => [(8, .int .i64 (s.1 : Int))]) (fun s w' => first ≤ s.1 ∧ s.1 ≤ last + 1 ∧ InsJ w n c ls p pb first s.1 s.2.1 s.2.2 w') (fun s => last + 1 - s.1)
    (first, c, ls) ⟨rfl, trivial⟩ ⟨Nat.le_refl _, by simp only; omega, hC, by rw [if_neg (by omega)], fun j h1 h2 => absurd h2 (by omega), fun e => absurd e (by simp only; omega), fun _ _ => rfl, Fr.refl _ _, CStep.refl _ _ _ _⟩ ?_
  rintro ⟨i, c1, ls1⟩ ξ w1 ⟨h1, h2, hJ⟩
  simp only at h1 h2 hJ
  show CW _ _ _ _ (over [(8, .int .i64 (i : Int))] _) w1
  have hC1 := hJ.ch
  have hcb := hJ.step.cb
  have hmb := hJ.step.mb
  have hstr := hC1.str
  unfold chL at hstr
  rw [hcb] at hstr
  have hm1 := hC1.map
  have hml := hC1.mok.1
  have s1 := hJ.fr.size
  have hp1 : Sl w1 (ba pb) (u16L p) := hp.fr hJ.fr (by rintro _ ⟨⟩; exact hF)
  have hF1 : ¬ c1.foot ls1.length pb := fun hf => (hJ.step.foot pb hf).elim hF (by omega)
  have hl1 : i ≤ last → ls1.length = ls.length := fun h => by rw [hJ.len, if_neg (by omega)]
  repeat' (first | (refine k_loadC rfl hstr rfl ?_) | (refine k_lenMap mapT rfl hm1 ?_) | (refine k_pure rfl ?_) | (refine then_normal ?_) | (refine cw_seq ?_) | (refine cw_region rfl ?_) | (refine rr_nil ?_) | (refine k_fieldAddr rfl ?_) | (refine cw_cond_dec rfl (fun hc => ?_) (fun hc => ?_)) | (refine cw_block ?_) | (refine cw_exit ?_) | (refine then_exit ?_) | (refine in_exit ?_) | (refine cw_skip ?_))
  · have hil : i = ls1.length := by omega
    have hl1' := hl1 (by omega)
    have hEx : Ex w1 w1.drew := (Ex.refl w1).drew
    have hmvd : ∀ m, Moved p m → ∃ pt : Nat, m = (pt : Int) ∧ pt < n ∧ ap p pt ≠ pt := fun m hm => by
      rcases hm with ⟨_, h⟩ | ⟨a1, a2, a3⟩
      · rw [hpl] at h; exact absurd h hpi
      · exact ⟨m.toNat, by omega, by omega, by rw [Int.toNat_of_nonneg a1]; exact a3⟩
    have hgn : GensN n [p] := fun g hg => by rw [List.mem_singleton] at hg; subst hg; exact pp
    have ht : c1.cb = c.cb := hcb
    have hcell : ∀ w', Ex w1 w' → w'.cell? ⟨c.cb, 0, none⟩ = some (.int .i64 (n : Int)) := fun w' e => (hstr.ext e).cell (j := 0) (by simp)
    refine cw_tree (fun w' => w'.cell? ⟨c.cb, 0, none⟩ = some (.int .i64 (n : Int))) mixed (hcell _ hEx) ?_
    refine rb_pre (fuel := 4) (by kernel_rfl) (by kernel_rfl) [0, 1, 2, 3, 4, 5, 6, 8] _ _ (by kernel_rfl) ?_
    repeat' (first | (refine k_load rfl (fun _ h => h) ?_) | (refine k_pure rfl ?_) | (refine rr_nil ?_) | (refine k_fieldAddr rfl ?_))
    refine rb_all (fuel := 3) (rs := [7, 9]) (by kernel_rfl) (by kernel_rfl) rfl ?_
    simp only [List.forall_mem_cons, List.not_mem_nil, false_implies, implies_true, and_true]
    refine ⟨?_, ?_⟩
    · refine k_call (moved_spec (xs := p) (hp1.ext hEx) cap (fun k hk => by have := pp.1.lt hk; omega) (by omega)) (by rw [hpl]; rfl) ?_
      rintro v7 w7 ⟨m, rfl, hm, hE7⟩
      refine ⟨fun _ _ => hcell _ (hEx.trans hE7), ?_⟩
      replace hEx := hEx.trans hE7
      try replace hb9 := hb9.ext hE7
      obtain ⟨pt, rfl, hptn, hpt⟩ := hmvd m hm
      refine rr_nil ?_
      refine rb_all (fuel := 2) (rs := [9]) (by kernel_rfl) (by kernel_rfl) rfl ?_
      rw [List.forall_mem_singleton]
      refine k_lit1 (v := .slice (ba pb) n cap) rfl rfl (fun lb w9 hn9 => ⟨fun _ _ => hcell _ (hEx.trans hn9.ex), ?_⟩)
      have lb1 : w1.heap.size ≤ lb := Nat.le_trans hEx.size hn9.lo
      have hb9 := hn9.blk
      replace hEx := hEx.trans hn9.ex
      refine rr_nil ?_
      refine rb_all (fuel := 1) (rs := [10]) (by kernel_rfl) (by kernel_rfl) rfl ?_
      rw [List.forall_mem_singleton]
      have h0 : ∀ w' : World, Sl w' (ba pb) (u16L p) → PsAt w' n [lb, pb] [⟨ba pb, n, cap⟩] [p] := fun w' hs => PsAt.snoc (sds := []) (ps := []) ⟨rfl, fun i hi => absurd hi (by simp), fun i hi => absurd hi (by simp), fun i hi => absurd hi (by simp)⟩ hs rfl (by rintro _ ⟨⟩; simp)
      refine k_call (newLv_spec (im := [lb, pb]) (gs := [⟨ba pb, n, cap⟩]) (gens := [p]) (gc := 1) hn hptn hgn hb9.sl (h0 _ (hp1.ext hEx)) (by rintro _ ⟨⟩; simp) (by
        intro q hq
        have := hEx.size
        have := hb9.lt
        simp only [List.mem_cons, List.not_mem_nil, or_false] at hq
        omega) (Nat.le_refl _) (by simp)) rfl ?_
      rintro v10 w10 ⟨h', l', rfl, hL', ok', hpt', hg', hd', hE10, hF', hI', _, _, _⟩
      have s1x := hEx.size
      refine ⟨fun _ _ => hcell _ (hEx.trans hE10), ?_⟩
      replace hEx := hEx.trans hE10
      have hhF : ∀ q, q ∈ h'.F → w1.heap.size ≤ q := fun q hq => by have := hF' q hq; omega
      have hhI : ∀ q, q ∈ h'.im → q = pb ∨ w1.heap.size ≤ q := fun q hq => by
        rcases hI' q hq with hq | hq
        · simp only [List.mem_cons, List.not_mem_nil, or_false] at hq; omega
        · exact .inr (by omega)
      have hfit : Fits c1 ls1.length i h' := by
        refine ⟨fun q hq ho => ?_, fun j hj _ q hq => ?_, fun j hj _ q hq hq' => ?_⟩
        · have hlt := hC1.footlt (.inl ho)
          rcases hq with hq | hq
          · have := hhF q hq; omega
          · rcases hhI q hq with rfl | h
            · exact hF1 (.inl ho)
            · omega
        · have := hhF q hq
          exact ⟨fun hq' => by have := (hC1.lv j hj).lt q hq'; omega, fun hq' => by have := (hC1.lv j hj).imlt q hq'; omega⟩
        · have := (hC1.lv j hj).lt q hq
          rcases hhI q hq' with rfl | h
          · exact hF1 (.inr ⟨j, hj, hq⟩)
          · omega
      refine rr_nil ?_
      refine rb_all (fuel := 0) (rs := [11]) (by kernel_rfl) (by kernel_rfl) rfl ?_
      rw [List.forall_mem_singleton]
      refine k_call (put_spec (i := i) (hC1.but i (F := fun _ => False) hEx.fr (fun _ _ h => h) (fun _ _ _ _ _ h => h)) (by omega) hL' hfit (by omega)) (by rw [hcb]; rfl) ?_
      rintro v11 w11 ⟨rfl, va', vc', m', hC', f3, hva⟩
      have f2 : Fr (fun _ => False) w1 w10 := hEx.fr
      have hcb' := hC'.str
      simp only [hcb] at hcb'
      refine ⟨fun _ _ => hcb'.cell (j := 0) (by simp [chL]), ?_⟩
      refine rr_nil ?_
      refine rb_done (by kernel_rfl) ?_
      have hnew : i = ls.length → LvNew n p l' := fun _ => ⟨ok', hg', by rw [hpt']; exact hpt, hd'⟩
      repeat' (first | (refine k_pure rfl ?_) | (refine then_normal ?_) | (refine cw_region rfl ?_) | (refine rr_nil ?_) | (refine k_addI rfl rfl (by omega) (by omega) ?_) | (refine in_normal ?_))
      refine ⟨⟨(i + 1, _, _), ⟨by simp only; omega, by simp only; omega, hJ.put h1 (by omega) (fun _ _ h => h.elim) f2 (fun h => absurd h (by omega)) hnew (fun q hq => .inr (hhF q hq)) (fun q hq => .inr (hhI q hq)) hC' f3 hva⟩, by simp only; omega, rfl, trivial⟩, (by (repeat (first | exact agree_refl _ _ | refine agree_upd rfl ?_ | refine agree_updO rfl ?_ | refine agree_overIn rfl ?_ | refine agree_maskIn rfl ?_)))⟩
    · refine k_lit1 (v := .slice (ba pb) n cap) rfl rfl (fun lb w9 hn9 => ⟨fun _ _ => hcell _ (hEx.trans hn9.ex), ?_⟩)
      have lb1 : w1.heap.size ≤ lb := Nat.le_trans hEx.size hn9.lo
      have hb9 := hn9.blk
      replace hEx := hEx.trans hn9.ex
      refine rr_nil ?_
      refine rb_all (fuel := 2) (rs := [7]) (by kernel_rfl) (by kernel_rfl) rfl ?_
      rw [List.forall_mem_singleton]
      refine k_call (moved_spec (xs := p) (hp1.ext hEx) cap (fun k hk => by have := pp.1.lt hk; omega) (by omega)) (by rw [hpl]; rfl) ?_
      rintro v7 w7 ⟨m, rfl, hm, hE7⟩
      refine ⟨fun _ _ => hcell _ (hEx.trans hE7), ?_⟩
      replace hEx := hEx.trans hE7
      try replace hb9 := hb9.ext hE7
      obtain ⟨pt, rfl, hptn, hpt⟩ := hmvd m hm
      refine rr_nil ?_
      refine rb_all (fuel := 1) (rs := [10]) (by kernel_rfl) (by kernel_rfl) rfl ?_
      rw [List.forall_mem_singleton]
      have h0 : ∀ w' : World, Sl w' (ba pb) (u16L p) → PsAt w' n [lb, pb] [⟨ba pb, n, cap⟩] [p] := fun w' hs => PsAt.snoc (sds := []) (ps := []) ⟨rfl, fun i hi => absurd hi (by simp), fun i hi => absurd hi (by simp), fun i hi => absurd hi (by simp)⟩ hs rfl (by rintro _ ⟨⟩; simp)
      refine k_call (newLv_spec (im := [lb, pb]) (gs := [⟨ba pb, n, cap⟩]) (gens := [p]) (gc := 1) hn hptn hgn hb9.sl (h0 _ (hp1.ext hEx)) (by rintro _ ⟨⟩; simp) (by
        intro q hq
        have := hEx.size
        have := hb9.lt
        simp only [List.mem_cons, List.not_mem_nil, or_false] at hq
        omega) (Nat.le_refl _) (by simp)) rfl ?_
      rintro v10 w10 ⟨h', l', rfl, hL', ok', hpt', hg', hd', hE10, hF', hI', _, _, _⟩
      have s1x := hEx.size
      refine ⟨fun _ _ => hcell _ (hEx.trans hE10), ?_⟩
      replace hEx := hEx.trans hE10
      have hhF : ∀ q, q ∈ h'.F → w1.heap.size ≤ q := fun q hq => by have := hF' q hq; omega
      have hhI : ∀ q, q ∈ h'.im → q = pb ∨ w1.heap.size ≤ q := fun q hq => by
        rcases hI' q hq with hq | hq
        · simp only [List.mem_cons, List.not_mem_nil, or_false] at hq; omega
        · exact .inr (by omega)
      have hfit : Fits c1 ls1.length i h' := by
        refine ⟨fun q hq ho => ?_, fun j hj _ q hq => ?_, fun j hj _ q hq hq' => ?_⟩
        · have hlt := hC1.footlt (.inl ho)
          rcases hq with hq | hq
          · have := hhF q hq; omega
          · rcases hhI q hq with rfl | h
            · exact hF1 (.inl ho)
            · omega
        · have := hhF q hq
          exact ⟨fun hq' => by have := (hC1.lv j hj).lt q hq'; omega, fun hq' => by have := (hC1.lv j hj).imlt q hq'; omega⟩
        · have := (hC1.lv j hj).lt q hq
          rcases hhI q hq' with rfl | h
          · exact hF1 (.inr ⟨j, hj, hq⟩)
          · omega
      refine rr_nil ?_
      refine rb_all (fuel := 0) (rs := [11]) (by kernel_rfl) (by kernel_rfl) rfl ?_
      rw [List.forall_mem_singleton]
      refine k_call (put_spec (i := i) (hC1.but i (F := fun _ => False) hEx.fr (fun _ _ h => h) (fun _ _ _ _ _ h => h)) (by omega) hL' hfit (by omega)) (by rw [hcb]; rfl) ?_
      rintro v11 w11 ⟨rfl, va', vc', m', hC', f3, hva⟩
      have f2 : Fr (fun _ => False) w1 w10 := hEx.fr
      have hcb' := hC'.str
      simp only [hcb] at hcb'
      refine ⟨fun _ _ => hcb'.cell (j := 0) (by simp [chL]), ?_⟩
      refine rr_nil ?_
      refine rb_done (by kernel_rfl) ?_
      have hnew : i = ls.length → LvNew n p l' := fun _ => ⟨ok', hg', by rw [hpt']; exact hpt, hd'⟩
      repeat' (first | (refine k_pure rfl ?_) | (refine then_normal ?_) | (refine cw_region rfl ?_) | (refine rr_nil ?_) | (refine k_addI rfl rfl (by omega) (by omega) ?_) | (refine in_normal ?_))
      refine ⟨⟨(i + 1, _, _), ⟨by simp only; omega, by simp only; omega, hJ.put h1 (by omega) (fun _ _ h => h.elim) f2 (fun h => absurd h (by omega)) hnew (fun q hq => .inr (hhF q hq)) (fun q hq => .inr (hhI q hq)) hC' f3 hva⟩, by simp only; omega, rfl, trivial⟩, (by (repeat (first | exact agree_refl _ _ | refine agree_upd rfl ?_ | refine agree_updO rfl ?_ | refine agree_overIn rfl ?_ | refine agree_maskIn rfl ?_)))⟩
  · have hil : i < ls.length := by have := hl1 (by omega); omega
    have hl1' := hl1 (by omega)
    obtain ⟨j, hj, hfd, hjm⟩ := hC1.mok.find (show i < ls1.length by omega)
    have hsame := hJ.same i (.inr (Nat.le_refl _))
    have hLi := hC1.lv i (by omega)
    have oki := hok i h1 hil
    rw [← hsame] at oki
    have hgi := hgl i hil
    rw [← hsame] at hgi
    repeat' (first | (refine k_lookup mapT intT rfl rfl hm1 hfd ?_) | (refine k_pure rfl ?_))
    refine k_call (lvWith_spec hLi oki pp hp1 cap (by rintro _ ⟨⟩ hq; exact hF1 (.inr ⟨i, by omega, hq⟩)) hgi) rfl ?_
    rintro v10 w10 ⟨h', l', rfl, hL', hx', f2, hhF, hhI, hblk'⟩
    refine ⟨fun _ _ => trivial, ?_⟩
    have hhI' : ∀ q, q ∈ h'.im → q ∈ (c1.hs i).im ∨ q = pb ∨ w1.heap.size ≤ q := fun q hq => by
      rcases hhI q hq with h | ⟨ad, e1, e2⟩ | h
      · exact .inl h
      · injection e1 with e1; subst e1; exact .inr (.inl e2.symm)
      · exact .inr (.inr h)
    have s2 := f2.size
    have hfit : Fits c1 ls1.length i h' := by
      have hi1 : i < ls1.length := by omega
      have hnown : ∀ q, q ∈ (c1.hs i).F ∨ q ∈ (c1.hs i).im → ¬ c1.own q := fun q hq ho => by
        obtain ⟨a1, a2, a3⟩ := hC1.fne i hi1 q hq
        rcases ho with ho | ho | ⟨ad, a4, a5⟩
        · exact a1 ho
        · exact a2 ho
        · exact a3 ad a4 a5
      refine ⟨fun q hq ho => ?_, fun j hj hne q hq => ?_, fun j hj hne q hq hq' => ?_⟩
      · have hlt := hC1.footlt (.inl ho)
        rcases hq with hq | hq
        · rcases hhF q hq with h | h
          · exact hnown q (.inl h) ho
          · omega
        · rcases hhI' q hq with h | rfl | h
          · exact hnown q (.inr h) ho
          · exact hF1 (.inl ho)
          · omega
      · rcases hhF q hq with h | h
        · exact ⟨hC1.dis i j hi1 hj (Ne.symm hne) q h, hC1.imd i j hi1 hj q h⟩
        · exact ⟨fun hq' => by have := (hC1.lv j hj).lt q hq'; omega, fun hq' => by have := (hC1.lv j hj).imlt q hq'; omega⟩
      · have := (hC1.lv j hj).lt q hq
        rcases hhI' q hq' with h | rfl | h
        · exact hC1.imd j i hj hi1 q hq h
        · exact hF1 (.inr ⟨j, hj, hq⟩)
        · omega
    have hbut : ChBut w10 n c1 ls1 i := hC1.but i f2 (fun q ho hq => by
      obtain ⟨a1, a2, a3⟩ := hC1.fne i (by omega) q (.inl hq)
      rcases ho with ho | ho | ⟨ad, a4, a5⟩
      · exact a1 ho
      · exact a2 ho
      · exact a3 ad a4 a5) (fun j hj hne q hq hq' => by
      rcases hq with hq | hq
      · exact hC1.dis i j (by omega) hj (Ne.symm hne) q hq' hq
      · exact hC1.imd i j (by omega) hj q hq' hq)
    skip
    refine k_call (put_spec (i := i) hbut (by omega) hL' hfit (by omega)) (by rw [hcb]; rfl) ?_
    rintro v11 w11 ⟨rfl, va', vc', m', hC', f3, hva⟩
    refine ⟨fun _ _ => trivial, ?_⟩
    repeat' (first | (refine k_pure rfl ?_) | (refine then_normal ?_) | (refine cw_region rfl ?_) | (refine rr_nil ?_) | (refine k_addI rfl rfl (by omega) (by omega) ?_) | (refine in_normal ?_))
    refine ⟨⟨(i + 1, _, _), ⟨by simp only; omega, by simp only; omega, hJ.put h1 (by omega) (fun q _ h => .inr ⟨i, by omega, h⟩) f2 (fun _ => hsame ▸ hx') (fun h => absurd h (by omega)) (fun q hq => (hhF q hq).imp (fun h => ⟨by omega, h⟩) id) (fun q hq => (hhI' q hq).imp (fun h => ⟨by omega, h⟩) id) hC' f3 hva⟩, by simp only; omega, rfl, trivial⟩, (by (repeat (first | exact agree_mask _ _ _ | refine agree_upd rfl ?_ | refine agree_updO rfl ?_ | refine agree_overIn rfl ?_ | refine agree_maskIn rfl ?_)))⟩
  · obtain rfl : i = last + 1 := by omega
    exact end0 rfl ⟨rfl, c1, ls1, hJ⟩
end Go.Proofs.Ythhfjagnmhhapaa

namespace Go.W
section
variable {P : Program} {S : World → Prop} {ops : List Oper} {K : Env → World → Prop} {rest : List (Oper × Option Bool)} {ρ : Env} {w : World} {b : Option Bool} {kf : Bool} {d : Nat} {dst : Option Nat} {T T' : TypeId} {pos : String} {af : Array Edge}
theorem run_equalIn_snil {T0 E : TypeId} (h : P.underlying T0 = some (.slice E)) (n : Nat) (a : Addr) (l c l' c' : Nat) (w : World) : (Op.equalIn (n + 1) T0 (.slice (some a) l c) (.slice none l' c')).run P w = .ok false w := by
  simp [Op.equalIn, run_underlying h]
theorem run_equal_snil {T0 E : TypeId} (h : P.underlying T0 = some (.slice E)) (a : Addr) (l c l' c' : Nat) (w : World) : (Op.equal T0 (.slice (some a) l c) (.slice none l' c')).run P w = .ok false w := by
  unfold Op.equal
  exact run_equalIn_snil h 9999 a l c l' c' w
theorem run_eqGuard_slice {op : BinOp} {t : TypeId} {x y : Operand} {a a' : Option Addr} {l c l' c' : Nat} (w : World) : (eqGuard op t x y (.slice a l c) (.slice a' l' c')).run P w = .ok () w := by
  unfold eqGuard; cases op <;> rfl
theorem k_eqSnil {x y : Operand} {a : Addr} {l c l' c' E s sy : Nat} {T'' : TypeId} [hT : Slc P T' E s sy] (hx : ev ρ x = .slice (some a) l c) (hy : ev ρ y = .slice none l' c') (h : RR P S ops K rest (upd ρ d (.bool false)) w) : RR P S ops K ((⟨some d, .binOp .eql T' x y T'', T, pos, af, none⟩, b) :: rest) ρ w :=
  rr_pure rfl (fun w' => by
    simp only [execOp, hx, hy]
    rw [Sem.run_bind_ok (v := .bool false) (w' := w')]
    · rfl
    · rw [Sem.run_bind_ok (run_eqGuard_slice w')]
      show (do pure (Value.bool (← Op.equal T' (.slice (some a) l c) (.slice none l' c'))) : Sem Value).run P w' = _
      rw [Sem.run_bind_ok (run_equal_snil hT.un a l c l' c' w')]; rfl) h
theorem k_max {x y : Operand} {T1 T2 : TypeId} {m m' : Int} (hx : ev ρ x = .int .i64 m) (hy : ev ρ y = .int .i64 m') (h : RR P S ops K rest (upd ρ d (.int .i64 (max m m'))) w) :
    RR P S ops K ((⟨some d, .call ⟨.builtin .max, #[x, y], #[T1, T2]⟩, T, pos, af, none⟩, b) :: rest) ρ w :=
  rr_pure rfl (fun w' => by simp [execOp, resolve, invoke, builtin, Builtin.max_, Builtin.max2, hx, hy]; split <;> omega) h
theorem k_lit0 {T1 E y : Nat} {z : Value} [hT : Slc P T1 E 1 y] [hz : Zro P E z] (h : ∀ g w', New w w' g E [] → (kf = true → S w → S w') ∧ RR P S ops K rest (upd ρ d (.slice (some ⟨g, 0, none⟩) 0 0)) w') :
    RR P S ops K ((⟨some d, .buildSlice T1 0 #[], T, pos, af, none⟩, some kf) :: rest) ρ w :=
  k_lit (E := E) (s := 1) (z := z) (cs := #[]) rfl (by simp [Instr.fill]) h
end
end Go.W
namespace Go.Proofs.Ythhfjagnmhhapaa
open Go.W Go.PM
theorem clone_spec {xs : List Int} {a : Addr} {cap : Nat} {w : World} (hx : Sl w (some a) (u16L xs)) (h0 : 0 < xs.length) (hl : xs.length ≤ 512) :
    CallsR Try.prog 133 #[.slice (some a) xs.length cap] w fun v w' => ∃ g c, v = .slice (ba g) xs.length c ∧ w.heap.size ≤ g ∧ Own w' 0 129 1 (ba g) xs.length c (u16L xs) ∧ Ex w w' := by
  refine callsR_of (args := [_]) Try.func133 rfl rfl ?_
  repeat' (first | (refine k_eqSnil rfl rfl ?_) | (refine k_lit0 (fun g w1 hn1 => ⟨fun _ _ => trivial, ?_⟩)) | (refine k_pure rfl ?_) | (refine then_normal ?_) | (refine cw_seq ?_) | (refine cw_region rfl ?_) | (refine rr_nil ?_) | (refine cw_cond_false rfl ?_) | (refine cw_skip ?_))
  refine k_append (z := .int .u16 0) (s := 1) (vs := []) (lo := w.heap.size) (news := u16L xs) rfl rfl rfl rfl (hn1.blk.own rfl (Nat.zero_le _) hn1.lo) (hx.ext hn1.ex) (hx.plain (by simp; omega)) (by simp) (all_one (fun _ => rfl) _) (by omega) (by omega) hn1.ex.size ?_
  intro a' c' w2 ho hg hA
  refine ⟨fun _ _ => trivial, ?_⟩
  rw [Nat.zero_add] at ho ⊢
  obtain ⟨g', rfl⟩ := ho.baPos h0
  have hlo := (ho.lo _ rfl).1
  simp only at hlo
  have hE : Ex w w2 := grown_ex hg hn1.ex (by rintro _ ⟨⟩; exact hn1.lo)
  repeat' (first | (refine k_pure rfl ?_) | (refine then_normal ?_) | (refine rr_nil ?_) | (refine cw_ret ?_))
  exact ret1 rfl (rt rfl) ⟨g', c', rfl, hlo, ho.mono (Nat.zero_le _), hE⟩
end Go.Proofs.Ythhfjagnmhhapaa

