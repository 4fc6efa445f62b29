import Derived.Test.YtpfhfldehaiokaaGreatA16
set_option maxHeartbeats 2000000
namespace Go.Proofs.YtpfhfldehaiokaaGreat
open Go.W Go.LM Go.LA
def RatC (lo : Nat) (w : World) (cs : List Value) (p q : Int) : Prop := ∃ x y : IH, cs = ratL x y ∧ IntC lo w x.val p ∧ IntC lo w y.val q
section
variable {lo lo' g T : Nat} {w w' : World} {cs : List Value} {p q : Int}
theorem rR (x y : IH) : NoI (ratL x y) := fun v hv m e => by
 simp only [ratL, IH.cells, List.cons_append, List.nil_append, List.mem_cons, List.not_mem_nil, or_false] at hv
 rcases hv with rfl | rfl | rfl | rfl <;> cases e
theorem RatC.len (h : RatC lo w cs p q) : cs.length = 4 := by obtain ⟨x, y, rfl, _⟩ := h; rfl
theorem RatC.one (h : RatC lo w cs p q) : cs.all Value.oneCell' = true := by obtain ⟨x, y, rfl, _⟩ := h; rfl
theorem RatC.ext (h : RatC lo w cs p q) (e : Ex w w') : RatC lo w' cs p q := by obtain ⟨x, y, rfl, h1, h2⟩ := h; exact ⟨x, y, rfl, h1.ext e, h2.ext e⟩
theorem RatC.mono (h : RatC lo w cs p q) (hl : lo' ≤ lo) : RatC lo' w cs p q := by obtain ⟨x, y, rfl, h1, h2⟩ := h; exact ⟨x, y, rfl, h1.mono hl, h2.mono hl⟩
theorem RatC.chg {ds : List Value} (h : RatC lo w cs p q) (hb : Blk w g T ds) (hn : NoI ds) (hc : Chg g w w') : RatC lo w' cs p q := by
 obtain ⟨x, y, rfl, h1, h2⟩ := h; exact ⟨x, y, rfl, h1.gbN hb hn (dx hc), h2.gbN hb hn (dx hc)⟩
theorem gM : NoI (ratL ih0 ih0) := rR _ _
end
theorem RetR.c {w w' : World} {p q : Int} {v : Value} (h : RetR w p q v w') : ∃ cs : List Value, v = .agg cs.toArray ∧ RatC w.heap.size w' cs p q ∧ Ex w w' := by
 obtain ⟨x, y, rfl, h1, h2, h3⟩ := h; exact ⟨_, rfl, ⟨x, y, rfl, h1, h2⟩, h3⟩
theorem RatC.ret {w w' : World} {p q : Int} {cs : List Value} (h : RatC w.heap.size w' cs p q) (e : Ex w w') : RetR w p q (.agg cs.toArray) w' := by
 obtain ⟨x, y, rfl, h1, h2⟩ := h; exact ⟨x, y, rfl, h1, h2, e⟩
def RatK (K : Nat) (w : World) (v : Value) (p q : Int) : Prop := ∃ x y : IH, v = .agg (ratL x y).toArray ∧ IntK K w x.val p ∧ IntK K w y.val q
theorem RatK.ext {K : Nat} {w w' : World} {v : Value} {p q : Int} (h : RatK K w v p q) (e : Ex w w') : RatK K w' v p q := by
 obtain ⟨x, y, rfl, h1, h2⟩ := h; exact ⟨x, y, rfl, h1.ext e, h2.ext e⟩
abbrev gcdI (p q : Int) : Int := ((Nat.gcd p.natAbs q.natAbs : Nat) : Int)
theorem bv {K : Nat} {v : Value} {p q : Int} {w : World} (h : RatK K w v p q) (hq : 0 < q) (hK : K < 17592186044415) :
  CallsR Tryz.prog 121 #[v] w (RetR w (p / gcdI p q) (q / gcdI p q)) := by
 obtain ⟨x, y, rfl, h1, h2⟩ := h
 refine aE (args := [_]) Tryz.func121 rfl rfl ?_
 refine ak ?_
 refine ai rfl ?_
 refine bC (vs := ratL x y) rfl (fun g1 w1 hn1 => tvv ?_)
 refine aH (fun g2 w2 hn2 => tvv ?_)
 have hb1 := hn1.blk.ext hn2.ex
 have hb2 : Blk w2 g2 118 (ratL ih0 ih0) := hn2.blk
 have hE := hn1.ex.trans hn2.ex
 repeat' (first|refine fZ (j := 0) (u := x) (cs := ratL x y) rfl hb1 rfl rfl ?_|refine fZ (j := 2) (u := y) (cs := ratL x y) rfl hb1 rfl rfl ?_|refine aa ?_|refine ak ?_|refine ai rfl ?_|refine ah ?_|refine aM rfl ?_)
 refine au (dW (h1.ext hE) (h2.ext hE) hq hK) rfl ?_
 rintro v w3 ⟨u, rfl, hR⟩
 refine tvv ?_
 obtain ⟨cs, rfl, hC, hE3⟩ := hR.c
 repeat' (first|refine aR rfl rfl ?_|refine aj rfl ?_)
 refine aH (fun g4 w4 hn4 => tvv ?_)
 have hb4 : Blk w4 g4 118 (ratL ih0 ih0) := hn4.blk
 refine aF (n := 4) rfl rfl hC.len hC.one hb4 rfl (fun w5 hc5 hb5 => tvv ?_)
 have hC5 := (hC.ext hn4.ex).chg hb4 gM hc5
 have lo4 := hn4.lo
 have s3 := hE3.size
 have lo2 := hn2.lo
 have hi2 := hn2.hi
 have hb25 := ((hb2.ext hE3).ext hn4.ex).chg hc5 (by omega)
 repeat' (first|refine aY rfl hb5 hC.len ?_|refine aj rfl ?_|refine aa ?_|refine ak ?_|refine ai rfl ?_|refine ah ?_|refine ao rfl ?_|refine aC ?_)
 refine aF (n := 4) rfl rfl hC.len hC.one hb25 rfl (fun w6 hc6 hb6 => tvv ?_)
 have hC6 := hC5.chg hb25 gM hc6
 have s1 := hn1.ex.size
 repeat' (first|refine aa ?_|refine ah ?_|refine aK ?_)
 exact bo rfl (rc rfl hC.len hb6) ((hC6.mono hE.size).ret (((hE.trans hE3).trans ((hn4.ex).chg hc5 (by omega))).chg hc6 (by omega)))
theorem kh {K : Nat} {v1 v2 : Value} {p q : Int} {w : World} (h1 : IntK K w v1 p) (h2 : IntK K w v2 q) (hq : 0 < q) (hK : K < 17592186044415) :
  CallsR Tryz.prog 80 #[v1, v2] w (RetR w (p / gcdI p q) (q / gcdI p q)) := by
 obtain ⟨x, rfl⟩ : ∃ x : IH, v1 = x.val := by obtain ⟨neg, a, c, ls, rfl, _⟩ := h1; exact ⟨⟨neg, ⟨a, ls.length, c⟩⟩, rfl⟩
 obtain ⟨y, rfl⟩ : ∃ x : IH, v2 = x.val := by obtain ⟨neg, a, c, ls, rfl, _⟩ := h2; exact ⟨⟨neg, ⟨a, ls.length, c⟩⟩, rfl⟩
 refine aE (args := [_, _]) Tryz.func80 rfl rfl ?_
 refine ak ?_
 refine ai rfl ?_
 refine bC (vs := x.cells) rfl (fun g1 w1 hn1 => tvv ?_)
 refine bC (vs := y.cells) rfl (fun g2 w2 hn2 => tvv ?_)
 refine aH (fun g3 w3 hn3 => tvv ?_)
 have hb1 := (hn1.blk.ext hn2.ex).ext hn3.ex
 have hb2 := hn2.blk.ext hn3.ex
 have hb3 : Blk w3 g3 118 (ratL ih0 ih0) := hn3.blk
 have hE := (hn1.ex.trans hn2.ex).trans hn3.ex
 repeat' (first|refine aY (cs := x.cells) rfl hb1 rfl ?_|refine aY (cs := y.cells) rfl hb2 rfl ?_|refine da (cs := ratL x y) rfl ?_|refine aa ?_|refine ak ?_|refine ai rfl ?_|refine ah ?_)
 refine au (bv (K := K) (p := p) (q := q) ⟨x, y, rfl, h1.ext hE, h2.ext hE⟩ hq hK) rfl ?_
 rintro v w4 hR
 refine tvv ?_
 obtain ⟨cs, rfl, hC, hE4⟩ := hR.c
 have hb34 := hb3.ext hE4
 refine aF (n := 4) rfl rfl hC.len hC.one hb34 rfl (fun w5 hc5 hb5 => tvv ?_)
 have lo3 := hn3.lo
 have s2 := (hn1.ex.trans hn2.ex).size
 repeat' (first|refine aa ?_|refine ah ?_|refine aK ?_)
 exact bo rfl (rc rfl hC.len hb5) (((hC.chg hb34 gM hc5).mono hE.size).ret ((hE.trans hE4).chg hc5 (by omega)))
theorem sR {p q : Int} (hq : 0 < q) : (p / gcdI p q) / (q / gcdI p q) = p / q := by
 have hg : (0 : Int) < gcdI p q := by
  have : 0 < Nat.gcd p.natAbs q.natAbs := Nat.gcd_pos_of_pos_right _ (by omega)
  unfold gcdI; omega
 have d1 : gcdI p q ∣ p := Int.ofNat_dvd_left.2 (Nat.gcd_dvd_left _ _)
 have d2 : gcdI p q ∣ q := Int.ofNat_dvd_left.2 (Nat.gcd_dvd_right _ _)
 obtain ⟨a, ha⟩ := d1
 obtain ⟨b, hb⟩ := d2
 generalize gcdI p q = g at *
 subst ha hb
 rw [Int.mul_ediv_cancel_left _ (by omega), Int.mul_ediv_cancel_left _ (by omega), Int.mul_ediv_mul_of_pos _ _ hg]
theorem jO {p q : Int} (hq : 0 < q) : 0 < q / gcdI p q := by
 have hg : (0 : Int) < gcdI p q := by
  have : 0 < Nat.gcd p.natAbs q.natAbs := Nat.gcd_pos_of_pos_right _ (by omega)
  unfold gcdI; omega
 have d2 : gcdI p q ∣ q := Int.ofNat_dvd_left.2 (Nat.gcd_dvd_right _ _)
 obtain ⟨b, hb⟩ := d2
 generalize gcdI p q = g at *
 subst hb
 rw [Int.mul_ediv_cancel_left _ (by omega)]
 exact jN hg hq
theorem iX {p q : Int} (hq : 0 < q) : (p / gcdI p q) * q = p * (q / gcdI p q) := by
 have hg : (0 : Int) < gcdI p q := by
  have : 0 < Nat.gcd p.natAbs q.natAbs := Nat.gcd_pos_of_pos_right _ (by omega)
  unfold gcdI; omega
 have d1 : gcdI p q ∣ p := Int.ofNat_dvd_left.2 (Nat.gcd_dvd_left _ _)
 have d2 : gcdI p q ∣ q := Int.ofNat_dvd_left.2 (Nat.gcd_dvd_right _ _)
 obtain ⟨a, ha⟩ := d1
 obtain ⟨b, hb⟩ := d2
 generalize gcdI p q = g at *
 subst ha hb
 rw [Int.mul_ediv_cancel_left _ (by omega), Int.mul_ediv_cancel_left _ (by omega)]; grind
theorem pP {p q r s : Int} (hq : 0 < q) (hs : 0 < s) (h : p * s = r * q) : p / q = r / s := by
 rw [← Int.mul_ediv_mul_of_pos_left p q hs, h, Int.mul_comm q s, Int.mul_comm r q, Int.mul_comm s q, Int.mul_ediv_mul_of_pos _ _ hq]
theorem m9 {K : Nat} {v : Value} {p q : Int} {w : World} (h : RatK K w v p q) (hq : 0 < q) (hK : K < 17592186044415) :
  CallsR Tryz.prog 118 #[v] w (RetZ w (p / q)) := by
 obtain ⟨x, y, rfl, h1, h2⟩ := h
 have l1 := h1.lt
 have l2 := h2.lt
 refine aE (args := [_]) Tryz.func118 rfl rfl ?_
 refine ak ?_
 refine ai rfl ?_
 refine bC (vs := ratL x y) rfl (fun g1 w1 hn1 => tvv ?_)
 refine aH (fun g2 w2 hn2 => tvv ?_)
 have hb1 := hn1.blk.ext hn2.ex
 have hb2 : Blk w2 g2 34 (intL false none 0 0) := hn2.blk
 have hE := hn1.ex.trans hn2.ex
 repeat' (first|refine aY (cs := ratL x y) rfl hb1 rfl ?_|refine aa ?_|refine ak ?_|refine ai rfl ?_|refine ah ?_)
 refine au (bv (K := K) (p := p) (q := q) ⟨x, y, rfl, h1.ext hE, h2.ext hE⟩ hq hK) rfl ?_
 rintro v w3 ⟨x3, y3, rfl, hx3, hy3, hE3⟩
 refine tvv ?_
 refine aH (fun g4 w4 hn4 => tvv ?_)
 have hb4 : Blk w4 g4 118 (ratL ih0 ih0) := hn4.blk
 refine aF (n := 4) (vs := ratL x3 y3) rfl rfl rfl rfl hb4 rfl (fun w5 hc5 hb5 => tvv ?_)
 have hx5 := (hx3.ext hn4.ex).gbN hb4 gM (dx hc5)
 have hy5 := (hy3.ext hn4.ex).gbN hb4 gM (dx hc5)
 have lo4 := hn4.lo
 have s3 := hE3.size
 have lo2 := hn2.lo
 have hi2 := hn2.hi
 have hE5 : Ex w3 w5 := hn4.ex.chg hc5 (by omega)
 have hb25 := (hb2.ext hE3).ext hE5
 repeat' (first|refine fZ (j := 0) (u := x3) (cs := ratL x3 y3) rfl hb5 rfl rfl ?_|refine fZ (j := 2) (u := y3) (cs := ratL x3 y3) rfl hb5 rfl rfl ?_|refine aa ?_|refine ak ?_|refine ai rfl ?_|refine ah ?_|refine aM rfl ?_)
 refine au (fk (hx5.k (k := K) (Nat.lt_of_le_of_lt (dV _ _) l1)) (hy5.k (k := K) (Nat.lt_of_le_of_lt (dV _ _) l2)) hK hK) rfl ?_
 rintro v w6 ⟨hI6, hE6⟩
 refine tvv ?_
 obtain ⟨u6, rfl⟩ := hI6.ih
 have hb26 := hb25.ext hE6
 refine aF (n := 2) (vs := u6.cells) rfl rfl rfl rfl hb26 rfl (fun w7 hc7 hb7 => tvv ?_)
 repeat' (first|refine aa ?_|refine ah ?_|refine aK ?_)
 rw [sR hq] at hI6
 have s5 := hE5.size
 have s1 := hn1.ex.size
 exact bo rfl (rc rfl rfl hb7) ⟨(hI6.gbN hb26 (cg _ _ _ _) (dx hc7)).mono (by have := hE.size; omega), (((hE.trans hE3).trans hE5).trans hE6).chg hc7 (by omega)⟩
theorem oA {w : World} : CallsR Tryz.prog 120 #[] w (RetR w 1 2) := by
 refine aE (args := []) Tryz.func120 rfl rfl ?_
 refine ak ?_
 refine ai rfl ?_
 refine aH (fun g1 w1 hn1 => tvv ?_)
 have hb1 : Blk w1 g1 118 (ratL ih0 ih0) := hn1.blk
 repeat' (first|refine aa ?_|refine ak ?_|refine ai rfl ?_|refine ah ?_)
 refine au (bV (z := 1) (by omega) (by omega) _) rfl ?_
 rintro v w2 ⟨hI2, hE2⟩
 refine tvv ?_
 obtain ⟨x, rfl⟩ := hI2.ih
 skip
 refine au (bV (z := 2) (by omega) (by omega) _) rfl ?_
 rintro v w3 ⟨hI3, hE3⟩
 refine tvv ?_
 obtain ⟨y, rfl⟩ := hI3.ih
 have hb3 := (hb1.ext hE2).ext hE3
 repeat' (first|refine da (cs := ratL x y) rfl ?_)
 refine aF (n := 4) (vs := ratL x y) rfl rfl rfl rfl hb3 rfl (fun w4 hc4 hb4 => tvv ?_)
 repeat' (first|refine aa ?_|refine ah ?_|refine aK ?_)
 have s1 := hn1.ex.size
 have s2 := hE2.size
 have hC : RatC w.heap.size w4 (ratL x y) 1 2 := ⟨x, y, rfl, ((hI2.ext hE3).gbN hb3 gM (dx hc4)).mono s1, (hI3.gbN hb3 gM (dx hc4)).mono (by omega)⟩
 exact bo rfl (rc rfl rfl hb4) (hC.ret (((hn1.ex.trans hE2).trans hE3).chg hc4 hn1.lo))
end Go.Proofs.YtpfhfldehaiokaaGreat
