import Derived.Test.YtmgpiminicgbiaaG7
namespace Go.Proofs.Ytmgpiminicgbiaa
set_option linter.unusedVariables false
set_option linter.unusedSimpArgs false
open Go.RowKit
/-! ## Windows -/
def win (l : List UInt8) (a m : Nat) : List UInt8 := (l.drop a).take m
def splB (l : List UInt8) (off : Nat) (b : List UInt8) : List UInt8 := l.take off ++ b ++ l.drop (off + b.length)
theorem splB_length (l : List UInt8) (off : Nat) (b : List UInt8) (h : off + b.length ≤ l.length) : (splB l off b).length = l.length := by simp [splB]; omega
theorem splB_get (l : List UInt8) (off : Nat) (b : List UInt8) (h : off + b.length ≤ l.length) (k : Nat) : (splB l off b)[k]? = if k < off then l[k]? else if k < off + b.length then b[k - off]? else l[k]? := by
  have e : (l.take off).length = off := by simp; omega
  have e2 : (l.take off ++ b).length = off + b.length := by simp; omega
  unfold splB
  split
  · rename_i hk
    rw [List.getElem?_append_left (by omega), List.getElem?_append_left (by omega), List.getElem?_take, if_pos hk]
  · rename_i hk
    split
    · rename_i hk2
      rw [List.getElem?_append_left (by omega), List.getElem?_append_right (by omega), e]
    · rename_i hk2
      rw [List.getElem?_append_right (by omega), e2, List.getElem?_drop]
      congr 1; omega
theorem win_get (l : List UInt8) (a m k : Nat) : (win l a m)[k]? = if k < m then l[a + k]? else none := by
  unfold win
  rw [List.getElem?_take]; split
  · rw [List.getElem?_drop]
  · rfl
theorem win_splB (l : List UInt8) (off : Nat) (b : List UInt8) (h : off + b.length ≤ l.length) (a m : Nat) :
    (a = off → m = b.length → win (splB l off b) a m = b) ∧ (a + m ≤ off ∨ off + b.length ≤ a → win (splB l off b) a m = win l a m) := by
  constructor
  · intro ha hm
    apply List.ext_getElem?
    intro k
    rw [win_get, splB_get _ _ _ h]
    by_cases hk : k < m
    · rw [if_pos hk, if_neg (by omega), if_pos (by omega)]; congr 1; omega
    · rw [if_neg hk, List.getElem?_eq_none (by omega)]
  · intro ha
    apply List.ext_getElem?
    intro k
    rw [win_get, win_get, splB_get _ _ _ h]
    by_cases hk : k < m
    · rw [if_pos hk, if_pos hk]
      rcases ha with ha | ha
      · rw [if_pos (by omega)]
      · rw [if_neg (by omega), if_neg (by omega)]
    · rw [if_neg hk, if_neg hk]
theorem win_in {l : List UInt8} {off : Nat} {b : List UInt8} (h : off + b.length ≤ l.length) : win (splB l off b) off b.length = b := (win_splB l off b h off b.length).1 rfl rfl
theorem win_out {l : List UInt8} {off : Nat} {b : List UInt8} (h : off + b.length ≤ l.length) {a m : Nat} (ha : a + m ≤ off ∨ off + b.length ≤ a) : win (splB l off b) a m = win l a m := (win_splB l off b h a m).2 ha
def beL (v : Int) (size : Nat) : List UInt8 := (List.range size).map (beB v size)
@[simp] theorem beL_length (v : Int) (size : Nat) : (beL v size).length = size := by simp [beL]
theorem putN_splB (l : List UInt8) (off : Nat) (v : Int) (size : Nat) : putN l off v size size = splB l off (beL v size) := by simp [putN, splB, beL]
theorem setB_splB (l : List UInt8) (off : Nat) (b : List UInt8) (h : off + b.length ≤ l.length) : setB l off b = splB l off b := by
  unfold setB splB
  rw [List.take_of_length_le (l := b) (by omega), show min b.length (l.length - off) = b.length by omega]
theorem set_splB (l : List UInt8) (k : Nat) (x : UInt8) (h : k < l.length) : l.set k x = splB l k [x] := by
  unfold splB
  rw [List.set_eq_take_append_cons_drop, if_pos h]; simp
theorem beB_nat (n size i : Nat) (hi : i < size) : (beB (n : Int) size i).toNat = n / 256 ^ (size - 1 - i) % 256 := by
  unfold beB
  have e1 : ((n : Int).fdiv (2 ^ (8 * (size - 1 - i)))) = ((n / 256 ^ (size - 1 - i) : Nat) : Int) := by
    have e : (2 : Int) ^ (8 * (size - 1 - i)) = ((256 ^ (size - 1 - i) : Nat) : Int) := by rw [Int.pow_mul]; norm_cast
    rw [e, Int.fdiv_eq_ediv_of_nonneg _ (Int.natCast_nonneg _)]; norm_cast
  rw [e1]
  have e2 : (IntKind.u8.wrap ((n / 256 ^ (size - 1 - i) : Nat) : Int)).toNat = n / 256 ^ (size - 1 - i) % 256 := by
    rw [IntKind.wrap_u8]; omega
  rw [e2]
  simp
theorem getU_be (n size : Nat) (hs : size ≤ 8) : ∀ j, j ≤ size → ((List.range j).map (beB (n : Int) size)).foldl getStep 0 = n / 256 ^ (size - j) % 256 ^ j := by
  intro j
  induction j with
  | zero => intro _; simp [Nat.mod_one]
  | succ j ih =>
    intro hj
    rw [List.range_succ, List.map_append, List.foldl_append, ih (by omega)]
    simp only [List.map_cons, List.map_nil, List.foldl_cons, List.foldl_nil, getStep]
    rw [beB_nat n size j (by omega)]
    have e : size - j = (size - 1 - j) + 1 := by omega
    have e' : size - (j + 1) = size - 1 - j := by omega
    rw [e, e', Nat.pow_succ, ← Nat.div_div_eq_div_mul]
    generalize n / 256 ^ (size - 1 - j) = q
    have hq : q / 256 % 256 ^ j * 256 + q % 256 = q % 256 ^ (j + 1) := by
      rw [Nat.pow_succ, Nat.mul_comm (256 ^ j) 256, Nat.mod_mul]; omega
    rw [hq]
    apply Nat.mod_eq_of_lt
    have h1 : q % 256 ^ (j + 1) < 256 ^ (j + 1) := Nat.mod_lt _ (Nat.pos_of_ne_zero (by simp))
    have h2 : 256 ^ (j + 1) ≤ 256 ^ 8 := Nat.pow_le_pow_right (by decide) (by omega)
    have h3 : (256 : Nat) ^ 8 = 18446744073709551616 := by decide
    omega
theorem getU_beL (n size : Nat) (hs : size ≤ 8) (hn : n < 256 ^ size) : getU (beL n size) = n := by
  unfold getU beL
  rw [getU_be n size hs size (Nat.le_refl _), Nat.sub_self, Nat.pow_zero, Nat.div_one, Nat.mod_eq_of_lt hn]
theorem byteOf_toNat (n : Nat) (h : n < 256) : (byteOf n).toNat = n := by
  unfold byteOf
  rw [IntKind.wrap_u8, show ((n : Int) % 256).toNat = n by omega, UInt8.toNat_ofNat']; omega
theorem getI_win (l : List UInt8) (off size : Nat) (n : Nat) (hs : size ≤ 8) (hn : n < 256 ^ size) (h63 : n < 9223372036854775808) (h : win l off size = beL n size) : getI l off size = n := by
  unfold getI
  rw [show (l.drop off).take size = win l off size from rfl, h, getU_beL n size hs hn, IntWalk.i64_in _ (by omega)]
theorem at8_win (l : List UInt8) (k : Nat) (x : UInt8) (h : win l k 1 = [x]) : at8 l k = x := by
  have := win_get l k 1 0
  rw [h] at this
  simp at this
  unfold at8; rw [← this]; rfl
theorem parse_head (n e b : Nat) (body : List UInt8) (hn : 0 < n ∧ n < 4611686018427387904) (he : e < 4294967296) (hb : b ≤ e) (hl : body.length ≤ 32) : parseH (headL ⟨n, e, b, body⟩) ((n : Int).tmod 2) = some ⟨n, e, b, body⟩ := by
  obtain ⟨l1, h1⟩ : ∃ l1, l1 = splB z64 0 (beL n 8) := ⟨_, rfl⟩
  have n1 : l1.length = 64 := by rw [h1, splB_length _ _ _ (by simp [z64_length])]; exact z64_length
  obtain ⟨l2, h2⟩ : ∃ l2, l2 = splB l1 8 (beL e 4) := ⟨_, rfl⟩
  have n2 : l2.length = 64 := by rw [h2, splB_length _ _ _ (by simp [n1])]; exact n1
  obtain ⟨l3, h3⟩ : ∃ l3, l3 = splB l2 12 (beL b 4) := ⟨_, rfl⟩
  have n3 : l3.length = 64 := by rw [h3, splB_length _ _ _ (by simp [n2])]; exact n2
  obtain ⟨l4, h4⟩ : ∃ l4, l4 = splB l3 16 [byteOf body.length] := ⟨_, rfl⟩
  have n4 : l4.length = 64 := by rw [h4, splB_length _ _ _ (by simp [n3])]; exact n3
  obtain ⟨l5, h5⟩ : ∃ l5, l5 = splB l4 17 body := ⟨_, rfl⟩
  have n5 : l5.length = 64 := by rw [h5, splB_length _ _ _ (by omega)]; exact n4
  obtain ⟨l6, h6⟩ : ∃ l6, l6 = splB l5 56 (beL n 8) := ⟨_, rfl⟩
  have hL : headL ⟨n, e, b, body⟩ = l6 := by
    unfold headL
    simp only
    rw [putN_splB z64, ← h1, putN_splB l1, ← h2, putN_splB l2, ← h3, set_splB _ _ _ (by omega), ← h4, setB_splB _ _ _ (by omega), ← h5, putN_splB l5, ← h6]
  have w6 : ∀ a m, a + m ≤ 56 → win l6 a m = win l5 a m := fun a m h => by rw [h6]; exact win_out (by simp [n5]) (.inl h)
  have w5 : ∀ a m, a + m ≤ 17 → win l5 a m = win l4 a m := fun a m h => by rw [h5]; exact win_out (by omega) (.inl h)
  have w4 : ∀ a m, a + m ≤ 16 → win l4 a m = win l3 a m := fun a m h => by rw [h4]; exact win_out (by simp [n3]) (.inl h)
  have w3 : ∀ a m, a + m ≤ 12 → win l3 a m = win l2 a m := fun a m h => by rw [h3]; exact win_out (by simp [n2]) (.inl h)
  have w2 : ∀ a m, a + m ≤ 8 → win l2 a m = win l1 a m := fun a m h => by rw [h2]; exact win_out (by simp [n1]) (.inl h)
  have b6 : win l6 56 8 = beL n 8 := by rw [h6]; exact win_in (b := beL n 8) (by simp [n5])
  have b5 : win l6 17 body.length = body := by rw [w6 _ _ (by omega), h5]; exact win_in (by omega)
  have b4 : win l6 16 1 = [byteOf body.length] := by rw [w6 _ _ (by omega), w5 _ _ (by omega), h4]; exact win_in (b := [byteOf body.length]) (by simp [n3])
  have b3 : win l6 12 4 = beL b 4 := by rw [w6 _ _ (by omega), w5 _ _ (by omega), w4 _ _ (by omega), h3]; exact win_in (b := beL b 4) (by simp [n2])
  have b2 : win l6 8 4 = beL e 4 := by rw [w6 _ _ (by omega), w5 _ _ (by omega), w4 _ _ (by omega), w3 _ _ (by omega), h2]; exact win_in (b := beL e 4) (by simp [n1])
  have b1 : win l6 0 8 = beL n 8 := by rw [w6 _ _ (by omega), w5 _ _ (by omega), w4 _ _ (by omega), w3 _ _ (by omega), w2 _ _ (by omega), h1]; exact win_in (b := beL n 8) (by simp [z64_length])
  have g6 := getI_win l6 56 8 n (by decide) (by omega) (by omega) b6
  have g1 := getI_win l6 0 8 n (by decide) (by omega) (by omega) b1
  have g2 := getI_win l6 8 4 e (by decide) (by omega) (by omega) b2
  have g3 := getI_win l6 12 4 b (by decide) (by omega) (by omega) b3
  have g4 : (at8 l6 16).toNat = body.length := by rw [at8_win _ _ _ b4, byteOf_toNat _ (by omega)]
  have g5 : (l6.drop 17).take body.length = body := b5
  unfold parseH
  rw [hL, g6, g1, g2, g3, g4, g5, if_neg]
  rintro (h | h | h | h | h | h)
  · exact h rfl
  · omega
  · omega
  · exact h rfl
  · omega
  · omega
theorem unframe_frame (e k : Nat) (last : Bool) (body : List UInt8) (he : 1 ≤ e ∧ e < 4294967296) (hk : k < 4294967296) (hl : body.length ≤ 46) : unframeF (frameL ⟨e, k, last, body⟩) k = some ⟨e, k, last, body⟩ := by
  obtain ⟨l1, h1⟩ : ∃ l1, l1 = splB z64 0 (beL e 4) := ⟨_, rfl⟩
  have n1 : l1.length = 64 := by rw [h1, splB_length _ _ _ (by simp [z64_length])]; exact z64_length
  obtain ⟨l2, h2⟩ : ∃ l2, l2 = splB l1 4 (beL k 4) := ⟨_, rfl⟩
  have n2 : l2.length = 64 := by rw [h2, splB_length _ _ _ (by simp [n1])]; exact n1
  have z8 : win l2 8 1 = [0] := by
    rw [h2, win_out (by simp [n1]) (.inr (by simp)), h1, win_out (by simp [z64_length]) (.inr (by simp))]; decide
  obtain ⟨l3, h3⟩ : ∃ l3, l3 = if last = true then splB l2 8 [1] else l2 := ⟨_, rfl⟩
  have n3 : l3.length = 64 := by rw [h3]; split; rw [splB_length _ _ _ (by simp [n2])]; exact n2; exact n2
  obtain ⟨l4, h4⟩ : ∃ l4, l4 = splB l3 9 [byteOf body.length] := ⟨_, rfl⟩
  have n4 : l4.length = 64 := by rw [h4, splB_length _ _ _ (by simp [n3])]; exact n3
  obtain ⟨l5, h5⟩ : ∃ l5, l5 = splB l4 10 body := ⟨_, rfl⟩
  have n5 : l5.length = 64 := by rw [h5, splB_length _ _ _ (by omega)]; exact n4
  have hP : frameP ⟨e, k, last, body⟩ = l5 := by
    unfold frameP
    simp only
    rw [putN_splB z64, ← h1, putN_splB l1, ← h2, set_splB l2 8 1 (by omega), ← h3, set_splB _ _ _ (by omega), ← h4, setB_splB _ _ _ (by omega), ← h5]
  have nt : (l5.take 8).length = 8 := by simp [n5]
  obtain ⟨l6, h6⟩ : ∃ l6, l6 = splB l5 56 (l5.take 8) := ⟨_, rfl⟩
  have n6 : l6.length = 64 := by rw [h6, splB_length _ _ _ (by omega)]; exact n5
  have hL : frameL ⟨e, k, last, body⟩ = l6 := by
    unfold frameL
    rw [hP, setB_splB _ _ _ (by omega), ← h6]
  have w6 : ∀ a m, a + m ≤ 56 → win l6 a m = win l5 a m := fun a m h => by rw [h6]; exact win_out (by omega) (.inl h)
  have w5 : ∀ a m, a + m ≤ 10 → win l5 a m = win l4 a m := fun a m h => by rw [h5]; exact win_out (by omega) (.inl h)
  have w4 : ∀ a m, a + m ≤ 9 → win l4 a m = win l3 a m := fun a m h => by rw [h4]; exact win_out (by simp [n3]) (.inl h)
  have w3 : ∀ a m, a + m ≤ 8 → win l3 a m = win l2 a m := fun a m h => by
    rw [h3]; split
    · exact win_out (by simp [n2]) (.inl h)
    · rfl
  have w2 : ∀ a m, a + m ≤ 4 → win l2 a m = win l1 a m := fun a m h => by rw [h2]; exact win_out (by simp [n1]) (.inl h)
  have b6 : win l6 56 8 = l5.take 8 := by
    have := win_in (l := l5) (off := 56) (b := l5.take 8) (by omega)
    rw [nt] at this; rw [h6]; exact this
  have b7 : l6.drop 56 = win l6 56 8 := by unfold win; rw [List.take_of_length_le (by simp [n6])]
  have b8 : l6.take 8 = l5.take 8 := w6 0 8 (by omega)
  have b5 : win l6 10 body.length = body := by rw [w6 _ _ (by omega), h5]; exact win_in (by omega)
  have b4 : win l6 9 1 = [byteOf body.length] := by rw [w6 _ _ (by omega), w5 _ _ (by omega), h4]; exact win_in (b := [byteOf body.length]) (by simp [n3])
  have b3 : win l6 8 1 = [if last = true then 1 else 0] := by
    rw [w6 _ _ (by omega), w5 _ _ (by omega), w4 _ _ (by omega), h3]
    split
    · exact win_in (b := [1]) (by simp [n2])
    · exact z8
  have b2 : win l6 4 4 = beL k 4 := by rw [w6 _ _ (by omega), w5 _ _ (by omega), w4 _ _ (by omega), w3 _ _ (by omega), h2]; exact win_in (b := beL k 4) (by simp [n1])
  have b1 : win l6 0 4 = beL e 4 := by rw [w6 _ _ (by omega), w5 _ _ (by omega), w4 _ _ (by omega), w3 _ _ (by omega), w2 _ _ (by omega), h1]; exact win_in (b := beL e 4) (by simp [z64_length])
  have g1 := getI_win l6 0 4 e (by decide) (by omega) (by omega) b1
  have g2 := getI_win l6 4 4 k (by decide) (by omega) (by omega) b2
  have g3 : at8 l6 8 = if last = true then 1 else 0 := at8_win _ _ _ b3
  have g4 : (at8 l6 9).toNat = body.length := by rw [at8_win _ _ _ b4, byteOf_toNat _ (by omega)]
  have g5 : (l6.drop 10).take body.length = body := b5
  unfold unframeF
  rw [hL, g1, g2, g3, g4, g5, if_neg]
  · cases last <;> rfl
  · rintro (h | h | h | h | h)
    · exact h (by rw [b7, b6, b8])
    · exact h rfl
    · cases last <;> simp at h
    · omega
    · omega
end Go.Proofs.Ytmgpiminicgbiaa
namespace Go.Proofs.Ytmgpiminicgbiaa
set_option linter.unusedVariables false
set_option linter.unusedSimpArgs false
open Go.RowKit
/-! ## What the sectors of a device without a bound hold -/
theorem lastW_snoc (ws : List (Nat × B64)) (j : Nat) (x : B64) (i : Nat) (b : B64) : lastW (ws ++ [(j, x)]) i b = if j = i then x else lastW ws i b := by
  simp [lastW]
theorem padB_64 (l : List UInt8) (h : l.length = 64) : (padB l).1 = l := by
  simp only [padB]
  rw [List.take_append_of_le_length (by omega), List.take_of_length_le (by omega)]
theorem secL_write {n c : Nat} {D : DevS} (h : Free n c D) (j : Int) (hj : 0 ≤ j ∧ j < n + 2) (l : List UInt8) (hl : l.length = 64) (i : Nat) : secL (writeS D j l) i = if j.toNat = i then l else secL D i := by
  have hc := h.chk j hj l.length (by omega)
  unfold secL curS
  rw [writeS_kept]
  unfold writeS
  rw [if_pos hc]
  simp only [countS]
  rw [lastW_snoc]
  split
  · exact padB_64 l hl
  · rfl
theorem putW_get (k : List B64) (w : Nat × B64) (hw : w.1 < k.length) (i : Nat) : ((putW k w)[i]?).getD zB = if w.1 = i then w.2 else (k[i]?).getD zB := by
  unfold putW
  rw [List.getElem?_set]
  split
  · rename_i e; subst e; simp [hw]
  · rfl
theorem putW_fold (i : Nat) : ∀ (ws : List (Nat × B64)) (k : List B64), (∀ w ∈ ws, w.1 < k.length) → ((ws.foldl putW k)[i]?).getD zB = lastW ws i ((k[i]?).getD zB) := by
  intro ws
  induction ws with
  | nil => intro k _; rfl
  | cons w ws ih =>
    intro k h
    have hk : (putW k w).length = k.length := by simp [putW]
    have h1 := h w (by simp)
    rw [List.foldl_cons, ih _ fun v hv => by rw [hk]; exact h v (List.mem_cons_of_mem _ hv), putW_get k w h1 i]
    simp only [lastW, List.foldl_cons]
theorem secL_flush {n c : Nat} {D : DevS} (h : Free n c D) (i : Nat) : secL (flushS D) i = secL D i := by
  have hc := h.chk 0 (by omega) 0 (by decide)
  unfold secL curS flushS
  rw [if_pos hc]
  simp only [countS, lastW, List.foldl_nil]
  rw [putW_fold i D.wait D.kept h.ok.w1]
  rfl
theorem secL_lay {n : Nat} (i : Nat) : ∀ (fs : List FrameS) (c : Nat) (D : DevS), Free n c D → c + fs.length ≤ 40000 → (∀ f ∈ fs, 0 ≤ f.k ∧ f.k < n) → (∀ f ∈ fs, 2 + f.k ≠ (i : Int)) → secL (layS D fs).2 i = secL D i := by
  intro fs
  induction fs with
  | nil => intro c D h _ _ _; exact secL_flush h i
  | cons f r ih =>
    intro c D h hc hf hne
    obtain ⟨f1, f2⟩ := hf f (by simp)
    have hn := hne f (by simp)
    simp only [List.length_cons] at hc
    simp only [layS]
    rw [if_neg (by rw [h.chk (2 + f.k) (by omega) 64 (by decide)]; decide)]
    have hw := h.write (by omega) (2 + f.k) (by omega) (frameL f) (by rw [frameL_length]; decide)
    rw [ih (c + 1) _ hw (by omega) (fun g hg => hf g (List.mem_cons_of_mem _ hg)) (fun g hg => hne g (List.mem_cons_of_mem _ hg)), secL_write h (2 + f.k) (by omega) _ (frameL_length f), if_neg (by omega)]
/-- frames laid one behind the other are there -/
theorem secL_lay_hit {n : Nat} : ∀ (fs : List FrameS) (c : Nat) (D : DevS) (a : Nat), Free n c D → c + fs.length ≤ 40000 → a + fs.length ≤ n → (∀ j (hj : j < fs.length), fs[j].k = ((a + j : Nat) : Int)) → ∀ j (hj : j < fs.length), secL (layS D fs).2 (2 + (a + j)) = frameL fs[j] := by
  intro fs
  induction fs with
  | nil => intro c D a _ _ _ _ j hj; simp at hj
  | cons f r ih =>
    intro c D a h hc hn hk j hj
    simp only [List.length_cons] at hc hn
    have k0 := hk 0 (by simp)
    simp only [List.getElem_cons_zero, Nat.add_zero] at k0
    have hk' : ∀ i (hi : i < r.length), r[i].k = ((a + 1 + i : Nat) : Int) := fun i hi => by
      have := hk (i + 1) (by simp; omega)
      simp only [List.getElem_cons_succ] at this
      rw [this]; congr 1; omega
    simp only [layS]
    rw [if_neg (by rw [h.chk (2 + f.k) (by omega) 64 (by decide)]; decide)]
    have hw := h.write (by omega) (2 + f.k) (by omega) (frameL f) (by rw [frameL_length]; decide)
    cases j with
    | zero =>
      have hr : ∀ g ∈ r, ∃ i, i < r.length ∧ g.k = ((a + 1 + i : Nat) : Int) := fun g hg => by
        obtain ⟨i, hi, e⟩ := List.getElem_of_mem hg
        exact ⟨i, hi, by rw [← e]; exact hk' i hi⟩
      rw [secL_lay (2 + (a + 0)) r (c + 1) _ hw (by omega) (fun g hg => by obtain ⟨i, hi, e⟩ := hr g hg; omega) (fun g hg => by obtain ⟨i, hi, e⟩ := hr g hg; omega), secL_write h (2 + f.k) (by omega) _ (frameL_length f), if_pos (by omega)]
      rfl
    | succ j =>
      simp only [List.length_cons] at hj
      have := ih (c + 1) _ (a + 1) hw (by omega) (by omega) hk' j (by omega)
      rw [show 2 + (a + (j + 1)) = 2 + (a + 1 + j) by omega, this]
      rfl
/-! ## Frames are read back -/
/-- k frames of one batch, the last one marked, are taken up as that batch -/
def FrAt (D : DevS) (k : Nat) (f : FrameS) : Prop := unframeF (secL D (2 + k)) k = some f
theorem frameStep_go {D : DevS} {epoch : Int} {x : FSt} {k : Nat} {f : FrameS} (h : FrAt D k f) (h1 : x.least ≤ f.epoch) (h2 : f.epoch ≤ epoch) (h3 : x.within = true → f.epoch = x.least) :
    frameStep D epoch x k = if f.last = true then some ⟨f.epoch, false, [], x.bs ++ [x.batch ++ f.body], k + 1⟩ else some ⟨f.epoch, true, x.batch ++ f.body, x.bs, x.at_⟩ := by
  unfold frameStep
  rw [h]
  simp only
  rw [if_neg]
  rintro (h | h | ⟨h, h'⟩)
  · omega
  · omega
  · exact h' (h3 h)
/-- the frames of one batch from k on: all but the last one unmarked -/
theorem frames_batch {D : DevS} {epoch e : Int} (he : e ≤ epoch) : ∀ (bodies : List (List UInt8)) (k m : Nat) (x : FSt), bodies ≠ [] → bodies.length ≤ m → x.least ≤ e → (x.within = true → e = x.least) →
    (∀ j (hj : j < bodies.length), FrAt D (k + j) ⟨e, ((k + j : Nat) : Int), decide (j + 1 = bodies.length), bodies[j]⟩) →
    framesTo D epoch x k m = framesTo D epoch ⟨e, false, [], x.bs ++ [x.batch ++ bodies.flatten], ((k + bodies.length : Nat) : Int)⟩ (k + bodies.length) (m - bodies.length) := by
  intro bodies
  induction bodies with
  | nil => intro k m x h; exact absurd rfl h
  | cons b r ih =>
    intro k m x _ hm hl hw hf
    have h0 := hf 0 (by simp)
    simp only [List.length_cons] at hm
    obtain ⟨m, rfl⟩ : ∃ q, m = q + 1 := ⟨m - 1, by omega⟩
    rw [framesTo, frameStep_go (by simpa using h0) hl he hw]
    cases r with
    | nil => simp
    | cons b2 r =>
      have e1 : decide (0 + 1 = (b :: b2 :: r).length) = false := by simp
      simp only [e1, List.getElem_cons_zero]
      have hi := ih (k + 1) m ⟨e, true, x.batch ++ b, x.bs, x.at_⟩ (by simp) (by simp at hm ⊢; omega) (Int.le_refl _) (fun _ => rfl) (fun j hj => by
        have := hf (j + 1) (by simp at hj ⊢; omega)
        simp only [List.getElem_cons_succ] at this
        have e2 : k + (j + 1) = k + 1 + j := by omega
        rw [e2] at this
        have e3 : decide (j + 1 + 1 = (b :: b2 :: r).length) = decide (j + 1 = (b2 :: r).length) := by simp
        rw [e3] at this
        exact this)
      first | rw [hi] | (simp; rw [hi])
      simp only [List.flatten_cons, List.append_assoc, List.length_cons]
      congr 1 <;> first | (congr 1 <;> omega) | omega
/-- the head that counts more is read -/
theorem heads_read {D : DevS} {h : HeadS} {i j : Nat} (hij : (i = 0 ∧ j = 1) ∨ (i = 1 ∧ j = 0)) (h0 : 0 < h.n) (hi : parseH (secL D i) i = some h) (hj : ∀ g, parseH (secL D j) j = some g → g.n < h.n) : headsTo D ⟨0, 0, 0, []⟩ 2 = h := by
  simp only [headsTo]
  rcases hij with ⟨rfl, rfl⟩ | ⟨rfl, rfl⟩
  · have e : headStep D ⟨0, 0, 0, []⟩ 0 = h := by unfold headStep; rw [hi]; simp only; rw [if_pos h0]
    rw [e]
    unfold headStep
    cases hg : parseH (secL D 1) ((1 : Nat) : Int) with
    | none => rfl
    | some g => have := hj g hg; simp only; rw [if_neg (by omega)]
  · obtain ⟨g, hg, hgn⟩ : ∃ g, headStep D ⟨0, 0, 0, []⟩ 0 = g ∧ g.n < h.n := by
      unfold headStep
      cases hg : parseH (secL D 0) ((0 : Nat) : Int) with
      | none => exact ⟨_, rfl, h0⟩
      | some g =>
        have := hj g hg
        simp only
        split
        · exact ⟨_, rfl, this⟩
        · exact ⟨_, rfl, h0⟩
    rw [hg]
    unfold headStep
    rw [hi]
    simp only
    rw [if_pos hgn]
end Go.Proofs.Ytmgpiminicgbiaa
namespace Go.Proofs.Ytmgpiminicgbiaa
set_option linter.unusedVariables false
set_option linter.unusedSimpArgs false
open Go.RowKit
/-! ## The bytes of a sector, whole or torn -/
def tearL (old new : List UInt8) (t : Nat) : List UInt8 := new.take t ++ old.drop t
theorem tear_get (old new : List UInt8) (t k : Nat) (h2 : new.length = 64) (ht : t ≤ 64) : (tearL old new t)[k]? = if k < t then new[k]? else old[k]? := by
  unfold tearL
  have e : (new.take t).length = t := by simp; omega
  split
  · rename_i h; rw [List.getElem?_append_left (by omega), List.getElem?_take, if_pos h]
  · rename_i h; rw [List.getElem?_append_right (by omega), e, List.getElem?_drop]; congr 1; omega
theorem tear_at8 (old new : List UInt8) (t k : Nat) (h2 : new.length = 64) (ht : t ≤ 64) : at8 (tearL old new t) k = if k < t then at8 new k else at8 old k := by
  unfold at8; rw [tear_get _ _ _ _ h2 ht]; split <;> rfl
theorem tear_len (old new : List UInt8) (t : Nat) (h1 : old.length = 64) (h2 : new.length = 64) (ht : t ≤ 64) : (tearL old new t).length = 64 := by
  unfold tearL; simp [h1, h2]; omega
theorem ext8 {a b : List UInt8} {n : Nat} (ha : a.length = n) (hb : b.length = n) (h : ∀ k, k < n → at8 a k = at8 b k) : a = b := by
  apply List.ext_getElem (by omega)
  intro k h1 h2
  have := h k (by omega)
  unfold at8 at this
  rwa [List.getElem?_eq_getElem h1, List.getElem?_eq_getElem h2] at this
theorem tear_all (old new : List UInt8) (h1 : old.length = 64) (h2 : new.length = 64) : tearL old new 64 = new :=
  ext8 (tear_len _ _ _ h1 h2 (by decide)) h2 fun k hk => by rw [tear_at8 _ _ _ _ h2 (by decide), if_pos hk]
theorem at8_drop (l : List UInt8) (a k : Nat) : at8 (l.drop a) k = at8 l (a + k) := by unfold at8; rw [List.getElem?_drop]
theorem at8_take (l : List UInt8) (m k : Nat) (h : k < m) : at8 (l.take m) k = at8 l k := by unfold at8; rw [List.getElem?_take, if_pos h]
theorem at8_win' (l : List UInt8) (a m k : Nat) (h : k < m) : at8 (win l a m) k = at8 l (a + k) := by unfold win; rw [at8_take _ _ _ h, at8_drop]
theorem at8_beL (n size k : Nat) (hk : k < size) : (at8 (beL n size) k).toNat = n / 256 ^ (size - 1 - k) % 256 := by
  unfold at8 beL
  rw [List.getElem?_map, List.getElem?_range hk]
  simp only [Option.map_some, Option.getD_some]
  exact beB_nat n size k hk
theorem u8_ext {a b : UInt8} (h : a.toNat = b.toNat) : a = b := UInt8.toNat_inj.1 h
theorem be_hi (n size k : Nat) (hn : n < 256) (hk : k + 1 < size) : (at8 (beL n size) k).toNat = 0 := by
  rw [at8_beL n size k (by omega)]
  have h1 : 256 ^ 1 ≤ 256 ^ (size - 1 - k) := Nat.pow_le_pow_right (by decide) (by omega)
  rw [Nat.div_eq_of_lt (by omega)]
theorem be_lo (n size : Nat) (hn : n < 256) (hs : 0 < size) : (at8 (beL n size) (size - 1)).toNat = n := by
  rw [at8_beL n size _ (by omega), Nat.sub_self, Nat.pow_zero, Nat.div_one]; omega
/-! ### Numbers of bytes -/
theorem getU_low1 (l : List UInt8) (c : UInt8) : getU (l ++ [c]) % 256 = c.toNat := by
  unfold getU; rw [List.foldl_append]
  simp only [List.foldl_cons, List.foldl_nil, getStep]
  have := c.toNat_lt
  omega
theorem split7 (l : List UInt8) (n : Nat) (h : l.length = n + 1) : l = l.take n ++ [at8 l n] := by
  apply List.ext_getElem (by simp; omega)
  intro k h1 h2
  by_cases hk : k < n
  · rw [List.getElem_append_left (by simp; omega)]; simp
  · have : k = n := by omega
    subst this
    rw [List.getElem_append_right (by simp; omega)]
    simp [at8, h1]
theorem getU_low (l : List UInt8) (n : Nat) (h : l.length = n + 1) : getU l % 256 = (at8 l n).toNat := by
  have := getU_low1 (l.take n) (at8 l n)
  rw [← split7 l n h] at this; exact this
theorem getU_zeros (n : Nat) : getU (List.replicate n 0) = 0 := by
  unfold getU
  induction n with
  | zero => rfl
  | succ n ih => rw [List.replicate_succ, List.foldl_cons]; exact ih
theorem getU_small (l : List UInt8) (n : Nat) (h : l.length = n + 1) (hz : ∀ k, k < n → at8 l k = 0) : getU l = (at8 l n).toNat := by
  have e : l.take n = List.replicate n 0 := ext8 (n := n) (by simp; omega) (by simp) fun k hk => by
    rw [at8_take _ _ _ hk, hz k hk]; simp [at8, hk]
  rw [split7 l n h, e]
  unfold getU
  rw [List.foldl_append]
  have := getU_zeros n
  unfold getU at this
  rw [this]
  have e2 : at8 (List.replicate n 0 ++ [at8 l n]) n = at8 l n := by simp [at8]
  rw [e2]
  simp only [List.foldl_cons, List.foldl_nil, getStep]
  have := (at8 l n).toNat_lt
  omega
theorem getI_low (l : List UInt8) (off n : Nat) (h : off + n + 1 ≤ l.length) : getI l off (n + 1) % 256 = ((at8 l (off + n)).toNat : Int) := by
  have := getU_low (win l off (n + 1)) n (by simp [win]; omega)
  rw [at8_win' _ _ _ _ (by omega)] at this
  unfold getI
  rw [show (l.drop off).take (n + 1) = win l off (n + 1) from rfl, IntKind.wrap_i64]
  omega
theorem getI_small (l : List UInt8) (off n : Nat) (h : off + n + 1 ≤ l.length) (hz : ∀ k, k < n → at8 l (off + k) = 0) : getI l off (n + 1) = ((at8 l (off + n)).toNat : Int) := by
  have := getU_small (win l off (n + 1)) n (by simp [win]; omega) fun k hk => by rw [at8_win' _ _ _ _ (by omega)]; exact hz k hk
  rw [at8_win' _ _ _ _ (by omega)] at this
  unfold getI
  rw [show (l.drop off).take (n + 1) = win l off (n + 1) from rfl, this]
  have := (at8 l (off + n)).toNat_lt
  exact IntWalk.i64_in _ (by omega)
/-! ### A head's bytes -/
theorem headL_wins (n e b : Int) (body : List UInt8) (hl : body.length ≤ 32) : win (headL ⟨n, e, b, body⟩) 0 8 = beL n 8 ∧ win (headL ⟨n, e, b, body⟩) 56 8 = beL n 8 := by
  obtain ⟨l1, h1⟩ : ∃ l1, l1 = splB z64 0 (beL n 8) := ⟨_, rfl⟩
  have n1 : l1.length = 64 := by rw [h1, splB_length _ _ _ (by simp [z64_length])]; exact z64_length
  obtain ⟨l2, h2⟩ : ∃ l2, l2 = splB l1 8 (beL e 4) := ⟨_, rfl⟩
  have n2 : l2.length = 64 := by rw [h2, splB_length _ _ _ (by simp [n1])]; exact n1
  obtain ⟨l3, h3⟩ : ∃ l3, l3 = splB l2 12 (beL b 4) := ⟨_, rfl⟩
  have n3 : l3.length = 64 := by rw [h3, splB_length _ _ _ (by simp [n2])]; exact n2
  obtain ⟨l4, h4⟩ : ∃ l4, l4 = splB l3 16 [byteOf body.length] := ⟨_, rfl⟩
  have n4 : l4.length = 64 := by rw [h4, splB_length _ _ _ (by simp [n3])]; exact n3
  obtain ⟨l5, h5⟩ : ∃ l5, l5 = splB l4 17 body := ⟨_, rfl⟩
  have n5 : l5.length = 64 := by rw [h5, splB_length _ _ _ (by omega)]; exact n4
  obtain ⟨l6, h6⟩ : ∃ l6, l6 = splB l5 56 (beL n 8) := ⟨_, rfl⟩
  have hL : headL ⟨n, e, b, body⟩ = l6 := by
    unfold headL
    simp only
    rw [putN_splB z64, ← h1, putN_splB l1, ← h2, putN_splB l2, ← h3, set_splB _ _ _ (by omega), ← h4, setB_splB _ _ _ (by omega), ← h5, putN_splB l5, ← h6]
  rw [hL]
  refine ⟨?_, by rw [h6]; exact win_in (b := beL n 8) (by simp [n5])⟩
  rw [h6, win_out (by simp [n5]) (.inl (by decide)), h5, win_out (by omega) (.inl (by decide)), h4, win_out (by simp [n3]) (.inl (by decide)), h3, win_out (by simp [n2]) (.inl (by decide)), h2, win_out (by simp [n1]) (.inl (by decide)), h1]
  exact win_in (b := beL n 8) (by simp [z64_length])
theorem headL_at (n : Nat) (e b : Int) (body : List UInt8) (hl : body.length ≤ 32) (hn : n < 256) : (∀ k, k < 7 → at8 (headL ⟨n, e, b, body⟩) k = 0) ∧ (at8 (headL ⟨n, e, b, body⟩) 7).toNat = n ∧ (at8 (headL ⟨n, e, b, body⟩) 63).toNat = n := by
  obtain ⟨w1, w2⟩ := headL_wins n e b body hl
  refine ⟨fun k hk => ?_, ?_, ?_⟩
  · have := at8_win' (headL ⟨n, e, b, body⟩) 0 8 k (by omega)
    rw [w1, Nat.zero_add] at this
    rw [← this]; exact u8_ext (be_hi n 8 k hn (by omega))
  · have := at8_win' (headL ⟨n, e, b, body⟩) 0 8 7 (by omega)
    rw [w1, Nat.zero_add] at this
    rw [← this]; exact be_lo n 8 hn (by decide)
  · have := at8_win' (headL ⟨n, e, b, body⟩) 56 8 7 (by omega)
    rw [w2] at this
    rw [← this]; exact be_lo n 8 hn (by decide)
/-- the sector of the other head -/
structure OthP (S : List UInt8) (N : Nat) : Prop where
  len : S.length = 64
  z : ∀ k, k < 7 → at8 S k = 0
  b : (at8 S 63).toNat = N - 1
theorem OthP.parse {S : List UInt8} {N : Nat} (h : OthP S N) (h0 : 0 < N) {j : Int} {g : HeadS} (hg : parseH S j = some g) : g.n < N := by
  unfold parseH at hg
  split at hg
  · cases hg
  · rename_i hc
    injection hg with hg; subst hg
    simp only
    have e1 : getI S 0 8 = ((at8 S 7).toNat : Int) := getI_small S 0 7 (by rw [h.len]; decide) fun k hk => by rw [Nat.zero_add]; exact h.z k hk
    have e2 : getI S 56 8 % 256 = ((at8 S 63).toNat : Int) := getI_low S 56 7 (by rw [h.len]; decide)
    have e3 : getI S 56 8 = getI S 0 8 := Decidable.byContradiction fun hx => hc (.inl hx)
    have hb := h.b
    rw [e3, e1] at e2
    have := (at8 S 7).toNat_lt
    rw [e1]
    omega
theorem OthP.head {N : Nat} (hN : N < 255) (e b : Int) (body : List UInt8) (hl : body.length ≤ 32) : OthP (headL ⟨N, e, b, body⟩) (N + 1) := by
  obtain ⟨a1, a2, a3⟩ := headL_at N e b body hl (by omega)
  exact ⟨headL_length _, a1, by rw [a3]; rfl⟩
theorem OthP.tear {S : List UInt8} {N M : Nat} (h : OthP S N) (hM : M < 255) (e b : Int) (body : List UInt8) (hl : body.length ≤ 32) {t : Nat} (ht : t < 64) : OthP (tearL S (headL ⟨M, e, b, body⟩) t) N := by
  obtain ⟨a1, a2, a3⟩ := headL_at M e b body hl (by omega)
  have hh := headL_length ⟨M, e, b, body⟩
  refine ⟨tear_len _ _ _ h.len hh (by omega), fun k hk => ?_, ?_⟩
  · rw [tear_at8 _ _ _ _ hh (by omega)]; split
    · exact a1 k hk
    · exact h.z k hk
  · rw [tear_at8 _ _ _ _ hh (by omega), if_neg (by omega)]; exact h.b
/-! ### A frame's bytes -/
theorem frameL_wins (e k : Nat) (last : Bool) (body : List UInt8) (hl : body.length ≤ 46) : win (frameL ⟨e, k, last, body⟩) 0 4 = beL e 4 ∧ win (frameL ⟨e, k, last, body⟩) 4 4 = beL k 4 ∧ win (frameL ⟨e, k, last, body⟩) 56 8 = win (frameL ⟨e, k, last, body⟩) 0 8 := by
  obtain ⟨l1, h1⟩ : ∃ l1, l1 = splB z64 0 (beL e 4) := ⟨_, rfl⟩
  have n1 : l1.length = 64 := by rw [h1, splB_length _ _ _ (by simp [z64_length])]; exact z64_length
  obtain ⟨l2, h2⟩ : ∃ l2, l2 = splB l1 4 (beL k 4) := ⟨_, rfl⟩
  have n2 : l2.length = 64 := by rw [h2, splB_length _ _ _ (by simp [n1])]; exact n1
  obtain ⟨l3, h3⟩ : ∃ l3, l3 = if last = true then splB l2 8 [1] else l2 := ⟨_, rfl⟩
  have n3 : l3.length = 64 := by rw [h3]; split; rw [splB_length _ _ _ (by simp [n2])]; exact n2; exact n2
  obtain ⟨l4, h4⟩ : ∃ l4, l4 = splB l3 9 [byteOf body.length] := ⟨_, rfl⟩
  have n4 : l4.length = 64 := by rw [h4, splB_length _ _ _ (by simp [n3])]; exact n3
  obtain ⟨l5, h5⟩ : ∃ l5, l5 = splB l4 10 body := ⟨_, rfl⟩
  have n5 : l5.length = 64 := by rw [h5, splB_length _ _ _ (by omega)]; exact n4
  have hP : frameP ⟨e, k, last, body⟩ = l5 := by
    unfold frameP
    simp only
    rw [putN_splB z64, ← h1, putN_splB l1, ← h2, set_splB l2 8 1 (by omega), ← h3, set_splB _ _ _ (by omega), ← h4, setB_splB _ _ _ (by omega), ← h5]
  have nt : (l5.take 8).length = 8 := by simp [n5]
  obtain ⟨l6, h6⟩ : ∃ l6, l6 = splB l5 56 (l5.take 8) := ⟨_, rfl⟩
  have hL : frameL ⟨e, k, last, body⟩ = l6 := by
    unfold frameL
    rw [hP, setB_splB _ _ _ (by omega), ← h6]
  have w6 : ∀ a m, a + m ≤ 56 → win l6 a m = win l5 a m := fun a m h => by rw [h6]; exact win_out (by omega) (.inl h)
  have w5 : ∀ a m, a + m ≤ 10 → win l5 a m = win l4 a m := fun a m h => by rw [h5]; exact win_out (by omega) (.inl h)
  have w4 : ∀ a m, a + m ≤ 9 → win l4 a m = win l3 a m := fun a m h => by rw [h4]; exact win_out (by simp [n3]) (.inl h)
  have w3 : ∀ a m, a + m ≤ 8 → win l3 a m = win l2 a m := fun a m h => by
    rw [h3]; split
    · exact win_out (by simp [n2]) (.inl h)
    · rfl
  have w2 : ∀ a m, a + m ≤ 4 → win l2 a m = win l1 a m := fun a m h => by rw [h2]; exact win_out (by simp [n1]) (.inl h)
  have b6 : win l6 56 8 = l5.take 8 := by
    have := win_in (l := l5) (off := 56) (b := l5.take 8) (by omega)
    rw [nt] at this; rw [h6]; exact this
  rw [hL]
  refine ⟨?_, ?_, ?_⟩
  · rw [w6 _ _ (by omega), w5 _ _ (by omega), w4 _ _ (by omega), w3 _ _ (by omega), w2 _ _ (by omega), h1]; exact win_in (b := beL e 4) (by simp [z64_length])
  · rw [w6 _ _ (by omega), w5 _ _ (by omega), w4 _ _ (by omega), w3 _ _ (by omega), h2]; exact win_in (b := beL k 4) (by simp [n1])
  · rw [b6, w6 _ _ (by omega)]; rfl
theorem frameL_at (e k : Nat) (last : Bool) (body : List UInt8) (hl : body.length ≤ 46) (he : e < 256) (hk : k < 256) :
    (∀ j, j < 3 → at8 (frameL ⟨e, k, last, body⟩) j = 0) ∧ (at8 (frameL ⟨e, k, last, body⟩) 3).toNat = e ∧ (at8 (frameL ⟨e, k, last, body⟩) 7).toNat = k ∧ (at8 (frameL ⟨e, k, last, body⟩) 59).toNat = e ∧ (∀ j, 60 ≤ j → j < 63 → at8 (frameL ⟨e, k, last, body⟩) j = 0) ∧ (at8 (frameL ⟨e, k, last, body⟩) 63).toNat = k := by
  obtain ⟨w1, w2, w3⟩ := frameL_wins e k last body hl
  obtain ⟨l, hL⟩ : ∃ l, l = frameL ⟨e, k, last, body⟩ := ⟨_, rfl⟩
  rw [← hL] at w1 w2 w3 ⊢
  have a1 : ∀ j, j < 4 → at8 l j = at8 (beL e 4) j := fun j hj => by
    have := at8_win' l 0 4 j hj
    rw [w1, Nat.zero_add] at this; exact this.symm
  have a2 : ∀ j, j < 4 → at8 l (4 + j) = at8 (beL k 4) j := fun j hj => by
    have := at8_win' l 4 4 j hj
    rw [w2] at this; exact this.symm
  have a3 : ∀ j, j < 8 → at8 l (56 + j) = at8 l j := fun j hj => by
    have := at8_win' l 56 8 j hj
    rw [w3, at8_win' _ _ _ _ hj, Nat.zero_add] at this; exact this.symm
  refine ⟨fun j hj => ?_, ?_, ?_, ?_, fun j h1 h2 => ?_, ?_⟩
  · rw [a1 j (by omega)]; exact u8_ext (be_hi e 4 j he (by omega))
  · rw [a1 3 (by omega)]; exact be_lo e 4 he (by decide)
  · rw [a2 3 (by omega)]; exact be_lo k 4 hk (by decide)
  · rw [a3 3 (by omega), a1 3 (by omega)]; exact be_lo e 4 he (by decide)
  · obtain ⟨q, rfl⟩ : ∃ q, j = 56 + (4 + q) := ⟨j - 60, by omega⟩
    rw [a3 _ (by omega), a2 q (by omega)]; exact u8_ext (be_hi k 4 q hk (by omega))
  · rw [a3 7 (by omega), a2 3 (by omega)]; exact be_lo k 4 hk (by decide)
/-- the sector of frame k, whose epochs are e at most -/
structure FrP (S : List UInt8) (k e : Nat) : Prop where
  len : S.length = 64
  z : ∀ j, j < 3 → at8 S j = 0
  e : (at8 S 59).toNat ≤ e
  z2 : ∀ j, 60 ≤ j → j < 63 → at8 S j = 0
  k : at8 S 63 = 0 ∨ (at8 S 63).toNat = k
theorem FrP.up {S : List UInt8} {k e e' : Nat} (h : FrP S k e) (he : e ≤ e') : FrP S k e' := ⟨h.len, h.z, by have := h.e; omega, h.z2, h.k⟩
theorem unframe_again {S : List UInt8} {k : Int} {f : FrameS} (hf : unframeF S k = some f) : S.take 8 = S.drop 56 ∧ f.epoch = getI S 0 4 ∧ f.k = k ∧ 1 ≤ f.epoch := by
  unfold unframeF at hf
  split at hf
  · cases hf
  · rename_i hc
    injection hf with hf; subst hf
    refine ⟨Decidable.byContradiction fun hx => hc (.inl hx), rfl, Decidable.byContradiction fun hx => hc (.inr (.inl hx)), ?_⟩
    simp only; omega
theorem FrP.epoch {S : List UInt8} {k e : Nat} (h : FrP S k e) {j : Int} {f : FrameS} (hf : unframeF S j = some f) : f.epoch = ((at8 S 59).toNat : Int) := by
  obtain ⟨h1, h2, _⟩ := unframe_again hf
  have e1 := getI_small S 0 3 (by rw [h.len]; decide) fun k hk => by rw [Nat.zero_add]; exact h.z k hk
  have e2 : at8 S 3 = at8 S 59 := by
    have := at8_take S 8 3 (by decide)
    rw [h1, at8_drop] at this; exact this.symm
  rw [h2, ← e2]
  exact e1
theorem unframe_none {S : List UInt8} {j : Nat} (hj : j < 8) (h : at8 S j ≠ at8 S (56 + j)) (k : Int) : unframeF S k = none := by
  cases hf : unframeF S k with
  | none => rfl
  | some f =>
    obtain ⟨h1, _⟩ := unframe_again hf
    have := at8_take S 8 j hj
    rw [h1, at8_drop] at this; exact absurd this.symm h
theorem FrP.frame (e k : Nat) (last : Bool) (body : List UInt8) (hl : body.length ≤ 46) (he : e < 256) (hk : k < 256) : FrP (frameL ⟨e, k, last, body⟩) k e := by
  obtain ⟨a1, a2, a3, a4, a5, a6⟩ := frameL_at e k last body hl he hk
  exact ⟨frameL_length _, a1, by omega, a5, .inr a6⟩
theorem FrP.tear {S : List UInt8} {k e e' : Nat} (h : FrP S k e) (he : (at8 S 59).toNat < e') (he' : e' < 256) (hk : k < 256) (last : Bool) (body : List UInt8) (hl : body.length ≤ 46) {t : Nat} (ht : t ≤ 64) :
    FrP (tearL S (frameL ⟨e', k, last, body⟩) t) k e' ∧ (tearL S (frameL ⟨e', k, last, body⟩) t = frameL ⟨e', k, last, body⟩ ∨ unframeF (tearL S (frameL ⟨e', k, last, body⟩) t) k = none ∨ tearL S (frameL ⟨e', k, last, body⟩) t = S) := by
  obtain ⟨a1, a2, a3, a4, a5, a6⟩ := frameL_at e' k last body hl he' hk
  obtain ⟨l, hL⟩ : ∃ l, l = frameL ⟨e', k, last, body⟩ := ⟨_, rfl⟩
  have hln : l.length = 64 := by rw [hL]; exact frameL_length _
  rw [← hL] at a1 a2 a3 a4 a5 a6 ⊢
  have T : ∀ j, at8 (tearL S l t) j = if j < t then at8 l j else at8 S j := fun j => tear_at8 _ _ _ _ hln ht
  have hlen := tear_len S l t h.len hln ht
  refine ⟨⟨hlen, fun j hj => ?_, ?_, fun j h1 h2 => ?_, ?_⟩, ?_⟩
  · rw [T]; split
    · exact a1 j hj
    · exact h.z j hj
  · rw [T]; split <;> omega
  · rw [T]; split
    · exact a5 j h1 h2
    · exact h.z2 j h1 h2
  · rw [T]; split
    · exact .inr a6
    · exact h.k
  · by_cases h3 : t ≤ 3
    · refine .inr (.inr (ext8 hlen h.len fun j _ => ?_))
      rw [T]; split
      · rw [a1 j (by omega), h.z j (by omega)]
      · rfl
    · by_cases h60 : t < 60
      · refine .inr (.inl (unframe_none (j := 3) (by decide) ?_ _))
        show at8 (tearL S l t) 3 ≠ at8 (tearL S l t) 59
        rw [T, T, if_pos (by omega), if_neg (by omega)]
        intro hx; rw [hx] at a2; omega
      · by_cases h63 : t ≤ 63
        · by_cases hz : at8 S 63 = at8 l 63
          · refine .inl (ext8 hlen hln fun j hj => ?_)
            rw [T]; split
            · rfl
            · by_cases j63 : j = 63
              · rw [j63]; exact hz
              · rw [h.z2 j (by omega) (by omega), a5 j (by omega) (by omega)]
          · refine .inr (.inl (unframe_none (j := 7) (by decide) ?_ _))
            show at8 (tearL S l t) 7 ≠ at8 (tearL S l t) 63
            rw [T, T, if_pos (by omega), if_neg (by omega)]
            intro hx; exact hz (u8_ext (by rw [a6, ← hx, a3]))
        · obtain rfl : t = 64 := by omega
          exact .inl (tear_all S l h.len hln)
end Go.Proofs.Ytmgpiminicgbiaa
namespace Go.Proofs.Ytmgpiminicgbiaa
set_option linter.unusedVariables false
set_option linter.unusedSimpArgs false
open Go.RowKit
/-! ## Scanning frames, apart from the device -/
def stepF (epoch : Int) (x : FSt) (k : Nat) : Option FrameS → Option FSt
  | some f => if f.epoch < x.least ∨ epoch < f.epoch ∨ (x.within = true ∧ f.epoch ≠ x.least) then none
    else if f.last = true then some ⟨f.epoch, false, [], x.bs ++ [x.batch ++ f.body], k + 1⟩ else some ⟨f.epoch, true, x.batch ++ f.body, x.bs, x.at_⟩
  | none => none
theorem stepF_some {E : Int} {x : FSt} {k : Nat} {o : Option FrameS} {y : FSt} (h : stepF E x k o = some y) : ∃ f, o = some f ∧ x.least ≤ f.epoch ∧ f.epoch ≤ E ∧ (x.within = true → f.epoch = x.least) ∧ y = if f.last = true then ⟨f.epoch, false, [], x.bs ++ [x.batch ++ f.body], k + 1⟩ else ⟨f.epoch, true, x.batch ++ f.body, x.bs, x.at_⟩ := by
  cases o with
  | none => simp [stepF] at h
  | some f =>
    simp only [stepF] at h
    split at h
    · cases h
    · rename_i hc
      refine ⟨f, rfl, by omega, by omega, fun hw => Decidable.byContradiction fun hx => hc (.inr (.inr ⟨hw, hx⟩)), ?_⟩
      split at h <;> (rename_i hl; injection h with h; simp [← h, hl])
theorem stepF_go {E : Int} {x : FSt} {k : Nat} {f : FrameS} (h1 : x.least ≤ f.epoch) (h2 : f.epoch ≤ E) (h3 : x.within = true → f.epoch = x.least) : stepF E x k (some f) = some (if f.last = true then ⟨f.epoch, false, [], x.bs ++ [x.batch ++ f.body], k + 1⟩ else ⟨f.epoch, true, x.batch ++ f.body, x.bs, x.at_⟩) := by
  simp only [stepF]
  rw [if_neg]
  · split <;> rfl
  · rintro (h | h | ⟨h, h'⟩)
    · omega
    · omega
    · exact h' (h3 h)
theorem frameStep_F (D : DevS) (E : Int) (x : FSt) (k : Nat) : frameStep D E x k = stepF E x k (unframeF (secL D (2 + k)) k) := by
  unfold frameStep
  cases unframeF (secL D (2 + k)) k <;> rfl
def frC (C : Nat → List UInt8) (k : Nat) : Option FrameS := unframeF (C (2 + k)) k
def scan (F : Nat → Option FrameS) (E : Int) : FSt → Nat → Nat → Option FSt
  | x, _, 0 => some x
  | x, k, m + 1 => match stepF E x k (F k) with
    | some y => scan F E y (k + 1) m
    | none => none
theorem scan_to {D : DevS} {E : Int} : ∀ (m k : Nat) (x y : FSt) (r : Nat), scan (frC (secL D)) E x k m = some y → framesTo D E x k (m + r) = framesTo D E y (k + m) r := by
  intro m
  induction m with
  | zero => intro k x y r h; simp only [scan, Option.some.injEq] at h; subst h; rw [Nat.zero_add]; rfl
  | succ m ih =>
    intro k x y r h
    rw [show m + 1 + r = (m + r) + 1 by omega, framesTo, frameStep_F]
    simp only [scan, frC] at h
    cases hs : stepF E x k (unframeF (secL D (2 + k)) k) with
    | none => rw [hs] at h; cases h
    | some z =>
      rw [hs] at h
      simp only at h ⊢
      rw [ih (k + 1) z y r h]
      congr 1; omega
theorem scan_app {F : Nat → Option FrameS} {E : Int} : ∀ (m k : Nat) (x y : FSt) (r : Nat), scan F E x k m = some y → scan F E x k (m + r) = scan F E y (k + m) r := by
  intro m
  induction m with
  | zero => intro k x y r h; simp only [scan, Option.some.injEq] at h; subst h; rw [Nat.zero_add]; rfl
  | succ m ih =>
    intro k x y r h
    rw [show m + 1 + r = (m + r) + 1 by omega]
    simp only [scan] at h ⊢
    cases hs : stepF E x k (F k) with
    | none => rw [hs] at h; cases h
    | some z =>
      rw [hs] at h
      simp only at h ⊢
      rw [ih (k + 1) z y r h]
      congr 1; omega
theorem scan_congr {F F' : Nat → Option FrameS} {E : Int} : ∀ (m k : Nat) (x : FSt), (∀ q, k ≤ q → q < k + m → F' q = F q) → scan F' E x k m = scan F E x k m := by
  intro m
  induction m with
  | zero => intro k x _; rfl
  | succ m ih =>
    intro k x h
    simp only [scan]
    rw [h k (by omega) (by omega)]
    cases stepF E x k (F k) with
    | none => rfl
    | some y => exact ih (k + 1) y fun q h1 h2 => h q (by omega) (by omega)
theorem scan_mono {F : Nat → Option FrameS} {E E' : Int} (hE : E ≤ E') : ∀ (m k : Nat) (x y : FSt), scan F E x k m = some y → scan F E' x k m = some y := by
  intro m
  induction m with
  | zero => intro k x y h; exact h
  | succ m ih =>
    intro k x y h
    simp only [scan] at h ⊢
    cases hs : stepF E x k (F k) with
    | none => rw [hs] at h; cases h
    | some z =>
      rw [hs] at h
      obtain ⟨f, hf, h1, h2, h3, rfl⟩ := stepF_some hs
      rw [hf, stepF_go h1 (by omega) h3]
      exact ih (k + 1) _ y h
/-- the frames of one batch are taken up as that batch -/
theorem scan_batch {F : Nat → Option FrameS} {E e : Int} (he : e ≤ E) : ∀ (bodies : List (List UInt8)) (k : Nat) (x : FSt), bodies ≠ [] → x.least ≤ e → (x.within = true → e = x.least) →
    (∀ j (hj : j < bodies.length), F (k + j) = some ⟨e, ((k + j : Nat) : Int), decide (j + 1 = bodies.length), bodies[j]⟩) →
    scan F E x k bodies.length = some ⟨e, false, [], x.bs ++ [x.batch ++ bodies.flatten], ((k + bodies.length : Nat) : Int)⟩ := by
  intro bodies
  induction bodies with
  | nil => intro k x h; exact absurd rfl h
  | cons b r ih =>
    intro k x _ hl hw hf
    have h0 := hf 0 (by simp)
    rw [Nat.add_zero] at h0
    simp only [List.length_cons, scan]
    rw [h0, stepF_go (f := ⟨e, ((k : Nat) : Int), decide (0 + 1 = (b :: r).length), (b :: r)[0]⟩) hl he hw]
    cases r with
    | nil => simp [scan]
    | cons b2 r =>
      have e1 : decide (0 + 1 = (b :: b2 :: r).length) = false := by simp
      simp only [e1, List.getElem_cons_zero]
      have hi := ih (k + 1) ⟨e, true, x.batch ++ b, x.bs, x.at_⟩ (by simp) (Int.le_refl _) (fun _ => rfl) (fun j hj => by
        have := hf (j + 1) (by simp at hj ⊢; omega)
        simp only [List.getElem_cons_succ] at this
        have e2 : k + (j + 1) = k + 1 + j := by omega
        rw [e2] at this
        have e3 : decide (j + 1 + 1 = (b :: b2 :: r).length) = decide (j + 1 = (b2 :: r).length) := by simp
        rw [e3] at this
        exact this)
      simp only [Bool.false_eq_true, if_false]
      rw [hi]
      simp only [List.flatten_cons, List.append_assoc, List.length_cons]
      congr 2
      omega
/-- no whole batch begins at a place -/
def NoB (F : Nat → Option FrameS) (n at_ : Nat) (least : Int) : Prop :=
  ∀ (p : Nat) (e : Int), at_ ≤ p → p < n → least ≤ e → ¬ ∀ q, at_ ≤ q → q ≤ p → ∃ f, F q = some f ∧ f.epoch = e ∧ f.last = decide (q = p)
theorem nob_stop {D : DevS} {E least : Int} {n at_ : Nat} (hN : NoB (frC (secL D)) n at_ least) : ∀ (m k : Nat) (x : FSt), k + m ≤ n → at_ ≤ k → least ≤ x.least → (x.within = false → k = at_) →
    (∀ q, at_ ≤ q → q < k → ∃ f, frC (secL D) q = some f ∧ f.epoch = x.least ∧ f.last = false) → (framesTo D E x k m).bs = x.bs ∧ (framesTo D E x k m).at_ = x.at_ := by
  intro m
  induction m with
  | zero => intro k x _ _ _ _ _; exact ⟨rfl, rfl⟩
  | succ m ih =>
    intro k x hkm hak hl hwf hpre
    rw [framesTo, frameStep_F]
    cases hs : stepF E x k (unframeF (secL D (2 + k)) k) with
    | none => exact ⟨rfl, rfl⟩
    | some y =>
      obtain ⟨f, hf, h1, h2, h3, hy⟩ := stepF_some hs
      have hpre2 : ∀ q, at_ ≤ q → q < k → ∃ g, frC (secL D) q = some g ∧ g.epoch = f.epoch ∧ g.last = false := by
        intro q hq1 hq2
        cases hw : x.within with
        | false => have := hwf hw; omega
        | true =>
          obtain ⟨g, g1, g2, g3⟩ := hpre q hq1 hq2
          exact ⟨g, g1, by rw [g2, h3 hw], g3⟩
      by_cases hlast : f.last = true
      · exfalso
        refine hN k f.epoch hak (by omega) (by omega) fun q hq1 hq2 => ?_
        by_cases hqk : q = k
        · subst hqk; exact ⟨f, hf, rfl, by rw [hlast]; simp⟩
        · obtain ⟨g, g1, g2, g3⟩ := hpre2 q hq1 (by omega)
          exact ⟨g, g1, g2, by rw [g3]; simp [hqk]⟩
      · rw [if_neg hlast] at hy
        subst hy
        simp only
        refine ih (k + 1) ⟨f.epoch, true, x.batch ++ f.body, x.bs, x.at_⟩ (by omega) (by omega) (by simp only; omega) (fun h => by simp at h) fun q hq1 hq2 => ?_
        by_cases hqk : q = k
        · subst hqk; exact ⟨f, hf, rfl, by simpa using hlast⟩
        · exact hpre2 q hq1 (by omega)
/-! ## What lies on the sectors of a log -/
structure RestC (n : Nat) (C : Nat → List UInt8) (N B : Nat) (body : List UInt8) (bs : List (List UInt8)) (at_ least : Nat) : Prop where
  n1 : 1 ≤ N
  n2 : N ≤ 200
  bN : B ≤ N
  bl : body.length ≤ 32
  cur : C (N % 2) = headL ⟨N, N, B, body⟩
  oth : OthP (C ((N + 1) % 2)) N
  fr : ∀ k, k < n → FrP (C (2 + k)) k N
  al : at_ ≤ n
  l1 : B ≤ least
  l2 : least ≤ N
  sc : scan (frC C) N ⟨B, false, [], [], 0⟩ 0 at_ = some ⟨least, false, [], bs, at_⟩
  nb : NoB (frC C) n at_ least
/-- .. of one that is open: no frame ahead has its epoch -/
structure UpC (n : Nat) (C : Nat → List UInt8) (N B : Nat) (body : List UInt8) (bs : List (List UInt8)) (at_ least : Nat) : Prop where
  r : RestC n C N B body bs at_ least
  s : ∀ k, at_ ≤ k → k < n → (at8 (C (2 + k)) 59).toNat < N
theorem tmod2 (N : Nat) : ((N : Int).tmod 2) = ((N % 2 : Nat) : Int) := by rw [Int.tmod_eq_emod_of_nonneg (by omega)]; omega
theorem RestC.read {n : Nat} {D : DevS} {N B : Nat} {body : List UInt8} {bs : List (List UInt8)} {at_ least : Nat} (h : RestC n (secL D) N B body bs at_ least) : readL D n = ⟨n, ⟨N, N, B, body⟩, at_, bs, false⟩ := by
  have hn1 := h.n1; have hn2 := h.n2; have hbN := h.bN; have hal := h.al
  have hp : parseH (secL D (N % 2)) ((N % 2 : Nat) : Int) = some ⟨N, N, B, body⟩ := by
    rw [h.cur, ← tmod2]; exact parse_head N N B body (by omega) (by omega) hbN h.bl
  have hh : headsTo D ⟨0, 0, 0, []⟩ 2 = ⟨N, N, B, body⟩ := heads_read (i := N % 2) (j := (N + 1) % 2) (by omega) (by simp only; omega) hp fun g hg => h.oth.parse (by omega) hg
  unfold readL
  rw [hh]
  have e : n = at_ + (n - at_) := by omega
  simp only
  conv => lhs; arg 2; rw [e]
  rw [scan_to _ _ _ _ _ h.sc, Nat.zero_add]
  obtain ⟨a, b⟩ := nob_stop (D := D) (E := N) h.nb (n - at_) at_ ⟨least, false, [], bs, at_⟩ (by omega) (Nat.le_refl _) (Int.le_refl _) (fun _ => rfl) fun q h1 h2 => by omega
  unfold withF
  rw [a, b]
  rfl
theorem RestC.tearHead {n : Nat} {C C' : Nat → List UInt8} {N B : Nat} {body : List UInt8} {bs : List (List UInt8)} {at_ least : Nat} (h : RestC n C N B body bs at_ least) (hC : ∀ i, i ≠ (N + 1) % 2 → C' i = C i) (hO : OthP (C' ((N + 1) % 2)) N) : RestC n C' N B body bs at_ least := by
  have e : frC C' = frC C := funext fun k => by unfold frC; rw [hC _ (by omega)]
  exact ⟨h.n1, h.n2, h.bN, h.bl, by rw [hC _ (by omega)]; exact h.cur, hO, fun k hk => by rw [hC _ (by omega)]; exact h.fr k hk, h.al, h.l1, h.l2, by rw [e]; exact h.sc, by rw [e]; exact h.nb⟩
theorem RestC.newHead {n : Nat} {C C' : Nat → List UInt8} {N B : Nat} {body : List UInt8} {bs : List (List UInt8)} {at_ least : Nat} (h : RestC n C N B body bs at_ least) (hN : N < 200) (hC : ∀ i, i ≠ (N + 1) % 2 → C' i = C i)
    (hn : C' ((N + 1) % 2) = headL ⟨((N + 1 : Nat) : Int), ((N + 1 : Nat) : Int), B, body⟩) : UpC n C' (N + 1) B body bs at_ least := by
  have e : frC C' = frC C := funext fun k => by unfold frC; rw [hC _ (by omega)]
  have e2 : (N + 1 + 1) % 2 = N % 2 := by omega
  have hn1 := h.n1; have hbN := h.bN; have hl2 := h.l2
  refine ⟨⟨by omega, by omega, by omega, h.bl, hn, ?_, fun k hk => by rw [hC _ (by omega)]; exact (h.fr k hk).up (by omega), h.al, h.l1, by omega, by rw [e]; exact scan_mono (by omega) _ _ _ _ h.sc, by rw [e]; exact h.nb⟩, fun k _ hk => ?_⟩
  · rw [e2, hC _ (by omega), h.cur]; exact OthP.head (by omega) _ _ _ h.bl
  · rw [hC _ (by omega)]; have := (h.fr k hk).e; omega
theorem RestC.reset {n : Nat} {C C' : Nat → List UInt8} {N B : Nat} {body : List UInt8} {bs : List (List UInt8)} {at_ least : Nat} (h : RestC n C N B body bs at_ least) (hN : N < 200) (hC : ∀ i, i ≠ (N + 1) % 2 → C' i = C i) (b : List UInt8) (hb : b.length ≤ 32)
    (hn : C' ((N + 1) % 2) = headL ⟨((N + 1 : Nat) : Int), ((N + 1 : Nat) : Int), ((N + 1 : Nat) : Int), b⟩) : UpC n C' (N + 1) (N + 1) b [] 0 (N + 1) := by
  have e : frC C' = frC C := funext fun k => by unfold frC; rw [hC _ (by omega)]
  have e2 : (N + 1 + 1) % 2 = N % 2 := by omega
  have hn1 := h.n1; have hbN := h.bN; have hl2 := h.l2
  refine ⟨⟨by omega, by omega, by omega, hb, hn, ?_, fun k hk => by rw [hC _ (by omega)]; exact (h.fr k hk).up (by omega), by omega, by omega, by omega, rfl, ?_⟩, fun k _ hk => ?_⟩
  · rw [e2, hC _ (by omega), h.cur]; exact OthP.head (by omega) _ _ _ h.bl
  · rw [e]
    intro p x _ hp hx hq
    obtain ⟨f, f1, f2, _⟩ := hq p (by omega) (by omega)
    have hF := h.fr p hp
    have := hF.epoch f1
    have := hF.e
    omega
  · rw [hC _ (by omega)]; have := (h.fr k hk).e; omega
theorem UpC.app {n : Nat} {C C' : Nat → List UInt8} {N B : Nat} {body : List UInt8} {bs : List (List UInt8)} {at_ least : Nat} (h : UpC n C N B body bs at_ least) (hn : n ≤ 200) (bodies : List (List UInt8)) (hne : bodies ≠ []) (hb : ∀ x ∈ bodies, x.length ≤ 46) (hr : at_ + bodies.length ≤ n)
    (hC : ∀ i, (∀ j, j < bodies.length → i ≠ 2 + (at_ + j)) → C' i = C i)
    (hT : ∀ j (hj : j < bodies.length), ∃ t, t ≤ 64 ∧ C' (2 + (at_ + j)) = tearL (C (2 + (at_ + j))) (frameL ⟨N, ((at_ + j : Nat) : Int), decide (j + 1 = bodies.length), bodies[j]⟩) t) :
    ((∀ j (hj : j < bodies.length), C' (2 + (at_ + j)) = frameL ⟨N, ((at_ + j : Nat) : Int), decide (j + 1 = bodies.length), bodies[j]⟩) → UpC n C' N B body (bs ++ [bodies.flatten]) (at_ + bodies.length) N)
    ∧ (¬ (∀ j (hj : j < bodies.length), C' (2 + (at_ + j)) = frameL ⟨N, ((at_ + j : Nat) : Int), decide (j + 1 = bodies.length), bodies[j]⟩) → RestC n C' N B body bs at_ least) := by
  obtain ⟨h, hs⟩ := h
  have hn1 := h.n1; have hn2 := h.n2; have hbN := h.bN; have hl2 := h.l2; have hl1 := h.l1
  have hlen : 0 < bodies.length := List.length_pos_iff.2 hne
  have hC0 : ∀ i, i < 2 → C' i = C i := fun i hi => hC i fun j _ => by omega
  have hCf : ∀ k, (k < at_ ∨ at_ + bodies.length ≤ k) → C' (2 + k) = C (2 + k) := fun k hk => hC _ fun j hj => by omega
  have hpre : ∀ q, q < at_ → frC C' q = frC C q := fun q hq => by unfold frC; rw [hCf q (.inl hq)]
  have hfr : ∀ k, k < n → FrP (C' (2 + k)) k N ∧ (at_ ≤ k → (frC C' k = frC C k ∨ frC C' k = none ∨ (k < at_ + bodies.length ∧ ∃ (hj : k - at_ < bodies.length), C' (2 + k) = frameL ⟨N, (k : Int), decide (k - at_ + 1 = bodies.length), bodies[k - at_]⟩))) := by
    intro k hk
    by_cases hin : at_ ≤ k ∧ k < at_ + bodies.length
    · obtain ⟨t, ht, hCt⟩ := hT (k - at_) (by omega)
      have e : at_ + (k - at_) = k := by omega
      simp only [e] at hCt
      obtain ⟨a, b⟩ := (h.fr k hk).tear (hs k hin.1 hk) (by omega) (by omega) (decide (k - at_ + 1 = bodies.length)) (bodies[k - at_]'(by omega)) (hb _ (List.getElem_mem (by omega))) ht
      rw [← hCt] at a b
      refine ⟨a, fun _ => ?_⟩
      rcases b with b | b | b
      · exact .inr (.inr ⟨hin.2, by omega, b⟩)
      · exact .inr (.inl b)
      · exact .inl (by unfold frC; rw [b])
    · have : C' (2 + k) = C (2 + k) := hCf k (by omega)
      exact ⟨by rw [this]; exact h.fr k hk, fun _ => .inl (by unfold frC; rw [this])⟩
  have hcur : C' (N % 2) = headL ⟨N, N, B, body⟩ := by rw [hC0 _ (by omega)]; exact h.cur
  have hoth : OthP (C' ((N + 1) % 2)) N := by rw [hC0 _ (by omega)]; exact h.oth
  have hsc : scan (frC C') N ⟨B, false, [], [], 0⟩ 0 at_ = some ⟨least, false, [], bs, at_⟩ := by
    rw [scan_congr (F := frC C) at_ 0 _ fun q _ hq => hpre q (by omega)]; exact h.sc
  constructor
  · intro hall
    have hF : ∀ j (hj : j < bodies.length), frC C' (at_ + j) = some ⟨N, ((at_ + j : Nat) : Int), decide (j + 1 = bodies.length), bodies[j]⟩ := fun j hj => by
      unfold frC; rw [hall j hj]
      exact unframe_frame N (at_ + j) _ _ (by omega) (by omega) (hb _ (List.getElem_mem hj))
    refine ⟨⟨h.n1, h.n2, h.bN, h.bl, hcur, hoth, fun k hk => (hfr k hk).1, hr, by omega, Nat.le_refl _, ?_, ?_⟩, fun k hk1 hk2 => ?_⟩
    · rw [scan_app _ _ _ _ _ hsc, Nat.zero_add, scan_batch (e := (N : Int)) (Int.le_refl _) bodies at_ _ hne (by simp only; omega) (by simp) hF]
      simp
    · intro p e h1 h2 h3 hq
      obtain ⟨f, f1, f2, _⟩ := hq p h1 (Nat.le_refl _)
      have e1 := (hfr p h2).1.epoch f1
      rw [hCf p (.inr h1)] at e1
      have := hs p (by omega) h2
      omega
    · rw [hCf k (.inr hk1)]; exact hs k (by omega) hk2
  · intro hnall
    refine ⟨h.n1, h.n2, h.bN, h.bl, hcur, hoth, fun k hk => (hfr k hk).1, h.al, h.l1, h.l2, hsc, ?_⟩
    intro p e h1 h2 h3 hq
    by_cases heN : e = N
    · -- the frames of this epoch are the new ones
      have hnew : ∀ q, at_ ≤ q → q ≤ p → q < at_ + bodies.length ∧ ∃ (hj : q - at_ < bodies.length), C' (2 + q) = frameL ⟨N, (q : Int), decide (q - at_ + 1 = bodies.length), bodies[q - at_]⟩ := by
        intro q hq1 hq2
        obtain ⟨f, f1, f2, _⟩ := hq q hq1 hq2
        rcases (hfr q (by omega)).2 hq1 with hx | hx | hx
        · rw [hx] at f1
          have := (h.fr q (by omega)).epoch f1
          have := hs q hq1 (by omega)
          omega
        · rw [hx] at f1; cases f1
        · exact hx
      obtain ⟨hp1, hp2, hp3⟩ := hnew p h1 (Nat.le_refl _)
      obtain ⟨f, f1, f2, f3⟩ := hq p h1 (Nat.le_refl _)
      have hu : frC C' p = some ⟨N, (p : Int), decide (p - at_ + 1 = bodies.length), bodies[p - at_]⟩ := by
        unfold frC; rw [hp3]
        exact unframe_frame N p _ _ (by omega) (by omega) (hb _ (List.getElem_mem _))
      rw [hu] at f1
      injection f1 with f1
      rw [← f1] at f3
      simp only [decide_true, decide_eq_true_eq] at f3
      refine hnall fun j hj => ?_
      obtain ⟨_, a2, a3⟩ := hnew (at_ + j) (by omega) (by omega)
      have ej : at_ + j - at_ = j := by omega
      simp only [ej] at a3
      exact a3
    · refine h.nb p e h1 h2 h3 fun q hq1 hq2 => ?_
      obtain ⟨f, f1, f2, f3⟩ := hq q hq1 hq2
      rcases (hfr q (by omega)).2 hq1 with hx | hx | ⟨_, hj, hx⟩
      · exact ⟨f, by rw [← hx]; exact f1, f2, f3⟩
      · rw [hx] at f1; cases f1
      · have hu : frC C' q = some ⟨N, (q : Int), decide (q - at_ + 1 = bodies.length), bodies[q - at_]⟩ := by
          unfold frC; rw [hx]
          exact unframe_frame N q _ _ (by omega) (by omega) (hb _ (List.getElem_mem _))
        rw [hu] at f1
        injection f1 with f1
        rw [← f1] at f2
        exact absurd f2.symm heN
end Go.Proofs.Ytmgpiminicgbiaa
namespace Go.Proofs.Ytmgpiminicgbiaa
set_option linter.unusedVariables false
set_option linter.unusedSimpArgs false
open Go.RowKit
/-! ## Devices, bound or not, and crashes -/
def keptL (D : DevS) (i : Nat) : List UInt8 := ((D.kept[i]?).getD zB).1
theorem keptL_len (D : DevS) (i : Nat) : (keptL D i).length = 64 := ((D.kept[i]?).getD zB).2
theorem secL_dry {D : DevS} (h : D.wait = []) (i : Nat) : secL D i = keptL D i := by
  unfold secL curS keptL; rw [h]; rfl
/-- a log's device -/
structure DOk (n c : Nat) (D : DevS) : Prop where
  ok : D.Ok
  kn : D.kept.length = n + 2
  cc : D.calls ≤ c
theorem DOk.up {n c d : Nat} {D : DevS} (h : DOk n c D) (hd : c ≤ d) : DOk n d D := ⟨h.ok, h.kn, by have := h.cc; omega⟩
theorem DOk.chk {n c : Nat} {D : DevS} (h : DOk n c D) (i : Int) (hi : 0 ≤ i ∧ i < n + 2) (m : Nat) (hm : m ≤ 64) : checkS D i m = if D.bound = true ∧ D.left = 0 then 60 else 0 := by
  unfold checkS
  rw [if_neg (by rw [h.kn]; omega)]
theorem write_form (D : DevS) (i : Int) (l : List UInt8) (h : checkS D i l.length = 0) : writeS D i l = countS { D with wait := D.wait ++ [(i.toNat, padB l)] } := by
  unfold writeS; rw [if_pos h]
theorem DOk.write {n c : Nat} {D : DevS} (h : DOk n c D) (hc : c ≤ 50000) (hw : D.wait.length ≤ 50000) (i : Int) (l : List UInt8) : DOk n (c + 1) (writeS D i l) := by
  have h1 := h.cc
  refine ⟨write_Ok h.ok (by omega) (by omega), by rw [writeS_kept]; exact h.kn, ?_⟩
  unfold writeS; split
  · simp only [countS]; omega
  · omega
theorem DOk.flush {n c : Nat} {D : DevS} (h : DOk n c D) (hc : c ≤ 50000) : DOk n (c + 1) (flushS D) := by
  have h1 := h.cc; have h0 := h.ok.c1; have hk := h.kn; have hk2 := h.ok.k2
  unfold flushS; split
  · rename_i hz
    obtain ⟨_, _, _, h4⟩ := check_ok hz
    have hl1 := h.ok.l1; have hl2 := h.ok.l2
    refine ⟨⟨by simp [countS], by simp [countS, hk], by simp [countS]; omega, ?_, ?_, by simp only [countS]; omega, by simp only [countS]; omega, by simp [countS]⟩, by simp [countS, hk], by simp only [countS]; omega⟩
    · simp only [countS]; split
      · have := h4 (by assumption); omega
      · exact hl1
    · simp only [countS]; split <;> omega
  · exact ⟨h.ok, hk, by omega⟩
theorem DOk.crash {n c : Nat} {D : DevS} (h : DOk n c D) (t : List Int) : DOk n c (crashS t D) :=
  ⟨⟨by simp [crashS], by simp [crashS]; exact h.ok.k1, by simp [crashS]; exact h.ok.k2, h.ok.l1, h.ok.l2, h.ok.c1, h.ok.c2, by simp [crashS]⟩, by simp [crashS]; exact h.kn, h.cc⟩
theorem DOk.limit {n c : Nat} {D : DevS} (h : DOk n c D) (i : Int) (hi : 0 ≤ i ∧ i ≤ 1000) : DOk n c { D with bound := true, left := max i 0 } :=
  ⟨⟨h.ok.w1, h.ok.k1, h.ok.k2, by simp only; omega, by simp only; omega, h.ok.c1, h.ok.c2, h.ok.wl⟩, h.kn, h.cc⟩
theorem secL_limit (D : DevS) (b : Bool) (i : Int) : secL { D with bound := b, left := i } = secL D := rfl
/-! ### What a crash leaves -/
theorem crash_seg (t : List Int) (D : DevS) (i a : Nat) : ∀ b, a ≤ b → b ≤ D.wait.length → (∀ p (hp : p < D.wait.length), a ≤ p → p < b → D.wait[p].1 ≠ i) → (crashTo t D b)[i]? = (crashTo t D a)[i]? := by
  intro b
  induction b with
  | zero => intro h _ _; obtain rfl : a = 0 := by omega
            rfl
  | succ b ih =>
    intro h1 h2 h3
    by_cases hab : a = b + 1
    · rw [hab]
    · have hlt : b < D.wait.length := by omega
      have hne := h3 b hlt (by omega) (by omega)
      have ih := ih (by omega) (by omega) fun p hp h4 h5 => h3 p hp h4 (by omega)
      simp only [crashTo, crashStep, List.getElem?_eq_getElem hlt, Option.getD_some]
      split
      · rw [List.getElem?_set_ne hne]; exact ih
      · exact ih
theorem secL_crash (t : List Int) (D : DevS) (i : Nat) : secL (crashS t D) i = (((crashTo t D D.wait.length)[i]?).getD zB).1 := by
  unfold secL curS crashS; rfl
theorem crash_other (t : List Int) (D : DevS) (i : Nat) (h : ∀ w ∈ D.wait, w.1 ≠ i) : secL (crashS t D) i = keptL D i := by
  rw [secL_crash, crash_seg t D i 0 _ (Nat.zero_le _) (Nat.le_refl _) fun p hp _ _ => h _ (List.getElem_mem hp)]
  rfl
theorem crash_dry (t : List Int) (D : DevS) (h : D.wait = []) (i : Nat) : secL (crashS t D) i = secL D i := by
  rw [crash_other t D i (by rw [h]; simp), secL_dry h]
theorem crash_one (t : List Int) (D : DevS) (q : Nat) (hq : q < D.wait.length) (hk : D.wait[q].1 < D.kept.length) (hd : ∀ p (hp : p < D.wait.length), p ≠ q → D.wait[p].1 ≠ D.wait[q].1) : ∃ r, r ≤ 64 ∧ secL (crashS t D) D.wait[q].1 = tearL (keptL D D.wait[q].1) D.wait[q].2.1 r := by
  have e0 := crash_seg t D D.wait[q].1 0 q (Nat.zero_le _) (by omega) fun p hp _ h2 => hd p hp (by omega)
  have e1 := crash_seg t D D.wait[q].1 (q + 1) D.wait.length (by omega) (Nat.le_refl _) fun p hp h2 _ => hd p hp (by omega)
  rw [secL_crash, e1]
  simp only [crashTo, crashStep, List.getElem?_eq_getElem hq, Option.getD_some]
  have ek : (((crashTo t D q)[D.wait[q].1]?).getD zB).1 = keptL D D.wait[q].1 := by rw [e0]; rfl
  cases htq : t[q]? with
  | none =>
    refine ⟨0, by decide, ?_⟩
    simp only
    rw [ek]; simp [tearL]
  | some tt =>
    refine ⟨(min (max tt 0) 64).toNat, by omega, ?_⟩
    simp only
    rw [List.getElem?_set_self (by simpa using hk), Option.getD_some]
    simp only [tearB]
    rw [ek]; rfl
/-! ### Laying frames on a device that may be bound -/
def wr (f : FrameS) : Nat × B64 := ((2 + f.k).toNat, padB (frameL f))
theorem lay_pend {n : Nat} : ∀ (fs : List FrameS) (c : Nat) (D : DevS), DOk n c D → c + fs.length ≤ 40000 → D.wait.length + fs.length ≤ 40000 → (∀ f ∈ fs, 0 ≤ f.k ∧ f.k < n) →
    DOk n (c + fs.length + 1) (layS D fs).2 ∧ (layS D fs).2.bound = D.bound ∧ (D.bound = false → (layS D fs).1 = 0) ∧
    (((layS D fs).1 = 0 ∧ (layS D fs).2.wait = [] ∧ (layS D fs).2.kept = (D.wait ++ fs.map wr).foldl putW D.kept) ∨ ((layS D fs).1 ≠ 0 ∧ (layS D fs).2.kept = D.kept ∧ ∃ q, q ≤ fs.length ∧ (layS D fs).2.wait = D.wait ++ (fs.take q).map wr)) := by
  intro fs
  induction fs with
  | nil =>
    intro c D h hc _ _
    have hk := h.chk 0 (by omega) 0 (by decide)
    refine ⟨h.flush (by simp at hc; omega), ?_, ?_, ?_⟩
    · simp only [layS, flushS]; split <;> rfl
    · intro hb; simp only [layS]; rw [hk, hb]; simp
    · simp only [layS]
      by_cases hz : checkS D 0 0 = 0
      · refine .inl ⟨hz, ?_, ?_⟩ <;> unfold flushS <;> rw [if_pos hz] <;> simp [countS]
      · refine .inr ⟨hz, ?_, 0, Nat.le_refl _, ?_⟩ <;> unfold flushS <;> rw [if_neg hz] <;> simp
  | cons f r ih =>
    intro c D h hc hw hf
    obtain ⟨f1, f2⟩ := hf f (by simp)
    simp only [List.length_cons] at hc hw
    have hk := h.chk (2 + f.k) (by omega) 64 (by decide)
    simp only [layS]
    by_cases hz : checkS D (2 + f.k) 64 = 0
    · rw [if_neg (by rw [hz]; decide)]
      have hwf := write_form D (2 + f.k) (frameL f) (by rw [frameL_length]; exact hz)
      have h1 := h.write (by omega) (by omega) (2 + f.k) (frameL f)
      have hwl : (writeS D (2 + f.k) (frameL f)).wait = D.wait ++ [wr f] := by rw [hwf]; rfl
      have hbd : (writeS D (2 + f.k) (frameL f)).bound = D.bound := by rw [hwf]; rfl
      have hkp : (writeS D (2 + f.k) (frameL f)).kept = D.kept := writeS_kept _ _ _
      obtain ⟨a, b, d, e⟩ := ih (c + 1) _ h1 (by omega) (by rw [hwl]; simp; omega) fun g hg => hf g (List.mem_cons_of_mem _ hg)
      rw [hwl, hkp] at e
      rw [hbd] at b d
      refine ⟨a.up (by simp; omega), b, d, ?_⟩
      rcases e with ⟨e1, e2, e3⟩ | ⟨e1, e2, q, e3, e4⟩
      · exact .inl ⟨e1, e2, by rw [e3]; simp⟩
      · exact .inr ⟨e1, e2, q + 1, by simp; omega, by rw [e4]; simp⟩
    · rw [if_pos hz]
      refine ⟨h.up (by omega), rfl, ?_, .inr ⟨hz, rfl, 0, Nat.zero_le _, by simp⟩⟩
      intro hb; exfalso; apply hz; rw [hk, hb]; simp
/-! ### The frames of a batch -/
def bodiesOf (b : List UInt8) : List (List UInt8) := if b.length = 0 then [[]] else (List.range (chunkN b)).map (chunkB b)
theorem bodies_flat (b : List UInt8) : (bodiesOf b).flatten = b := by
  unfold bodiesOf
  split
  · rename_i h; simp [List.length_eq_zero_iff.1 h]
  · have key : ∀ m, ((List.range m).map (chunkB b)).flatten = b.take (46 * m) := by
      intro m
      induction m with
      | zero => simp
      | succ m ih =>
        rw [List.range_succ, List.map_append, List.flatten_append, ih]
        simp only [List.map_cons, List.map_nil, List.flatten_cons, List.flatten_nil, List.append_nil, chunkB]
        rw [show 46 * (m + 1) = 46 * m + 46 by omega, List.take_add]
    rw [key, List.take_of_length_le]
    unfold chunkN; omega
theorem bodies_ne (b : List UInt8) : bodiesOf b ≠ [] := by
  unfold bodiesOf
  split
  · simp
  · rename_i h; simp [chunkN]; omega
theorem bodies_le (b : List UInt8) : ∀ x ∈ bodiesOf b, x.length ≤ 46 := by
  unfold bodiesOf
  split
  · simp
  · intro x hx
    simp only [List.mem_map] at hx
    obtain ⟨j, _, rfl⟩ := hx
    simp [chunkB]; omega
theorem bodies_len (L : LogS) (b : List UInt8) : (framesOf L b).length = (bodiesOf b).length := by
  unfold framesOf bodiesOf; split <;> simp [chunkF]
theorem markL_get (l : List FrameS) (j : Nat) (hj : j < l.length) (hj' : j < (markL l).length) : (markL l)[j] = ⟨l[j].epoch, l[j].k, if j + 1 = l.length then true else l[j].last, l[j].body⟩ := by
  have hne : l ≠ [] := by intro h; subst h; simp at hj
  obtain ⟨i, f, rfl⟩ : ∃ i f, l = i ++ [f] := ⟨l.dropLast, l.getLast hne, (List.dropLast_concat_getLast hne).symm⟩
  have e2 : markL (i ++ [f]) = i ++ [{ f with last := true }] := by simp [markL]
  simp only [e2]
  by_cases h : j < i.length
  · rw [List.getElem_append_left h, if_neg (by simp; omega), List.getElem_append_left h]
  · have : j = i.length := by simp at hj; omega
    subst this
    rw [List.getElem_append_right (by omega), if_pos (by simp), List.getElem_append_right (by omega)]
    simp
theorem frames_get (L : LogS) (b : List UInt8) (j : Nat) (hj : j < (bodiesOf b).length) (hj' : j < (markL (framesOf L b)).length) : (markL (framesOf L b))[j] = ⟨L.h.epoch, L.at_ + (j : Int), decide (j + 1 = (bodiesOf b).length), (bodiesOf b)[j]⟩ := by
  have hl := bodies_len L b
  rw [markL_get _ j (by omega) hj']
  have hf : ∀ (h : j < (framesOf L b).length), (framesOf L b)[j] = ⟨L.h.epoch, L.at_ + (j : Int), false, (bodiesOf b)[j]⟩ := by
    unfold framesOf
    by_cases h0 : b.length = 0
    · rw [if_pos h0]
      intro h
      have : j = 0 := by simpa using h
      subst this
      simp [bodiesOf, h0]
    · rw [if_neg h0]
      intro h
      simp [chunkF, bodiesOf, h0]
  rw [hf (by omega), hl]
  simp only [FrameS.mk.injEq, true_and, and_true]
  split <;> simp_all
/-! ### The acts of a log on its sectors -/
theorem keptL_fold (D : DevS) (ws : List (Nat × B64)) (h : ∀ w ∈ ws, w.1 < D.kept.length) (i : Nat) : (((ws.foldl putW D.kept)[i]?).getD zB) = lastW ws i ((D.kept[i]?).getD zB) := putW_fold i ws D.kept h
theorem lastW_at (ws : List (Nat × B64)) (q : Nat) (hq : q < ws.length) (b : B64) (hd : ∀ p (hp : p < ws.length), q < p → ws[p].1 ≠ ws[q].1) : lastW ws ws[q].1 b = ws[q].2 := by
  have e : ws = ws.take q ++ ws[q] :: ws.drop (q + 1) := by rw [← List.drop_eq_getElem_cons hq, List.take_append_drop]
  have e2 : lastW ws ws[q].1 b = lastW (ws.drop (q + 1)) ws[q].1 ws[q].2 := by
    conv => lhs; arg 1; rw [e]
    unfold lastW
    rw [List.foldl_append, List.foldl_cons, if_pos rfl]
  rw [e2]
  refine lastW_none _ _ _ fun w hw => ?_
  obtain ⟨p, hp, rfl⟩ := List.getElem_of_mem hw
  rw [List.getElem_drop]
  simp at hp
  exact hd _ (by omega) (by omega)
/-- what Append does: done; or not begun; or, on a device that is bound, whatever crash comes: nothing or all -/
def AppOut (n N B : Nat) (body : List UInt8) (bs : List (List UInt8)) (at_ least : Nat) (b : List UInt8) (D : DevS) (r : Int × DevS × LogS) : Prop :=
  (r.1 = 0 ∧ r.2.1.wait = [] ∧ ∃ at', r.2.2 = ⟨n, ⟨N, N, B, body⟩, (at' : Nat), bs ++ [b], false⟩ ∧ UpC n (secL r.2.1) N B body (bs ++ [b]) at' N) ∨
  (r.1 ≠ 0 ∧ ((r.2.1 = D ∧ r.2.2 = ⟨n, ⟨N, N, B, body⟩, at_, bs, false⟩) ∨ (D.bound = true ∧ r.2.2 = ⟨n, ⟨N, N, B, body⟩, at_, bs, true⟩ ∧ ∀ t, RestC n (secL (crashS t r.2.1)) N B body bs at_ least ∨ ∃ at', RestC n (secL (crashS t r.2.1)) N B body (bs ++ [b]) at' N)))
theorem app_dev {n c N B at_ least : Nat} {body : List UInt8} {bs : List (List UInt8)} {D : DevS} (h : UpC n (secL D) N B body bs at_ least) (hD : DOk n c D) (hw : D.wait = []) (hn : n ≤ 200) (hc : c ≤ 30000) (b : List UInt8) :
    DOk n (c + n + 1) (appS D ⟨n, ⟨N, N, B, body⟩, at_, bs, false⟩ b).2.1 ∧ (appS D ⟨n, ⟨N, N, B, body⟩, at_, bs, false⟩ b).2.1.bound = D.bound ∧ AppOut n N B body bs at_ least b D (appS D ⟨n, ⟨N, N, B, body⟩, at_, bs, false⟩ b) := by
  obtain ⟨L, hL⟩ : ∃ L : LogS, L = ⟨n, ⟨N, N, B, body⟩, at_, bs, false⟩ := ⟨_, rfl⟩
  rw [← hL]
  have hdn : ¬ L.down = true := by rw [hL]; simp
  have hrm : roomL L = n - at_ := by unfold roomL; rw [if_neg hdn, hL]
  have hal := h.r.al
  unfold appS
  rw [if_neg hdn]
  by_cases hb : 65536 < b.length
  · rw [if_pos hb]; exact ⟨hD.up (by omega), rfl, .inr ⟨by simp, .inl ⟨rfl, hL⟩⟩⟩
  rw [if_neg hb]
  by_cases hr : roomL L < (framesOf L b).length
  · rw [if_pos hr]; exact ⟨hD.up (by omega), rfl, .inr ⟨by simp, .inl ⟨rfl, hL⟩⟩⟩
  rw [if_neg hr]
  have hbl := bodies_len L b
  have hml : (markL (framesOf L b)).length = (bodiesOf b).length := by rw [markL_length, hbl]
  have hroom : at_ + (bodiesOf b).length ≤ n := by rw [hrm, hbl] at hr; omega
  have hget : ∀ j (hj : j < (bodiesOf b).length) (hj' : j < (markL (framesOf L b)).length), (markL (framesOf L b))[j] = ⟨N, ((at_ + j : Nat) : Int), decide (j + 1 = (bodiesOf b).length), (bodiesOf b)[j]⟩ := fun j hj hj' => by
    rw [frames_get L b j hj hj', hL]; simp
  have hks : ∀ f ∈ markL (framesOf L b), 0 ≤ f.k ∧ f.k < n := by
    intro f hf
    obtain ⟨j, hj, rfl⟩ := List.getElem_of_mem hf
    rw [hget j (by omega) hj]
    simp only; omega
  obtain ⟨l1, l2, l3, l4⟩ := lay_pend (markL (framesOf L b)) c D hD (by omega) (by rw [hw]; simp; omega) hks
  have hwget : ∀ j (hj : j < (bodiesOf b).length) (hj' : j < ((markL (framesOf L b)).map wr).length), ((markL (framesOf L b)).map wr)[j] = (2 + (at_ + j), padB (frameL ⟨N, ((at_ + j : Nat) : Int), decide (j + 1 = (bodiesOf b).length), (bodiesOf b)[j]⟩)) := fun j hj hj' => by
    rw [List.getElem_map, hget j hj (by omega)]
    unfold wr
    simp only [Prod.mk.injEq, and_true]
    omega
  obtain ⟨R, hR⟩ : ∃ R, R = layS D (markL (framesOf L b)) := ⟨_, rfl⟩
  rw [← hR] at l1 l2 l3 l4 ⊢
  have hpad : ∀ f : FrameS, (padB (frameL f)).1 = frameL f := fun f => padB_64 _ (frameL_length f)
  have hwl : ((markL (framesOf L b)).map wr).length = (bodiesOf b).length := by simp [hml]
  obtain ⟨ws, hws⟩ : ∃ ws, ws = (markL (framesOf L b)).map wr := ⟨_, rfl⟩
  rw [← hws] at hwget hwl
  have hwk : ∀ w ∈ ws, w.1 < D.kept.length := by
    intro w hw'
    obtain ⟨j, hj, rfl⟩ := List.getElem_of_mem hw'
    rw [hwget j (by omega) hj, hD.kn]
    simp only; omega
  by_cases hz : R.1 = 0
  · rw [if_neg (by rw [hz]; decide)]
    refine ⟨l1.up (by omega), l2, .inl ⟨rfl, ?_⟩⟩
    rcases l4 with ⟨_, l5, l6⟩ | ⟨l5, _⟩
    · refine ⟨l5, at_ + (bodiesOf b).length, by rw [hbl]; simp [hL], ?_⟩
      rw [hw, List.nil_append, ← hws] at l6
      have hsec : ∀ i, secL R.2 i = (lastW ws i ((D.kept[i]?).getD zB)).1 := fun i => by
        rw [secL_dry l5, keptL, l6, keptL_fold D ws hwk]
      have hall : ∀ j (hj : j < (bodiesOf b).length), secL R.2 (2 + (at_ + j)) = frameL ⟨N, ((at_ + j : Nat) : Int), decide (j + 1 = (bodiesOf b).length), (bodiesOf b)[j]⟩ := fun j hj => by
        have hj' : j < ws.length := by omega
        have e := hwget j hj hj'
        have e2 := lastW_at ws j hj' ((D.kept[2 + (at_ + j)]?).getD zB) fun p hp hqp => by
          rw [hwget p (by omega) hp, e]; simp only; omega
        rw [e] at e2
        simp only at e2
        rw [hsec, e2, hpad]
      have := (h.app (C' := secL R.2) hn (bodiesOf b) (bodies_ne b) (bodies_le b) hroom (fun i hi => by
        rw [hsec, lastW_none, secL_dry hw]; rfl
        intro w hw'
        obtain ⟨j, hj, rfl⟩ := List.getElem_of_mem hw'
        rw [hwget j (by omega) hj]
        simp only
        exact fun hx => hi j (by omega) hx.symm) (fun j hj => ⟨64, Nat.le_refl _, by
          rw [hall j hj, tear_all _ _ (by rw [secL_dry hw]; exact keptL_len _ _) (frameL_length _)]⟩)).1 hall
      rw [bodies_flat] at this
      exact this
    · exact absurd hz l5
  · rw [if_pos hz]
    refine ⟨l1.up (by omega), l2, .inr ⟨hz, .inr ⟨?_, by rw [hL], fun t => ?_⟩⟩⟩
    · cases hbd : D.bound with
      | true => rfl
      | false => exact absurd (l3 hbd) hz
    · rcases l4 with ⟨l5, _⟩ | ⟨_, l5, q, hq, l6⟩
      · exact absurd l5 hz
      · rw [hw, List.nil_append, List.map_take, ← hws] at l6
        rw [hml] at hq
        have hlen : (ws.take q).length = q := by simp; omega
        have hg : ∀ p (hp : p < R.2.wait.length), ∃ (hp' : p < (bodiesOf b).length), R.2.wait[p] = (2 + (at_ + p), padB (frameL ⟨N, ((at_ + p : Nat) : Int), decide (p + 1 = (bodiesOf b).length), (bodiesOf b)[p]⟩)) := by
          rw [l6]
          intro p hp
          rw [hlen] at hp
          refine ⟨by omega, ?_⟩
          rw [List.getElem_take]; exact hwget p (by omega) (by omega)
        have hwn : R.2.wait.length = q := by rw [l6, hlen]
        have hks : ∀ i, keptL R.2 i = secL D i := fun i => by rw [secL_dry hw]; unfold keptL; rw [l5]
        have hap := h.app (C' := secL (crashS t R.2)) hn (bodiesOf b) (bodies_ne b) (bodies_le b) hroom (fun i hi => by
          rw [crash_other, hks]
          intro w hw'
          obtain ⟨p, hp, rfl⟩ := List.getElem_of_mem hw'
          obtain ⟨hp', e⟩ := hg p hp
          rw [e]; exact fun hx => hi p hp' hx.symm) (fun j hj => by
          by_cases hjq : j < q
          · have hjw : j < R.2.wait.length := by omega
            obtain ⟨_, e⟩ := hg j hjw
            obtain ⟨r, r1, r2⟩ := crash_one t R.2 j hjw (by rw [e, l5, hD.kn]; simp only; omega) fun p hp hpj => by
              obtain ⟨_, e'⟩ := hg p hp
              rw [e, e']; simp only; omega
            rw [e] at r2
            simp only at r2
            rw [hks, hpad] at r2
            exact ⟨r, r1, r2⟩
          · refine ⟨0, by decide, ?_⟩
            rw [crash_other, hks]
            · simp [tearL]
            · intro w hw'
              obtain ⟨p, hp, rfl⟩ := List.getElem_of_mem hw'
              obtain ⟨hp', e⟩ := hg p hp
              rw [e]; simp only; omega)
        rw [bodies_flat] at hap
        by_cases hall : ∀ j (hj : j < (bodiesOf b).length), secL (crashS t R.2) (2 + (at_ + j)) = frameL ⟨N, ((at_ + j : Nat) : Int), decide (j + 1 = (bodiesOf b).length), (bodiesOf b)[j]⟩
        · exact .inr ⟨_, (hap.1 hall).r⟩
        · exact .inl (hap.2 hall)
/-! ### Heads -/
theorem head_dev {n c N : Nat} {D : DevS} (hD : DOk n c D) (hw : D.wait = []) (hc : c ≤ 30000) (L : LogS) (hLn : L.h.n = N) (hLe : L.h.epoch = N) (hN : N ≤ 1000) (h : HeadS) (hb : h.body.length ≤ 32) :
    DOk n (c + 2) (whS D L h).2.1 ∧ (whS D L h).2.1.bound = D.bound ∧
    (((whS D L h).1 = 0 ∧ (whS D L h).2.1.wait = [] ∧ (whS D L h).2.2 = { L with h := nextH L h } ∧ ∀ i, secL (whS D L h).2.1 i = if i = (N + 1) % 2 then headL (nextH L h) else secL D i) ∨
     ((whS D L h).1 = 60 ∧ D.bound = true ∧ (whS D L h).2.2 = L ∧ ∀ t, (∀ i, i ≠ (N + 1) % 2 → secL (crashS t (whS D L h).2.1) i = secL D i) ∧ ∃ q, q ≤ 64 ∧ secL (crashS t (whS D L h).2.1) ((N + 1) % 2) = tearL (secL D ((N + 1) % 2)) (headL (nextH L h)) q)) := by
  have hgn : (nextH L h).n.tmod 2 = (((N + 1) % 2 : Nat) : Int) := by
    have : (nextH L h).n = ((N + 1 : Nat) : Int) := by simp [nextH, hLn]
    rw [this, tmod2]
  have hk := hD.chk ((nextH L h).n.tmod 2) (by rw [hgn]; omega) 64 (by decide)
  have hlen := headL_length (nextH L h)
  unfold whS
  rw [if_neg (by rw [hLe]; omega)]
  by_cases hz : checkS D ((nextH L h).n.tmod 2) 64 = 0
  · rw [if_neg (by rw [hz]; decide)]
    have hwf : wrH D (nextH L h) = countS { D with wait := D.wait ++ [(((nextH L h).n.tmod 2).toNat, padB (headL (nextH L h)))] } := write_form D _ _ (by rw [hlen]; exact hz)
    have hW : DOk n (c + 1) (wrH D (nextH L h)) := hD.write (by omega) (by rw [hw]; simp) _ _
    obtain ⟨W, hWe⟩ : ∃ W, W = wrH D (nextH L h) := ⟨_, rfl⟩
    rw [← hWe] at hW hwf ⊢
    have hWw : W.wait = [((N + 1) % 2, padB (headL (nextH L h)))] := by rw [hwf, hgn, hw]; rfl
    have hWk : W.kept = D.kept := by rw [hwf]; rfl
    have hWb : W.bound = D.bound := by rw [hwf]; rfl
    have hpad := padB_64 _ hlen
    by_cases hz2 : checkS W 0 0 = 0
    · rw [if_neg (by rw [hz2]; decide)]
      refine ⟨hW.flush (by omega), ?_, .inl ⟨rfl, ?_, rfl, fun i => ?_⟩⟩
      · rw [← hWb]; simp only [flushS]; split <;> rfl
      · unfold flushS; rw [if_pos hz2]; rfl
      · have hd : (flushS W).wait = [] := by unfold flushS; rw [if_pos hz2]; rfl
        simp only
        rw [secL_dry hd, secL_dry hw]
        have hfk : (flushS W).kept = W.wait.foldl putW W.kept := by unfold flushS; rw [if_pos hz2]; rfl
        unfold keptL
        rw [hfk, hWw, hWk]
        simp only [List.foldl_cons, List.foldl_nil]
        rw [putW_get _ _ (by rw [hD.kn]; simp only; omega)]
        by_cases hi : i = (N + 1) % 2
        · rw [if_pos hi.symm, if_pos hi]; exact hpad
        · rw [if_neg fun hx => hi hx.symm, if_neg hi]
    · rw [if_pos hz2]
      have h60 := hW.chk 0 (by omega) 0 (by decide)
      have hbd : W.bound = true ∧ W.left = 0 := Decidable.byContradiction fun hx => hz2 (by rw [h60, if_neg hx])
      rw [if_pos hbd] at h60
      refine ⟨hW.up (by omega), hWb, .inr ⟨h60, by rw [← hWb]; exact hbd.1, rfl, fun t => ⟨fun i hi => ?_, ?_⟩⟩⟩
      · simp only
        rw [crash_other, secL_dry hw]; unfold keptL; rw [hWk]
        rw [hWw]; intro w hx; simp only [List.mem_singleton] at hx; subst hx; exact fun hx => hi hx.symm
      · have hl0 : 0 < W.wait.length := by rw [hWw]; simp
        have e0 : W.wait[0] = ((N + 1) % 2, padB (headL (nextH L h))) := by simp [hWw]
        obtain ⟨r, r1, r2⟩ := crash_one t W 0 hl0 (by rw [e0, hWk, hD.kn]; simp only; omega) fun p hp hp0 => by rw [hWw] at hp; simp at hp; omega
        rw [e0] at r2
        simp only at r2 ⊢
        rw [hpad] at r2
        refine ⟨r, r1, ?_⟩
        rw [r2, secL_dry hw]; unfold keptL; rw [hWk]
  · rw [if_pos hz]
    have hbd : D.bound = true ∧ D.left = 0 := Decidable.byContradiction fun hx => hz (by rw [hk, if_neg hx])
    rw [if_pos hbd] at hk
    refine ⟨hD.up (by omega), rfl, .inr ⟨hk, hbd.1, rfl, fun t => ⟨fun i _ => crash_dry t D hw i, 0, by decide, ?_⟩⟩⟩
    simp only
    rw [crash_dry t D hw]; simp [tearL]
def ResOut (n N B : Nat) (body : List UInt8) (bs : List (List UInt8)) (at_ least : Nat) (b : List UInt8) (D : DevS) (r : Int × DevS × LogS) : Prop :=
  (r.1 = 0 ∧ r.2.1.wait = [] ∧ b.length ≤ 32 ∧ r.2.2 = ⟨n, ⟨((N + 1 : Nat) : Int), ((N + 1 : Nat) : Int), ((N + 1 : Nat) : Int), b⟩, 0, [], false⟩ ∧ UpC n (secL r.2.1) (N + 1) (N + 1) b [] 0 (N + 1)) ∨
  (r.1 ≠ 0 ∧ ((r.2.1 = D ∧ r.2.2 = ⟨n, ⟨N, N, B, body⟩, at_, bs, false⟩) ∨ (D.bound = true ∧ r.2.2 = ⟨n, ⟨N, N, B, body⟩, at_, bs, true⟩ ∧ b.length ≤ 32 ∧ ∀ t, RestC n (secL (crashS t r.2.1)) N B body bs at_ least ∨ RestC n (secL (crashS t r.2.1)) (N + 1) (N + 1) b [] 0 (N + 1))))
theorem res_dev {n c N B at_ least : Nat} {body : List UInt8} {bs : List (List UInt8)} {D : DevS} (h : RestC n (secL D) N B body bs at_ least) (hN : N < 200) (hD : DOk n c D) (hw : D.wait = []) (hc : c ≤ 30000) (b : List UInt8) :
    DOk n (c + 2) (resS D ⟨n, ⟨N, N, B, body⟩, at_, bs, false⟩ b).2.1 ∧ (resS D ⟨n, ⟨N, N, B, body⟩, at_, bs, false⟩ b).2.1.bound = D.bound ∧ ResOut n N B body bs at_ least b D (resS D ⟨n, ⟨N, N, B, body⟩, at_, bs, false⟩ b) := by
  obtain ⟨L, hL⟩ : ∃ L : LogS, L = ⟨n, ⟨N, N, B, body⟩, at_, bs, false⟩ := ⟨_, rfl⟩
  rw [← hL]
  have hdn : ¬ L.down = true := by rw [hL]; simp
  unfold resS
  rw [if_neg hdn]
  by_cases hb : 32 < b.length
  · rw [if_pos hb]; exact ⟨hD.up (by omega), rfl, .inr ⟨by simp, .inl ⟨rfl, hL⟩⟩⟩
  rw [if_neg hb]
  have hg : nextH L ⟨0, 0, -1, b⟩ = ⟨((N + 1 : Nat) : Int), ((N + 1 : Nat) : Int), ((N + 1 : Nat) : Int), b⟩ := by simp [nextH, hL]
  obtain ⟨d1, d2, d3⟩ := head_dev hD hw hc L (by rw [hL]) (by rw [hL]) (by omega) ⟨0, 0, -1, b⟩ (by simp only; omega)
  rw [hg] at d3
  obtain ⟨R, hR⟩ : ∃ R, R = whS D L ⟨0, 0, -1, b⟩ := ⟨_, rfl⟩
  rw [← hR] at d1 d2 d3 ⊢
  rcases d3 with ⟨e1, e2, e3, e4⟩ | ⟨e1, e2, e3, e4⟩
  · rw [if_neg (by rw [e1]; decide)]
    refine ⟨d1, d2, .inl ⟨rfl, e2, by omega, by rw [e3, hL], ?_⟩⟩
    exact h.reset hN (fun i hi => by rw [e4, if_neg hi]) b (by omega) (by rw [e4, if_pos rfl])
  · rw [if_pos (by rw [e1]; decide)]
    refine ⟨d1, d2, .inr ⟨by simp only; rw [e1]; decide, .inr ⟨e2, by simp only [e3, e1]; rw [hL]; simp, by omega, fun t => ?_⟩⟩⟩
    obtain ⟨f1, q, f2, f3⟩ := e4 t
    by_cases hq : q = 64
    · rw [hq, tear_all _ _ (by rw [secL_dry hw]; exact keptL_len _ _) (headL_length _)] at f3
      exact .inr (h.reset hN f1 b (by omega) f3).r
    · exact .inl (h.tearHead f1 (by rw [f3]; exact h.oth.tear (by omega) _ _ b (by omega) (by omega)))
def OpenOut (n N B : Nat) (body : List UInt8) (bs : List (List UInt8)) (at_ least : Nat) (D : DevS) (r : Int × DevS × LogS) : Prop :=
  (r.1 = 0 ∧ r.2.1.wait = [] ∧ r.2.2 = ⟨n, ⟨((N + 1 : Nat) : Int), ((N + 1 : Nat) : Int), B, body⟩, at_, bs, false⟩ ∧ UpC n (secL r.2.1) (N + 1) B body bs at_ least) ∨
  (r.1 ≠ 0 ∧ D.bound = true ∧ ∀ t, ∃ M, N ≤ M ∧ M ≤ N + 1 ∧ RestC n (secL (crashS t r.2.1)) M B body bs at_ least)
theorem open_dev2 {n c N B at_ least : Nat} {body : List UInt8} {bs : List (List UInt8)} {D : DevS} (h : RestC n (secL D) N B body bs at_ least) (hN : N < 200) (hD : DOk n c D) (hw : D.wait = []) (hc : c ≤ 30000) :
    DOk n (c + 2) (openS D n).2.1 ∧ (openS D n).2.1.bound = D.bound ∧ OpenOut n N B body bs at_ least D (openS D n) := by
  have hk := hD.chk 0 (by omega) 0 (by decide)
  unfold openS
  by_cases hz : checkS D 0 0 = 0
  · rw [if_neg (by rw [hz]; decide), h.read]
    obtain ⟨L, hL⟩ : ∃ L : LogS, L = ⟨n, ⟨N, N, B, body⟩, at_, bs, false⟩ := ⟨_, rfl⟩
    rw [← hL]
    have hg : nextH L L.h = ⟨((N + 1 : Nat) : Int), ((N + 1 : Nat) : Int), B, body⟩ := by simp only [nextH, hL]; rw [if_neg (by omega)]; simp
    have hLh : L.h = ⟨N, N, B, body⟩ := by rw [hL]
    have hbl := h.bl
    obtain ⟨d1, d2, d3⟩ := head_dev hD hw hc L (by rw [hL]) (by rw [hL]) (by omega) L.h (by rw [hLh]; exact hbl)
    rw [hg] at d3
    obtain ⟨R, hR⟩ : ∃ R, R = whS D L L.h := ⟨_, rfl⟩
    rw [← hR] at d1 d2 d3 ⊢
    refine ⟨d1, d2, ?_⟩
    rcases d3 with ⟨e1, e2, e3, e4⟩ | ⟨e1, e2, e3, e4⟩
    · exact .inl ⟨e1, e2, by rw [e3, hL], h.newHead hN (fun i hi => by rw [e4, if_neg hi]) (by rw [e4, if_pos rfl])⟩
    · refine .inr ⟨by rw [e1]; decide, e2, fun t => ?_⟩
      obtain ⟨f1, q, f2, f3⟩ := e4 t
      by_cases hq : q = 64
      · rw [hq, tear_all _ _ (by rw [secL_dry hw]; exact keptL_len _ _) (headL_length _)] at f3
        exact ⟨N + 1, by omega, by omega, (h.newHead hN f1 f3).r⟩
      · exact ⟨N, by omega, by omega, h.tearHead f1 (by rw [f3]; exact h.oth.tear (by omega) _ _ body hbl (by omega))⟩
  · rw [if_pos hz]
    have hbd : D.bound = true ∧ D.left = 0 := Decidable.byContradiction fun hx => hz (by rw [hk, if_neg hx])
    refine ⟨hD.up (by omega), rfl, .inr ⟨hz, hbd.1, fun t => ⟨N, by omega, by omega, ?_⟩⟩⟩
    have e : secL (crashS t D) = secL D := funext fun i => crash_dry t D hw i
    simp only
    rw [e]; exact h
end Go.Proofs.Ytmgpiminicgbiaa
namespace Go.Proofs.Ytmgpiminicgbiaa
set_option linter.unusedVariables false
set_option linter.unusedSimpArgs false
open Go.RowKit
attribute [local simp] isCut_nil isCut_region isCut_seq isCut_block isCut_loop isCut_cond isCut_skip isCut_exit isCut_ret isCut_range swapK putK altK condK_bool pickP_bool stepP stepO onPure_some onPure_none onImpl_some onImpl_none stepC onGP_some onGP_none onGV_some condG mkG onIt_it nextP_ptr takeP_eq takeV_some takeV_none takeU_some takeU_none takeQ takeW_some takeN_none takeN_some takeG_some takeO_some altO_some pureV binV2 eqF eqOp ovlV ovl2 rowAt capV binV intBin strBin isSh shV fldV ixV sliceV slice3V loadAV nilV lenV callV unV convV viewS cellsH loadV fldCut AV.ung AV.ungs AV.gc AV.cells AS.ev AS.put anyS gcsV gcO lens lnO gV guardV retK RetP_eq resV oneV anyRo loIx hiIx implO callP_clo evL gcsL clearV storeAV AS.push AS.setO appV appZ shortS copyV buildV partsV fillV srcV fzO okV isCell_c isCell_ptr isCell_sl isCell_fs isCell_fp isCell_clo rowZ_one rowZ_zero rowZ_2 rowZ_3 rowZ_4 rowZ_5 rowZ_6 rowZ_7 rowZ_8 rowZ_9 rowZ_10 rowZ_11 rowZ_12 noHo Value.oneCell' max2V min2V lookV updV updK updW cvals mkAt basV lenM msAt afterH putBack frzFrom frzO rebO backIx nilEq_sl nilEq_fs nilEq_ifn nilEq_ifh ifOp_eql ifOp_neq isLit nilOp_eql nilOp_neq AV.reb AV.rebL
attribute [local simp ↓] runK_skip runK_region runK_draw runK_seq runK_cut runK_cond runK_block runK_loop runK_exit runK_label runK_goto runK_ret runK_range contK_nil contK_seq contK_seq_ret contK_seq_exit contK_seq_goto contK_block contK_block_ret contK_block_goto contK_block_exit runO_nil runO_cons roundK_exit roundK_ret roundK_goto exitK_ret cutK_ret cutK_exit runE_done runE_nil runE_take runE_alt condG_true condG_false
set_option maxRecDepth 10000
/-! ## Batches as strings -/
def str (b : List UInt8) : ByteArray := ⟨b.toArray⟩
theorem bytesOf_str (l : List UInt8) : bytesOf (u8av l) = str l := bytesOf_u8 l
theorem str_inj {a b : List UInt8} : str a = str b ↔ a = b := by
  unfold str; constructor
  · intro h; simpa using h
  · rintro rfl; rfl
def strA (l : List (List UInt8)) : List AV := l.map fun b => .c (.string (str b))
@[simp] theorem strA_length (l : List (List UInt8)) : (strA l).length = l.length := by simp [strA]
theorem strA_get (l : List (List UInt8)) (j : Nat) (hj : j < l.length) : (List.drop j (strA l))[0]? = some (.c (.string (str l[j]))) := by
  rw [List.getElem?_drop, Nat.add_zero]; simp [strA, hj]
@[simp] theorem strA_all (l : List (List UInt8)) : (∀ x ∈ strA l, isD x = true) ↔ True := iff_true_intro <| by simp [strA, isD]
@[simp] theorem strA_cell (l : List (List UInt8)) : (∀ x ∈ strA l, isCell x = true) ↔ True := iff_true_intro <| by simp [strA, isCell]
theorem strA_snoc (l : List (List UInt8)) (b : List UInt8) : strA (l ++ [b]) = strA l ++ [.c (.string (str b))] := by simp [strA]
theorem batchA_get0 (l : List (List UInt8)) (j : Nat) (hj : j < l.length) : (List.drop j (batchA l))[0]? = some (.fs 1 l[j].length (u8av l[j])) := by rw [List.getElem?_drop, Nat.add_zero, batchA_get _ _ hj]
theorem take_eq_of {a b : List (List UInt8)} {j : Nat} (ha : j < a.length) (hb : j < b.length) (h : a.take j = b.take j) (e : a[j] = b[j]) : a.take (j + 1) = b.take (j + 1) := by
  rw [List.take_succ_eq_append_getElem ha, List.take_succ_eq_append_getElem hb, h, e]
theorem same_log (a b : List (List UInt8)) (ha : a.length ≤ 1000000) (hb : b.length ≤ 1000000) : ACalls Try.prog 15 [.fs 1 a.length (batchA a), .fs 1 b.length (strA b)] [] (fun _ => true) (fun r h' => r = .c (.bool (decide (a = b))) ∧ h' = []) := by
  refine acalls mixed Try.func15 rfl Try.ntmps15 rfl fun E hE _ hho => ?_
  by_cases hl : a.length = b.length
  · simp (maxSteps := 1000000) [hho, hl, -List.reduceReplicate]
    refine loop_k mixed (fun j : Nat => ⟨slotsOf 27 [(0, .fs 1 a.length (batchA a)), (1, .fs 1 b.length (strA b)), (12, .c (.int .i64 a.length)), (13, .c (.int .i64 (j : Int)))], []⟩) (fun j => a.length - j) (fun j => j ≤ a.length ∧ a.take j = b.take j) 0 ⟨Nat.zero_le _, rfl⟩ ?_ ?_
    · exact wk_all (by simp [hE, lens]) (by simp) (by simp [livH, livO, AV.livL, AV.liv, wkL, wkV, List.range', slotsOf, hl])
    · rintro j ⟨hj, hI⟩
      by_cases hjl : j < a.length
      · have hjb : j < b.length := by omega
        have hjl' : (j : Int) < a.length := by omega
        have ew : IntKind.i64.wrap ((j : Int) + 1) = (j + 1 : Nat) := by rw [IntWalk.i64_in _ (by omega)]; rfl
        have hg := batchA_get0 a j hjl
        have hs := strA_get b j hjb
        simp (maxSteps := 1000000) [hho, slotsOf, hjl, hjb, -List.reduceReplicate]
        refine draw_k hho (.take 0 (.take 1 (.take 2 (.take 3 (.take 4 (.take 5 (.take 6 (.take 7 (.take 8 (.take 9 (.done))))))))))) [] [] (by decide +kernel) (by simp) ?_
        simp (maxSteps := 1000000) [hho, roOf, holdOf, wrOf, altK, heldOk, Region.binds, hg, hs, hjl, hjb, bytesOf_str, ew, -List.reduceReplicate]
        refine ⟨by omega, isU8_all _, by omega, ?_⟩
        split
        · rename_i he
          have he' := str_inj.1 he
          refine round_next (j + 1) ⟨by omega, take_eq_of hjl hjb hI he'⟩ (by omega) ?_
          exact wk_all (by simp [hE, lens]) (by simp) (by simp [livH, livO, AV.livL, AV.liv, wkL, wkV, List.range', slotsOf])
        · rename_i he
          have hne : a ≠ b := by rintro rfl; exact he rfl
          exact Ret.same ⟨by simp [hne], rfl⟩
      · obtain rfl : j = a.length := by omega
        have hab : a = b := by
          rw [List.take_of_length_le (by omega), List.take_of_length_le (by omega)] at hI; exact hI
        simp (maxSteps := 1000000) [hho, slotsOf, -List.reduceReplicate]
        exact Ret.same ⟨by simp [hab], rfl⟩
  · have hne : a ≠ b := by rintro rfl; exact hl rfl
    have hl' : ¬ (a.length : Int) = b.length := by omega
    simp (maxSteps := 1000000) [hho, hl, hl', -List.reduceReplicate]
    exact Ret.same ⟨by simp [hne], rfl⟩
/-- a row in a slot stays as it is from now on, and is data there -/
theorem wk_frozen {E : Env} {s : AS} (i r : Nat) {e n : Nat} {l : List AV} (h0 : s.t[i]? = some (.sl r 1 0 n n)) (h1 : s.h[r]? = some (.o (.row e 1) l)) (hho : E.ho = noHo) (hl : l.length = n) (hn : n ≤ maxLen) (hd : l.all isD = true) : Wk E s ⟨s.t.set i (.fs 1 n l), s.h.set r (.o .fz l)⟩ := by
  refine Wk.trans (wk_fz r h1 (by rw [hho]; rfl)) ?_
  have h2 : (s.h.set r (.o .fz l))[r]? = some (.o .fz l) := List.getElem?_set_self (List.getElem?_eq_some_iff.1 h1).1
  have e1 : (l.drop 0).take (n * 1) = l := by rw [List.drop_zero, List.take_of_length_le (by omega)]
  refine wk_slot i h0 fun G F w v hh hv => ?_
  have := fz_fs (off := 0) h2 hl (by omega) hn (by rw [e1]; exact hd) hh hv
  rw [e1] at this
  exact this
end Go.Proofs.Ytmgpiminicgbiaa
namespace Go.Proofs.Ytmgpiminicgbiaa
set_option linter.unusedVariables false
set_option linter.unusedSimpArgs false
open Go.RowKit
attribute [local simp] isCut_nil isCut_region isCut_seq isCut_block isCut_loop isCut_cond isCut_skip isCut_exit isCut_ret isCut_range swapK putK altK condK_bool pickP_bool stepP stepO onPure_some onPure_none onImpl_some onImpl_none stepC onGP_some onGP_none onGV_some condG mkG onIt_it nextP_ptr takeP_eq takeV_some takeV_none takeU_some takeU_none takeQ takeW_some takeN_none takeN_some takeG_some takeO_some altO_some pureV binV2 eqF eqOp ovlV ovl2 rowAt capV binV intBin strBin isSh shV fldV ixV sliceV slice3V loadAV nilV lenV callV unV convV viewS cellsH loadV fldCut AV.ung AV.ungs AV.gc AV.cells AS.ev AS.put anyS gcsV gcO lens lnO gV guardV retK RetP_eq resV oneV anyRo loIx hiIx implO callP_clo evL gcsL clearV storeAV AS.push AS.setO appV appZ shortS copyV buildV partsV fillV srcV fzO okV isCell_c isCell_ptr isCell_sl isCell_fs isCell_fp isCell_clo rowZ_one rowZ_zero rowZ_2 rowZ_3 rowZ_4 rowZ_5 rowZ_6 rowZ_7 rowZ_8 rowZ_9 rowZ_10 rowZ_11 rowZ_12 noHo Value.oneCell' max2V min2V lookV updV updK updW cvals mkAt basV lenM msAt afterH putBack frzFrom frzO rebO backIx nilEq_sl nilEq_fs nilEq_ifn nilEq_ifh ifOp_eql ifOp_neq isLit nilOp_eql nilOp_neq AV.reb AV.rebL
attribute [local simp ↓] runK_skip runK_region runK_draw runK_seq runK_cut runK_cond runK_block runK_loop runK_exit runK_label runK_goto runK_ret runK_range contK_nil contK_seq contK_seq_ret contK_seq_exit contK_seq_goto contK_block contK_block_ret contK_block_goto contK_block_exit runO_nil runO_cons roundK_exit roundK_ret roundK_goto exitK_ret cutK_ret cutK_exit runE_done runE_nil runE_take runE_alt condG_true condG_false
set_option maxRecDepth 10000
/-! ## Scripts that come in -/
structure Op7 where
  kind : Int
  i : Int
  b : List UInt8
  tears : List Int
def op7A (o : Op7) : List AV := [.c (.int .i64 o.kind), .c (.int .i64 o.i), .fs 1 o.b.length (u8av o.b), .fs 1 o.tears.length (intAV o.tears)]
structure Op7.Ok (o : Op7) : Prop where
  k : i64ok o.kind
  i : i64ok o.i
  b : o.b.length ≤ maxLen
  tl : o.tears.length ≤ maxLen
  t : ∀ x ∈ o.tears, i64ok x
def opnBytes : Opn Try.prog 33 (List UInt8) :=
  (opnSlice (opnU8 Try.underlying5 (by kernel_rfl)) 1 Try.underlying33 (by kernel_rfl) (by kernel_rfl) (by decide)).map id (fun l => [.fs 1 l.length (u8av l)]) (fun l => l.length ≤ maxLen) (fun l => by simp only [opnSlice, opnU8, id]; rw [flat_u8]) (fun l h => h.1) fun _ => by kernel_rfl
def opnInts : Opn Try.prog 23 (List Int) :=
  (opnSlice (opnInt .i64 Try.underlying3 (by kernel_rfl)) 1 Try.underlying23 (by kernel_rfl) (by kernel_rfl) (by decide)).map id (fun l => [.fs 1 l.length (intAV l)]) (fun l => l.length ≤ maxLen ∧ ∀ x ∈ l, i64ok x) (fun l => by simp only [opnSlice, opnInt, id]; rw [flat_int]) (fun l h => ⟨h.1, fun x hx => bounds_i64 (h.2 x hx)⟩) fun _ => by kernel_rfl
def opnInt64 : Opn Try.prog 3 Int := opnInt .i64 Try.underlying3 (by kernel_rfl)
def opnOp7 : Opn Try.prog 35 Op7 :=
  (opnStruct Try.underlying35 rfl (opnCons 1 opnInt64 (by kernel_rfl) rfl (opnCons 1 opnInt64 (by kernel_rfl) rfl (opnCons 1 opnBytes (by kernel_rfl) rfl (opnCons 1 opnInts (by kernel_rfl) rfl (opnNil 4))))) (by kernel_rfl)).map
    (fun x : Int × Int × List UInt8 × List Int × Unit => (⟨x.1, x.2.1, x.2.2.1, x.2.2.2.1⟩ : Op7)) op7A Op7.Ok (fun _ => rfl) (fun x h => ⟨bounds_i64 h.1, bounds_i64 h.2.1, h.2.2.1, h.2.2.2.1.1, h.2.2.2.1.2⟩) fun _ => by kernel_rfl
@[simp] theorem op7A_length (o : Op7) : (op7A o).length = 4 := rfl
def scriptA (l : List Op7) : List AV := l.flatMap op7A
def opnScript7 : Opn Try.prog 22 (List Op7) :=
  (opnSlice opnOp7 4 Try.underlying22 (by kernel_rfl) (by kernel_rfl) (by decide)).map id (fun l => [.fs 4 l.length (scriptA l)]) (fun l => l.length ≤ maxLen ∧ ∀ o ∈ l, o.Ok) (fun _ => rfl) (fun l h => h) fun _ => by kernel_rfl
@[simp] theorem scriptA_length (l : List Op7) : (scriptA l).length = l.length * 4 := flat_length op7A 4 (by simp) l
/-! ## A log on a new device -/
def startB (n : Nat) : Bool := let W := openS (newS (n + 2)) n
  decide (W.1 = 0) && W.2.1.wait.isEmpty && !W.2.1.bound && decide (W.2.1.kept.length = n + 2) && okB W.2.1 && decide (W.2.1.calls ≤ 2) && decide (W.2.2.frames = n) && decide (W.2.2.h.n = 1) && decide (W.2.2.h.epoch = 1) && decide (W.2.2.h.base = 0) && decide (W.2.2.h.body = []) && decide (W.2.2.at_ = 0) && W.2.2.bs.isEmpty && !W.2.2.down
    && decide ((keptL W.2.1 1) = headL ⟨1, 1, 0, []⟩) && decide (keptL W.2.1 0 = z64) && (List.range n).all fun k => decide (keptL W.2.1 (2 + k) = z64)
theorem z64_at (j : Nat) : at8 z64 j = 0 := by unfold at8 z64; rw [List.getElem?_replicate]; split <;> rfl
theorem start_of {n : Nat} (hn : n ≤ 200) (h : startB n = true) : (openS (newS (n + 2)) n).1 = 0 ∧ DOk n 2 (openS (newS (n + 2)) n).2.1 ∧ (openS (newS (n + 2)) n).2.1.wait = [] ∧ (openS (newS (n + 2)) n).2.1.bound = false ∧ (openS (newS (n + 2)) n).2.2 = ⟨n, ⟨1, 1, 0, []⟩, 0, [], false⟩ ∧ UpC n (secL (openS (newS (n + 2)) n).2.1) 1 0 [] [] 0 0 := by
  obtain ⟨W, hW⟩ : ∃ W, W = openS (newS (n + 2)) n := ⟨_, rfl⟩
  unfold startB at h
  rw [← hW] at h ⊢
  simp only [Bool.and_eq_true, decide_eq_true_eq, Bool.not_eq_true', List.isEmpty_iff, List.all_eq_true, List.mem_range] at h
  obtain ⟨⟨⟨⟨⟨⟨⟨⟨⟨⟨⟨⟨⟨⟨⟨⟨a1, a2⟩, a3⟩, a4⟩, a5⟩, a6⟩, a7⟩, a8⟩, a9⟩, b1⟩, b2⟩, b3⟩, b4⟩, b5⟩, b6⟩, b7⟩, b8⟩ := h
  have hs : ∀ i, secL W.2.1 i = keptL W.2.1 i := fun i => secL_dry a2 i
  have hf : ∀ k, k < n → secL W.2.1 (2 + k) = z64 := fun k hk => by rw [hs]; exact b8 k hk
  have hz : ∀ k : Int, unframeF z64 k = none := fun k => by unfold unframeF; exact if_pos (.inr (.inr (.inr (.inr (by decide +kernel)))))
  refine ⟨a1, ⟨(okB_ok a5).1, a4, a6⟩, a2, a3, ?_, ⟨⟨by decide, by decide, by decide, by decide, by rw [hs]; exact b6, ⟨by rw [hs]; exact keptL_len _ _, ?_, ?_⟩, fun k hk => by rw [hf k hk]; exact ⟨z64_length, fun j _ => z64_at j, by rw [z64_at]; decide, fun j _ _ => z64_at j, .inl (z64_at _)⟩, Nat.zero_le _, Nat.le_refl _, by decide, rfl, ?_⟩, fun k _ hk => by rw [hf k hk, z64_at]; decide⟩⟩
  · cases hL : W.2.2 with
    | mk f hh at_ bs dn =>
      cases hh with
      | mk hn he hb hbd => rw [hL] at a7 a8 a9 b1 b2 b3 b4 b5; simp only at *; simp [a7, a8, a9, b1, b2, b3, b4, b5]
  · intro k hk; rw [hs]; show at8 (keptL W.2.1 0) k = 0; rw [b7]
    exact z64_at k
  · rw [hs]; show (at8 (keptL W.2.1 0) 63).toNat = 0; rw [b7]; rfl
  · intro p e _ hp _ hq
    obtain ⟨f, f1, _⟩ := hq p (Nat.zero_le _) (Nat.le_refl _)
    unfold frC at f1
    rw [hf p hp, hz] at f1
    cases f1
theorem start58 : startB 58 = true := by decide +kernel
theorem start38 : startB 38 = true := by decide +kernel
end Go.Proofs.Ytmgpiminicgbiaa
