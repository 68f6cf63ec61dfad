/- Items in a list, none of them ended: the tree of the document. -/
import Derived.Test.YtdmmeinkligmcaaGreatDoorW1
import Derived.Test.YtdmmeinkligmcaaGreatDoorW3
set_option linter.unusedVariables false
set_option maxRecDepth 100000
set_option maxHeartbeats 2000000
namespace Go.Proofs.YtdmmeinkligmcaaGreatDoor

def ulB : Bs := [60, 117, 108, 62]
def liB : Bs := [60, 108, 105, 62]
def endUlB : Bs := [60, 47, 117, 108, 62]
/-- The rest of the document: so many items, the end. -/
def itemsB : Nat → Bs
  | 0 => endUlB ++ [121]
  | n + 1 => liB ++ 120 :: itemsB n
/-- The text that the law writes in its loop. -/
def repB : Nat → Bs
  | 0 => ulB
  | n + 1 => repB n ++ (liB ++ [120])
theorem repB_items : ∀ (n k : Nat), repB n ++ itemsB k = ulB ++ itemsB (n + k)
  | 0, k => by simp [repB]
  | n + 1, k => by
    have := repB_items n (k + 1)
    rw [show n + 1 + k = n + (k + 1) by omega, ← this]
    simp [repB, itemsB]
def ulK : Tk := ⟨2, [117, 108], [], []⟩
def liK : Tk := ⟨2, [108, 105], [], []⟩
def xK : Tk := ⟨1, [], [], [120]⟩
def yK : Tk := ⟨1, [], [], [121]⟩
def endUlK : Tk := ⟨3, [117, 108], [], []⟩
theorem mark_ul (s : Bs) (ts : List Tk) : markupS (ulB ++ s) ts = (s, ts ++ [ulK]) := rfl
theorem mark_li (s : Bs) (ts : List Tk) : markupS (liB ++ s) ts = (s, ts ++ [liK]) := rfl
theorem mark_endUl (s : Bs) (ts : List Tk) : markupS (endUlB ++ s) ts = (s, ts ++ [endUlK]) := rfl
theorem scanL_tag (e s : Bs) (k : Tk) (hb : beginsB (e ++ s) = true) (hm : markupS (e ++ s) [] = (s, [k])) (hk : k.kind ≠ 1) (he : 1 ≤ e.length) : scanL (e ++ s) = k :: scanL s := by
  have := build_mark (e ++ s) hb (by rw [hm]; simp; omega) (by rw [hm]; intro q hq; simp at hq; subst hq; exact hk)
  rw [this, hm]; rfl
theorem scanL_x (e s : Bs) (k : Tk) (hb0 : beginsB (120 :: (e ++ s)) = false) (hb : beginsB (e ++ s) = true) (hm : ∀ ts, markupS (e ++ s) ts = (s, ts ++ [k])) (hk : k.kind ≠ 1) (he : 1 ≤ e.length) : scanL (120 :: (e ++ s)) = xK :: scanL (e ++ s) := by
  rw [scanL_tag e s k hb (hm []) hk he]
  have h0 : headN (e ++ s) = 0 := by
    match h : e ++ s with
    | [] => rfl
    | c :: r => unfold headN; rw [if_pos (by rw [← h]; exact hb)]
  have h1 : headN (120 :: (e ++ s)) = 1 := by unfold headN; rw [if_neg (by rw [hb0]; decide), h0]
  have hne : e ++ s ≠ [] := by intro h; have h2 := (List.append_eq_nil_iff.1 h).1; subst h2; simp at he
  unfold scanL
  rw [scanF, if_neg (by simp), h1]
  simp only [List.drop_succ_cons, List.drop_zero, List.take_succ_cons, List.take_zero]
  rw [if_neg hne, show charsK [] (decodeL [120]) = [xK] from rfl, hm]
  have h2 := scanF_pre ([xK] ++ [k]) (fun q hq => by simp at hq; subst hq; exact hk) (120 :: (e ++ s)).length s []
  rw [List.append_nil] at h2
  rw [h2]
  show xK :: k :: _ = _
  congr 2
  exact scanF_more _ _ _ _ (by simp; omega) (by omega)
theorem scan_items : ∀ (n : Nat), scanL (itemsB n) = (List.replicate n [liK, xK]).flatten ++ [endUlK, yK]
  | 0 => by rfl
  | n + 1 => by
    have h1 : scanL (itemsB (n + 1)) = liK :: scanL (120 :: itemsB n) := scanL_tag liB (120 :: itemsB n) liK rfl (mark_li _ _) (by decide) (by decide)
    have h2 : scanL (120 :: itemsB n) = xK :: scanL (itemsB n) := by
      cases n with
      | zero => exact scanL_x endUlB [121] endUlK rfl rfl (fun ts => mark_endUl _ ts) (by decide) (by decide)
      | succ n => exact scanL_x liB (120 :: itemsB n) liK rfl rfl (fun ts => mark_li _ ts) (by decide) (by decide)
    rw [h1, h2, scan_items n]
    simp [List.replicate_succ]
theorem scan_list (n : Nat) : scanL (ulB ++ itemsB n) = ulK :: ((List.replicate n [liK, xK]).flatten ++ [endUlK, yK]) := by
  rw [scanL_tag ulB (itemsB n) ulK rfl (mark_ul _ _) (by decide) (by decide), scan_items n]
def ulF (ks : List Nd) : Fm := ⟨[117, 108], [], ks⟩
def liF : Fm := ⟨[108, 105], [], [.mk [] [] [120] []]⟩
def rootF (ks : List Nd) : Fm := ⟨[], [], ks⟩
def liN : Nd := .mk [108, 105] [] [] [.mk [] [] [120] []]
theorem stepZ_start (p : List Fm × Nat) (t : Tk) (h : t.kind = 2) : stepZ p t = startZ p.1 p.2 t.name t.attrs := by
  unfold stepZ; rw [if_neg (by omega), if_pos h]
theorem stepZ_chars (p : List Fm × Nat) (t : Tk) (h : t.kind = 1) : stepZ p t = charsZ p.1 p.2 t.text := by
  unfold stepZ; rw [if_pos h]
theorem stepZ_end (p : List Fm × Nat) (t : Tk) (h : t.kind = 3) : stepZ p t = (endZ p.1 t.name, p.2) := by
  unfold stepZ; rw [if_neg (by omega), if_neg (by omega), if_pos h]
theorem startZ_push (z : List Fm) (c : Nat) (name : Bs) (attrs : List At) (ns : List Bs) (k : Nat) (f : Fm) (fs : List Fm) (hc : c ≠ 5000) (hn : namesZ z = ns) (hk : (shutAll (closesB name) ns).length = k) (hp : popTo (z.length - k) z = f :: fs) (hv : voidB name = false) (h30 : k ≤ 30) : startZ z c name attrs = (⟨name, attrs, []⟩ :: f :: fs, c + 1) := by
  unfold startZ
  rw [if_neg hc, hn, hk, hp]
  simp [hv, h30]
theorem endZ_at (z : List Fm) (name : Bs) (ns : List Bs) (i : Nat) (hn : namesZ z = ns) (hi : shutI (fun n => n == name) ns (z.length - 1) = some i) : endZ z name = popTo (z.length - i) z := by
  unfold endZ
  rw [hn, hi]
theorem charsZ_fresh (f : Fm) (fs : List Fm) (c : Nat) (t : Bs) (hc : c ≠ 5000) (h : ∀ n a x k, f.kids.getLast? = some (.mk n a x k) → n ≠ []) : charsZ (f :: fs) c t = ({ f with kids := f.kids ++ [.mk [] [] t []] } :: fs, c + 1) := by
  rw [charsZ_new f fs c t h, if_neg hc]
theorem step_ul : stepZ ([rootF []], 0) ulK = ([ulF [], rootF []], 1) := by
  rw [stepZ_start _ _ rfl]
  exact startZ_push _ _ _ _ [[]] 1 (rootF []) [] (by decide) rfl (by decide) rfl (by decide) (by decide)
theorem step_x (fs : List Fm) (c : Nat) (hc : c < 4000) : stepZ (⟨[108, 105], [], []⟩ :: fs, c) xK = (liF :: fs, c + 1) := by
  rw [stepZ_chars _ _ rfl]
  exact charsZ_fresh _ _ _ _ (by show c ≠ 5000; omega) (fun n a x k h => by simp at h)
theorem step_li0 (c : Nat) (hc : c < 3000) : stepZ (stepZ ([ulF [], rootF []], c) liK) xK = ([liF, ulF [], rootF []], c + 2) := by
  have h1 : stepZ ([ulF [], rootF []], c) liK = (⟨[108, 105], [], []⟩ :: [ulF [], rootF []], c + 1) := by
    rw [stepZ_start _ _ rfl]
    exact startZ_push _ _ _ _ [[], [117, 108]] 2 (ulF []) [rootF []] (by show c ≠ 5000; omega) rfl (by decide) rfl (by decide) (by decide)
  rw [h1, step_x _ _ (by omega)]
theorem step_li (ks : List Nd) (c : Nat) (hc : c < 3000) : stepZ (stepZ ([liF, ulF ks, rootF []], c) liK) xK = ([liF, ulF (ks ++ [liN]), rootF []], c + 2) := by
  have h1 : stepZ ([liF, ulF ks, rootF []], c) liK = (⟨[108, 105], [], []⟩ :: [ulF (ks ++ [liN]), rootF []], c + 1) := by
    rw [stepZ_start _ _ rfl]
    exact startZ_push _ _ _ _ [[], [117, 108], [108, 105]] 2 (ulF (ks ++ [liN])) [rootF []] (by show c ≠ 5000; omega) rfl (by decide) rfl (by decide) (by decide)
  rw [h1, step_x _ _ (by omega)]
theorem fold_items : ∀ (n c : Nat) (ks : List Nd), c + 2 * n < 3000 → (List.replicate n [liK, xK]).flatten.foldl stepZ ([liF, ulF ks, rootF []], c) = ([liF, ulF (ks ++ List.replicate n liN), rootF []], c + 2 * n)
  | 0, c, ks, _ => by simp
  | n + 1, c, ks, h => by
    rw [List.replicate_succ, List.flatten_cons, List.foldl_append]
    simp only [List.foldl_cons, List.foldl_nil]
    rw [step_li ks c (by omega), fold_items n (c + 2) (ks ++ [liN]) (by omega)]
    rw [List.append_assoc, show c + 2 + 2 * n = c + 2 * (n + 1) by omega]
    rfl
theorem fold_all (n : Nat) (hn : 1 ≤ n) (h : n ≤ 60) : (List.replicate n [liK, xK]).flatten.foldl stepZ ([ulF [], rootF []], 1) = ([liF, ulF (List.replicate (n - 1) liN), rootF []], 1 + 2 * n) := by
  obtain ⟨m, rfl⟩ : ∃ m, n = m + 1 := ⟨n - 1, by omega⟩
  rw [List.replicate_succ, List.flatten_cons, List.foldl_append]
  simp only [List.foldl_cons, List.foldl_nil]
  rw [step_li0 1 (by decide), fold_items m 3 [] (by omega)]
  rw [show 1 + 2 * (m + 1) = 3 + 2 * m by omega]
  rfl
theorem step_end (ks : List Nd) (c : Nat) (hc : c < 3000) : stepZ (stepZ ([liF, ulF ks, rootF []], c) endUlK) yK = ([rootF [.mk [117, 108] [] [] (ks ++ [liN]), .mk [] [] [121] []]], c + 1) := by
  have h1 : stepZ ([liF, ulF ks, rootF []], c) endUlK = ([rootF [.mk [117, 108] [] [] (ks ++ [liN])]], c) := by
    rw [stepZ_end _ _ rfl]
    have := endZ_at [liF, ulF ks, rootF []] [117, 108] [[], [117, 108], [108, 105]] 1 rfl (show shutI (fun n => n == [117, 108]) [[], [117, 108], [108, 105]] 2 = some 1 by decide)
    show (endZ [liF, ulF ks, rootF []] [117, 108], c) = _
    rw [this]; rfl
  rw [h1, stepZ_chars _ _ rfl]
  exact charsZ_fresh _ _ _ _ (by show c ≠ 5000; omega) (fun n a x k h => by simp [rootF] at h; rw [← h.1]; decide)
theorem build_list (n : Nat) (h1 : 1 ≤ n) (h2 : n ≤ 60) : buildL (repB n ++ (endUlB ++ [121])) = [.mk [117, 108] [] [] (List.replicate n liN), .mk [] [] [121] []] := by
  have e : repB n ++ (endUlB ++ [121]) = ulB ++ itemsB n := repB_items n 0
  have hz : (buildZ (scanL (repB n ++ (endUlB ++ [121])))).1 = [rootF [.mk [117, 108] [] [] (List.replicate n liN), .mk [] [] [121] []]] := by
    rw [e, scan_list n]
    unfold buildZ
    rw [List.foldl_cons, show (⟨[], [], []⟩ : Fm) = rootF [] from rfl, step_ul, List.foldl_append, fold_all n h1 h2]
    simp only [List.foldl_cons, List.foldl_nil]
    rw [step_end _ _ (by omega)]
    obtain ⟨m, rfl⟩ : ∃ m, n = m + 1 := ⟨n - 1, by omega⟩
    show [rootF [.mk [117, 108] [] [] (List.replicate (m + 1 - 1) liN ++ [liN]), _]] = _
    rw [Nat.add_sub_cancel, ← List.replicate_succ']
  unfold buildL
  rw [hz]
  rfl
end Go.Proofs.YtdmmeinkligmcaaGreatDoor
