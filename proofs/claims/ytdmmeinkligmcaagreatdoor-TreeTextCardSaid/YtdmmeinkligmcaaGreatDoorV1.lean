/- Words in a list of words: tree.is, Closes, Void, as lists of names. -/
import Derived.Test.YtdmmeinkligmcaaGreatDoorModel
import Derived.Lib.IndexAny
set_option linter.unusedVariables false
set_option maxRecDepth 100000
set_option maxHeartbeats 2000000
namespace Go.Proofs.YtdmmeinkligmcaaGreatDoor

/-- Words, a blank ahead of each, and one behind the last. -/
def joinW (ws : List Bs) : Bs := ws.flatMap (fun w => 32 :: w) ++ [32]
theorem span_eq : ∀ (a b : Bs) (r q : Bs), 32 ∉ a → 32 ∉ b → a ++ 32 :: r = b ++ 32 :: q → a = b ∧ r = q
  | [], [], r, q, _, _, h => by simpa using h
  | [], y :: b, r, q, _, hb, h => by simp at h; simp [h.1] at hb
  | x :: a, [], r, q, ha, _, h => by simp at h; simp [h.1] at ha
  | x :: a, y :: b, r, q, ha, hb, h => by
    simp only [List.cons_append, List.cons.injEq] at h
    obtain ⟨h1, h2⟩ := span_eq a b r q (fun k => ha (List.mem_cons_of_mem _ k)) (fun k => hb (List.mem_cons_of_mem _ k)) h.2
    exact ⟨by rw [h.1, h1], h2⟩
theorem span_sub : ∀ (w a : Bs) (r q : Bs), 32 ∉ w → a ++ 32 :: r = w ++ q → ∃ a', a' ++ 32 :: r = q
  | [], a, r, q, _, h => ⟨a, h⟩
  | x :: w, [], r, q, hw, h => by simp at h; simp [h.1] at hw
  | x :: w, y :: a, r, q, hw, h => by
    simp only [List.cons_append, List.cons.injEq] at h
    exact span_sub w a r q (fun k => hw (List.mem_cons_of_mem _ k)) h.2
theorem join_head (ws : List Bs) : ∃ r, joinW ws = 32 :: r := by
  cases ws with
  | nil => exact ⟨[], rfl⟩
  | cons w ws => exact ⟨w ++ joinW ws, by simp [joinW]⟩
theorem join_cons (w : Bs) (ws : List Bs) : joinW (w :: ws) = 32 :: (w ++ joinW ws) := by simp [joinW]
theorem word_mem (name : Bs) (hn : 32 ∉ name) : ∀ (ws : List Bs), (∀ w, w ∈ ws → 32 ∉ w) → ∀ (a b : Bs), a ++ 32 :: (name ++ 32 :: b) = joinW ws → name ∈ ws
  | [], _, a, b, h => by
    have := congrArg List.length h
    simp [joinW] at this
    omega
  | w :: ws, hw, a, b, h => by
    rw [join_cons] at h
    cases a with
    | nil =>
      simp only [List.nil_append, List.cons.injEq, true_and] at h
      obtain ⟨r, hr⟩ := join_head ws
      rw [hr] at h
      obtain ⟨h1, _⟩ := span_eq name w b r hn (hw w (List.mem_cons_self ..)) h
      rw [h1]; exact List.mem_cons_self ..
    | cons x a =>
      simp only [List.cons_append, List.cons.injEq] at h
      obtain ⟨a', h'⟩ := span_sub w a _ _ (hw w (List.mem_cons_self ..)) h.2
      exact List.mem_cons_of_mem _ (word_mem name hn ws (fun v hv => hw v (List.mem_cons_of_mem _ hv)) a' b h')
theorem mem_word (name : Bs) : ∀ (ws : List Bs), name ∈ ws → ∃ a b, a ++ 32 :: (name ++ 32 :: b) = joinW ws
  | w :: ws, h => by
    rw [join_cons]
    rcases List.mem_cons.1 h with h | h
    · subst h
      obtain ⟨r, hr⟩ := join_head ws
      exact ⟨[], r, by rw [hr]; rfl⟩
    · obtain ⟨a, b, e⟩ := mem_word name ws h
      exact ⟨32 :: (w ++ a), b, by rw [← e]; simp⟩
theorem contains_infix (s k : Bs) : Lib.contains s k = true ↔ ∃ a b, a ++ (k ++ b) = s := by
  unfold Lib.contains
  rw [decide_eq_true_eq]
  constructor
  · intro h
    rcases Lib.index_spec s k with ⟨h1, _⟩ | ⟨i, h1, h2, h3, _⟩
    · omega
    · have h4 : k <+: s.drop i := List.isPrefixOf_iff_prefix.1 h3
      obtain ⟨b, hb⟩ := h4
      exact ⟨s.take i, b, by rw [hb, List.take_append_drop]⟩
  · rintro ⟨a, b, e⟩
    rcases Lib.index_spec s k with ⟨_, h2⟩ | ⟨i, h1, _⟩
    · have h3 := h2 a.length (by rw [← e]; simp)
      have h4 : k.isPrefixOf (s.drop a.length) = true := by rw [List.isPrefixOf_iff_prefix, ← e, List.drop_left]; exact ⟨b, rfl⟩
      exact absurd h3 (by unfold Lib.occAt; rw [h4]; simp)
    · omega
theorem index_mem (name : Bs) : decide (0 ≤ Lib.indexByte name 32) = name.contains 32 := (Lib.contains_iff_indexByte name 32).symm
/-- tree.is of words that are joined. -/
theorem isOne_words (all : Bs) (ws : List Bs) (he : joinW ws = [32] ++ all ++ [32]) (hw : (ws.all fun w => !w.contains 32) = true) (name : Bs) :
    isOne all name = (!name.isEmpty && ws.contains name) := by
  have hw' : ∀ w, w ∈ ws → 32 ∉ w := fun w h => by have := List.all_eq_true.1 hw w h; simpa using this
  unfold isOne
  rw [index_mem, ← he]
  by_cases h1 : name.isEmpty = true
  · simp [h1]
  · have h1' : name.isEmpty = false := by simpa using h1
    rw [h1']
    by_cases h2 : (32 : UInt8) ∈ name
    · have h3 : ws.contains name = false := by
        rw [Bool.eq_false_iff]; intro h
        exact hw' name (by simpa using h) h2
      simp [h2]
      intro h; exact absurd h2 (hw' name h)
    · rw [Bool.eq_iff_iff]
      have e0 : name.contains 32 = false := by rw [Bool.eq_false_iff]; intro h; exact h2 (by simpa using h)
      rw [e0]
      simp only [Bool.not_false, Bool.true_and, List.contains_iff_mem]
      rw [contains_infix]
      constructor
      · rintro ⟨a, b, e⟩
        exact word_mem name h2 ws hw' a b (by rw [← e]; simp)
      · intro h
        obtain ⟨a, b, e⟩ := mem_word name ws h
        exact ⟨a, b, by rw [← e]; simp⟩
def voidW : List Bs := [[], [97, 114, 101, 97], [98, 97, 115, 101], [98, 114], [99, 111, 108], [101, 109, 98, 101, 100], [104, 114], [105, 109, 103], [105, 110, 112, 117, 116], [108, 105, 110, 107], [109, 101, 116, 97], [115, 111, 117, 114, 99, 101], [116, 114, 97, 99, 107], [119, 98, 114], []]
def wallW : List Bs := [[], [116, 97, 98, 108, 101], [98, 117, 116, 116, 111, 110], [117, 108], [111, 108], [100, 108], [115, 118, 103], [109, 97, 116, 104], [116, 101, 109, 112, 108, 97, 116, 101], [111, 98, 106, 101, 99, 116], [97, 112, 112, 108, 101, 116], [109, 97, 114, 113, 117, 101, 101], []]
def blockW : List Bs := [[97, 100, 100, 114, 101, 115, 115], [97, 114, 116, 105, 99, 108, 101], [97, 115, 105, 100, 101], [98, 108, 111, 99, 107, 113, 117, 111, 116, 101], [99, 101, 110, 116, 101, 114], [100, 101, 116, 97, 105, 108, 115], [100, 105, 118], [100, 108], [102, 105, 101, 108, 100, 115, 101, 116], [102, 105, 103, 117, 114, 101], [102, 111, 111, 116, 101, 114], [102, 111, 114, 109], [104, 49], [104, 50], [104, 51], [104, 52], [104, 53], [104, 54], [104, 101, 97, 100, 101, 114], [104, 114], [108, 105], [109, 97, 105, 110], [110, 97, 118], [111, 108], [112], [112, 114, 101], [115, 101, 99, 116, 105, 111, 110], [116, 97, 98, 108, 101], [117, 108], [100, 100], [100, 116]]
def headW : List Bs := [[104, 49], [104, 50], [104, 51], [104, 52], [104, 53], [104, 54]]
theorem void_words (name : Bs) : voidB name = (!name.isEmpty && voidW.contains name) := isOne_words _ _ (by decide) (by decide) name
theorem wall_words (name : Bs) : isOne wallsL name = (!name.isEmpty && wallW.contains name) := isOne_words _ _ (by decide) (by decide) name
theorem blocks_words (name : Bs) : isOne blocksL name = (!name.isEmpty && blockW.contains name) := isOne_words _ _ (by decide) (by decide) name
theorem heads_words (name : Bs) : isOne headsL name = (!name.isEmpty && headW.contains name) := isOne_words _ _ (by decide) (by decide) name
theorem dd_words (name : Bs) : isOne ddL name = (!name.isEmpty && [[100, 100], [100, 116]].contains name) := isOne_words _ _ (by decide) (by decide) name
theorem td_words (name : Bs) : isOne tdL name = (!name.isEmpty && [[116, 100], [116, 104], [116, 114]].contains name) := isOne_words _ _ (by decide) (by decide) name
theorem nil_words (name : Bs) : isOne [] name = false := by rw [isOne_words [] [[]] (by decide) (by decide) name]; cases name <;> simp
theorem one_words (o name : Bs) (ho : o.contains 32 = false) (hn : o ≠ []) : isOne o name = (name == o) := by
  rw [isOne_words o [o] (by simp [joinW]) (by simpa using ho) name, Bool.eq_iff_iff]
  simp only [Bool.and_eq_true, List.contains_cons, List.contains_nil, Bool.or_false, beq_iff_eq]
  constructor
  · rintro ⟨_, h⟩; exact h
  · intro h; exact ⟨by subst h; cases name <;> simp_all, h⟩
end Go.Proofs.YtdmmeinkligmcaaGreatDoor
