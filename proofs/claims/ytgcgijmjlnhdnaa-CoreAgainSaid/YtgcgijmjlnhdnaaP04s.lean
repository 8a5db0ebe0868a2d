/- What the plain laws are about. -/
import Derived.Test.YtgcgijmjlnhdnaaPx13
