import Derived.Test.YthgoocdldnkogaaDoorNA
import Derived.Test.YthgoocdldnkogaaDoorMY

